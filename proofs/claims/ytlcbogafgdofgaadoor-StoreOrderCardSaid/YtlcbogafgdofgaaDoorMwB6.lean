import Derived.Test.YtlcbogafgdofgaaDoorMwB5
/- Arena (chapter 11): what the functions do that read alone. -/
namespace Go.Proofs.YtlcbogafgdofgaaDoor
open Go Go.MW
set_option linter.unusedSimpArgs false
set_option linter.unusedVariables false

/-- Segments: class and used bits. -/
abbrev Sg := Int × Nat
def segE : El Sg where
  sz := 2
  f p := .agg [.int .i64 p.1, .int .u64 p.2]
  d := (0, 0)
  im := false
  good p := ⟨rfl, by simp [V.cells, V.one]⟩
  free p j hj := by
    have : j = 0 ∨ j = 1 := by omega
    rcases this with rfl | rfl <;> exact .int _ _
theorem seg_f (p : Sg) : segE.f p = .agg [.int .i64 p.1, .int .u64 p.2] := rfl
theorem iaK_sg {v : V} {l : List Sg} (h : IsE segE v l) {H : List Blk} {k : IntKind} {n : Int} {K : V → Prop} (h0 : 0 ≤ n) (hn : n.toNat < l.length) : iaK H 2 v (.int k n) K = K (.vp [.int .i64 (l.getD n.toNat (0, 0)).1, .int .u64 (l.getD n.toNat (0, 0)).2]) :=
  iaK_isE h (e := segE) rfl h0 hn
theorem seg_d : segE.d = (0, 0) := rfl
theorem seg_free {im : Bool} (a b : Int) : Free im (.agg [.int .i64 a, .int .u64 b]) := free_agg2 (.int _ _) (.int _ _)
theorem slot_free {im : Bool} (a b : Int) : Free im (.agg [.int .i64 a, .int .i64 b]) := free_agg2 (.int _ _) (.int _ _)
def SegOK (l : List Sg) : Prop := ∀ p ∈ l, p.2 < 2 ^ 64
theorem SegOK.at {l : List Sg} (h : SegOK l) {i : Nat} (hi : i < l.length) : (l.getD i (0, 0)).2 < 2 ^ 64 := by
  rw [List.getD_eq_getElem?_getD, List.getElem?_eq_getElem hi]
  exact h _ (List.getElem_mem _)

def allN (c : Int) : Nat := 2 ^ slN c - 1
theorem allN_lt (c : Int) : allN c < 2 ^ 64 := by
  have : 2 ^ slN c ≤ 2 ^ 64 := Nat.pow_le_pow_right (by decide) (slN_le c)
  unfold allN
  omega
theorem all_fn (c : Int) : Does Tryd.prog G0 false 46 [.int .i64 c] (.int .u64 (allN c)) := by
  refine Does.intro mixed comp46 ?_
  unfold c46
  simp -implicitDefEqProofs (disch := omega) only [mwx, ne_eq, false_implies, implies_true, forall_eq_or_imp, MW.get, ev, evs, argFr, resK, packV, slHK, partsV, partsS, setR, Int.cast_ofNat_Int, Int.natCast_zero, Int.natCast_one, Nat.reduceLeDiff, reduceIte, Nat.reduceEqDiff, Nat.reduceBEq, reduceCtorEq, Nat.reduceAdd, Nat.reduceMul, Nat.reduceSub, Nat.reduceLT, Int.reduceToNat, Int.reduceLT, Int.reduceLE, Int.reduceEq, Int.reduceAdd, Int.reduceNeg, Int.reduceMul, Int.reduceSub]
  refine Does.call (slots_fn c) (fr1 (.int _ _)) ?_
  have h0 : (0 : Int) ≤ (slN c : Int) := by omega
  simp -implicitDefEqProofs (disch := omega) only [slts_slN, h0, shl1, mwx, ne_eq, false_implies, implies_true, forall_eq_or_imp, MW.get, ev, evs, argFr, resK, packV, slHK, partsV, partsS, setR, Int.cast_ofNat_Int, Int.natCast_zero, Int.natCast_one, Nat.reduceLeDiff, reduceIte, Nat.reduceEqDiff, Nat.reduceBEq, reduceCtorEq, Nat.reduceAdd, Nat.reduceMul, Nat.reduceSub, Nat.reduceLT, Int.reduceToNat, Int.reduceLT, Int.reduceLE, Int.reduceEq, Int.reduceAdd, Int.reduceNeg, Int.reduceMul, Int.reduceSub]
  refine frz_int ?_
  rw [wrap_u64i]
  have := Nat.two_pow_pos (slN c)
  unfold allN
  split
  · have : 2 ^ slN c < 2 ^ 64 := Nat.pow_lt_pow_right (by decide) (by assumption)
    omega
  · have := slN_le c
    have e : slN c = 64 := by omega
    rw [e]
    rfl

/-- May a segment be? -/
def sgOK (p : Sg) : Bool := if p.1 = -1 then p.2 == 0 else !(decide (slN p.1 = 0) || decide (p.2 = 0) || !decide (p.2 < 2 ^ slN p.1))
theorem check1_fn (p : Sg) (hp : p.2 < 2 ^ 64) : Does Tryd.prog G0 false 45 [.agg [.int .i64 p.1, .int .u64 p.2]] (.bool (!sgOK p)) := by
  obtain ⟨c, u⟩ := p
  refine Does.intro mixed comp45 ?_
  unfold c45
  simp -implicitDefEqProofs (disch := omega) only [mwx, ne_eq, false_implies, implies_true, forall_eq_or_imp, MW.get, ev, evs, argFr, resK, packV, slHK, partsV, partsS, setR, Int.cast_ofNat_Int, Int.natCast_zero, Int.natCast_one, Nat.reduceLeDiff, reduceIte, Nat.reduceEqDiff, Nat.reduceBEq, reduceCtorEq, Nat.reduceAdd, Nat.reduceMul, Nat.reduceSub, Nat.reduceLT, Int.reduceToNat, Int.reduceLT, Int.reduceLE, Int.reduceEq, Int.reduceAdd, Int.reduceNeg, Int.reduceMul, Int.reduceSub]
  refine xc_dec (fun h => ?_) fun h => ?_
  · simp -implicitDefEqProofs (disch := omega) only [mwx, ne_eq, false_implies, implies_true, forall_eq_or_imp, MW.get, ev, evs, argFr, resK, packV, slHK, partsV, partsS, setR, Int.cast_ofNat_Int, Int.natCast_zero, Int.natCast_one, Nat.reduceLeDiff, reduceIte, Nat.reduceEqDiff, Nat.reduceBEq, reduceCtorEq, Nat.reduceAdd, Nat.reduceMul, Nat.reduceSub, Nat.reduceLT, Int.reduceToNat, Int.reduceLT, Int.reduceLE, Int.reduceEq, Int.reduceAdd, Int.reduceNeg, Int.reduceMul, Int.reduceSub]
    refine frz_bool ?_
    simp only [sgOK, h, if_true]
    by_cases hu : u = 0
    · subst hu; rfl
    · have : ¬ ((u : Int) = 0) := by omega
      simp [hu, this]
  · simp -implicitDefEqProofs (disch := omega) only [mwx, ne_eq, false_implies, implies_true, forall_eq_or_imp, MW.get, ev, evs, argFr, resK, packV, slHK, partsV, partsS, setR, Int.cast_ofNat_Int, Int.natCast_zero, Int.natCast_one, Nat.reduceLeDiff, reduceIte, Nat.reduceEqDiff, Nat.reduceBEq, reduceCtorEq, Nat.reduceAdd, Nat.reduceMul, Nat.reduceSub, Nat.reduceLT, Int.reduceToNat, Int.reduceLT, Int.reduceLE, Int.reduceEq, Int.reduceAdd, Int.reduceNeg, Int.reduceMul, Int.reduceSub]
    refine Does.call (slots_fn c) (fr1 (.int _ _)) ?_
    simp -implicitDefEqProofs (disch := omega) only [slts_slN, mwx, ne_eq, false_implies, implies_true, forall_eq_or_imp, MW.get, ev, evs, argFr, resK, packV, slHK, partsV, partsS, setR, Int.cast_ofNat_Int, Int.natCast_zero, Int.natCast_one, Nat.reduceLeDiff, reduceIte, Nat.reduceEqDiff, Nat.reduceBEq, reduceCtorEq, Nat.reduceAdd, Nat.reduceMul, Nat.reduceSub, Nat.reduceLT, Int.reduceToNat, Int.reduceLT, Int.reduceLE, Int.reduceEq, Int.reduceAdd, Int.reduceNeg, Int.reduceMul, Int.reduceSub]
    refine xg_decf (fun h2 => ?_) fun h2 => ?_
    · simp -implicitDefEqProofs (disch := omega) only [h2, mwx, ne_eq, false_implies, implies_true, forall_eq_or_imp, MW.get, ev, evs, argFr, resK, packV, slHK, partsV, partsS, setR, Int.cast_ofNat_Int, Int.natCast_zero, Int.natCast_one, Nat.reduceLeDiff, reduceIte, Nat.reduceEqDiff, Nat.reduceBEq, reduceCtorEq, Nat.reduceAdd, Nat.reduceMul, Nat.reduceSub, Nat.reduceLT, Int.reduceToNat, Int.reduceLT, Int.reduceLE, Int.reduceEq, Int.reduceAdd, Int.reduceNeg, Int.reduceMul, Int.reduceSub]
      refine frz_bool ?_
      have h2' : slN c = 0 := by omega
      simp [sgOK, h, h2']
    · have h2' : ¬ slN c = 0 := by omega
      simp -implicitDefEqProofs (disch := omega) only [h2, mwx, ne_eq, false_implies, implies_true, forall_eq_or_imp, MW.get, ev, evs, argFr, resK, packV, slHK, partsV, partsS, setR, Int.cast_ofNat_Int, Int.natCast_zero, Int.natCast_one, Nat.reduceLeDiff, reduceIte, Nat.reduceEqDiff, Nat.reduceBEq, reduceCtorEq, Nat.reduceAdd, Nat.reduceMul, Nat.reduceSub, Nat.reduceLT, Int.reduceToNat, Int.reduceLT, Int.reduceLE, Int.reduceEq, Int.reduceAdd, Int.reduceNeg, Int.reduceMul, Int.reduceSub]
      refine xg_decf (fun h3 => ?_) fun h3 => ?_
      · simp -implicitDefEqProofs (disch := omega) only [h3, mwx, ne_eq, false_implies, implies_true, forall_eq_or_imp, MW.get, ev, evs, argFr, resK, packV, slHK, partsV, partsS, setR, Int.cast_ofNat_Int, Int.natCast_zero, Int.natCast_one, Nat.reduceLeDiff, reduceIte, Nat.reduceEqDiff, Nat.reduceBEq, reduceCtorEq, Nat.reduceAdd, Nat.reduceMul, Nat.reduceSub, Nat.reduceLT, Int.reduceToNat, Int.reduceLT, Int.reduceLE, Int.reduceEq, Int.reduceAdd, Int.reduceNeg, Int.reduceMul, Int.reduceSub]
        refine frz_bool ?_
        have h3' : u = 0 := by omega
        simp [sgOK, h, h3']
      · simp -implicitDefEqProofs (disch := omega) only [h3, mwx, ne_eq, false_implies, implies_true, forall_eq_or_imp, MW.get, ev, evs, argFr, resK, packV, slHK, partsV, partsS, setR, Int.cast_ofNat_Int, Int.natCast_zero, Int.natCast_one, Nat.reduceLeDiff, reduceIte, Nat.reduceEqDiff, Nat.reduceBEq, reduceCtorEq, Nat.reduceAdd, Nat.reduceMul, Nat.reduceSub, Nat.reduceLT, Int.reduceToNat, Int.reduceLT, Int.reduceLE, Int.reduceEq, Int.reduceAdd, Int.reduceNeg, Int.reduceMul, Int.reduceSub]
        refine Does.call (all_fn c) (fr1 (.int _ _)) ?_
        have hb : bitOp .andNot .u64 (u : Int) (allN c : Int) = ((u &&& (2 ^ 64 - 1 - (2 ^ slN c - 1)) : Nat) : Int) := by
          rw [bandNot64 hp (allN_lt c)]
          rfl
        simp -implicitDefEqProofs (disch := omega) only [h3, hb, mwx, ne_eq, false_implies, implies_true, forall_eq_or_imp, MW.get, ev, evs, argFr, resK, packV, slHK, partsV, partsS, setR, Int.cast_ofNat_Int, Int.natCast_zero, Int.natCast_one, Nat.reduceLeDiff, reduceIte, Nat.reduceEqDiff, Nat.reduceBEq, reduceCtorEq, Nat.reduceAdd, Nat.reduceMul, Nat.reduceSub, Nat.reduceLT, Int.reduceToNat, Int.reduceLT, Int.reduceLE, Int.reduceEq, Int.reduceAdd, Int.reduceNeg, Int.reduceMul, Int.reduceSub]
        refine frz_bool ?_
        have h3' : ¬ u = 0 := by omega
        have hm := and_mask_not hp (slN_le c)
        by_cases h4 : u < 2 ^ slN c
        · have e : u &&& (2 ^ 64 - 1 - (2 ^ slN c - 1)) = 0 := hm.2 h4
          simp only [sgOK, h, h2', h3', h4]
          rw [e]
          simp
        · have e : ¬ u &&& (2 ^ 64 - 1 - (2 ^ slN c - 1)) = 0 := fun e => h4 (hm.1 e)
          have e2 : ¬ (((u &&& (2 ^ 64 - 1 - (2 ^ slN c - 1)) : Nat) : Int) = 0) := by omega
          simp only [sgOK, h, h2', h3', h4, decide_eq_false e2]
          rfl

theorem bodied45 : (Tryd.prog.funcs[45]?).any (fun fn => fn.body.isSome && fn.name != "runtime.NumGoroutine") = true := by kernel_rfl
theorem bodied41 : (Tryd.prog.funcs[41]?).any (fun fn => fn.body.isSome && fn.name != "runtime.NumGoroutine") = true := by kernel_rfl
theorem bodied44 : (Tryd.prog.funcs[44]?).any (fun fn => fn.body.isSome && fn.name != "runtime.NumGoroutine") = true := by kernel_rfl

/-- The first one that may not be; -1: none. -/
def badAt (l : List Sg) : Int := match l.findIdx? (fun p => !sgOK p) with
  | some i => i
  | none => -1

theorem index_fn {v : V} {l : List Sg} (hv : IsE segE v l) (hl : SegOK l) (hn : l.length < 2 ^ 62) : Does Tryd.prog G0 false 52 [v, .fn (.func 45) [] []] (.int .i64 (badAt l)) := by
  refine Does.intro mixed comp52 ?_
  unfold c52
  simp -implicitDefEqProofs (disch := omega) only [lenK_isE hv, mwx, ne_eq, false_implies, implies_true, forall_eq_or_imp, MW.get, ev, evs, argFr, resK, packV, slHK, partsV, partsS, setR, Int.cast_ofNat_Int, Int.natCast_zero, Int.natCast_one, Nat.reduceLeDiff, reduceIte, Nat.reduceEqDiff, Nat.reduceBEq, reduceCtorEq, Nat.reduceAdd, Nat.reduceMul, Nat.reduceSub, Nat.reduceLT, Int.reduceToNat, Int.reduceLT, Int.reduceLE, Int.reduceEq, Int.reduceAdd, Int.reduceNeg, Int.reduceMul, Int.reduceSub]
  refine xl_loop (fun k st => ∃ i : Nat, k + i = l.length ∧ get st.fr 0 = v ∧ get st.fr 1 = .fn (.func 45) [] [] ∧ get st.fr 7 = .int .i64 l.length ∧ get st.fr 8 = .int .i64 i ∧ ∀ j (h : j < l.length), j < i → sgOK l[j] = true) l.length ⟨0, by omega, rfl, rfl, rfl, rfl, by omega⟩ ?_
  rintro J hJ k fr H ⟨i, h1, h2, h3, h4, h5, h6⟩
  simp -implicitDefEqProofs (disch := omega) only [h2, h3, h4, h5, mwx, ne_eq, false_implies, implies_true, forall_eq_or_imp, MW.get, ev, evs, argFr, resK, packV, slHK, partsV, partsS, setR, Int.cast_ofNat_Int, Int.natCast_zero, Int.natCast_one, Nat.reduceLeDiff, reduceIte, Nat.reduceEqDiff, Nat.reduceBEq, reduceCtorEq, Nat.reduceAdd, Nat.reduceMul, Nat.reduceSub, Nat.reduceLT, Int.reduceToNat, Int.reduceLT, Int.reduceLE, Int.reduceEq, Int.reduceAdd, Int.reduceNeg, Int.reduceMul, Int.reduceSub]
  refine xc_dec (fun h => ?_) fun h => ?_
  · have hi : i < l.length := by omega
    have hi0 : (0 : Int) ≤ (i : Int) := by omega
    have hi1 : (i : Int).toNat < l.length := by simpa using hi
    have hg : l.getD i (0, 0) = l[i] := by simp [List.getD_eq_getElem?_getD, hi]
    simp -implicitDefEqProofs (disch := omega) only [h2, h3, h4, h5, iaK_sg hv hi0 hi1, callvK_of bodied45, mwx, ne_eq, false_implies, implies_true, forall_eq_or_imp, MW.get, ev, evs, argFr, resK, packV, slHK, partsV, partsS, setR, Int.cast_ofNat_Int, Int.natCast_zero, Int.natCast_one, Nat.reduceLeDiff, reduceIte, Nat.reduceEqDiff, Nat.reduceBEq, reduceCtorEq, Nat.reduceAdd, Nat.reduceMul, Nat.reduceSub, Nat.reduceLT, Int.reduceToNat, Int.reduceLT, Int.reduceLE, Int.reduceEq, Int.reduceAdd, Int.reduceNeg, Int.reduceMul, Int.reduceSub]
    refine Does.call (check1_fn (l.getD i (0, 0)) (hl.at hi)) (fr1 (seg_free _ _)) ?_
    rw [hg]
    simp -implicitDefEqProofs (disch := omega) only [mwx, ne_eq, false_implies, implies_true, forall_eq_or_imp, MW.get, ev, evs, argFr, resK, packV, slHK, partsV, partsS, setR, Int.cast_ofNat_Int, Int.natCast_zero, Int.natCast_one, Nat.reduceLeDiff, reduceIte, Nat.reduceEqDiff, Nat.reduceBEq, reduceCtorEq, Nat.reduceAdd, Nat.reduceMul, Nat.reduceSub, Nat.reduceLT, Int.reduceToNat, Int.reduceLT, Int.reduceLE, Int.reduceEq, Int.reduceAdd, Int.reduceNeg, Int.reduceMul, Int.reduceSub]
    refine xc_any (fun h7 => ?_) fun h7 => ?_
    · simp -implicitDefEqProofs (disch := omega) only [h2, h3, h4, h5, mwx, ne_eq, false_implies, implies_true, forall_eq_or_imp, MW.get, ev, evs, argFr, resK, packV, slHK, partsV, partsS, setR, Int.cast_ofNat_Int, Int.natCast_zero, Int.natCast_one, Nat.reduceLeDiff, reduceIte, Nat.reduceEqDiff, Nat.reduceBEq, reduceCtorEq, Nat.reduceAdd, Nat.reduceMul, Nat.reduceSub, Nat.reduceLT, Int.reduceToNat, Int.reduceLT, Int.reduceLE, Int.reduceEq, Int.reduceAdd, Int.reduceNeg, Int.reduceMul, Int.reduceSub]
      exact ⟨k - 1, by omega, hJ _ _ ⟨i + 1, by omega, h2, h3, h4, rfl, fun j hj hji => by
        rcases Nat.lt_or_ge j i with h' | h'
        · exact h6 j hj h'
        · obtain rfl : j = i := by omega
          exact h7⟩⟩
    · simp -implicitDefEqProofs (disch := omega) only [h2, h3, h4, h5, mwx, ne_eq, false_implies, implies_true, forall_eq_or_imp, MW.get, ev, evs, argFr, resK, packV, slHK, partsV, partsS, setR, Int.cast_ofNat_Int, Int.natCast_zero, Int.natCast_one, Nat.reduceLeDiff, reduceIte, Nat.reduceEqDiff, Nat.reduceBEq, reduceCtorEq, Nat.reduceAdd, Nat.reduceMul, Nat.reduceSub, Nat.reduceLT, Int.reduceToNat, Int.reduceLT, Int.reduceLE, Int.reduceEq, Int.reduceAdd, Int.reduceNeg, Int.reduceMul, Int.reduceSub]
      refine frz_int ?_
      have : l.findIdx? (fun p => !sgOK p) = some i := by
        rw [List.findIdx?_eq_some_iff_getElem]
        exact ⟨hi, by simp [h7], fun j hj => by simp [h6 j (by omega) hj]⟩
      simp [badAt, this]
  · simp -implicitDefEqProofs (disch := omega) only [mwx, ne_eq, false_implies, implies_true, forall_eq_or_imp, MW.get, ev, evs, argFr, resK, packV, slHK, partsV, partsS, setR, Int.cast_ofNat_Int, Int.natCast_zero, Int.natCast_one, Nat.reduceLeDiff, reduceIte, Nat.reduceEqDiff, Nat.reduceBEq, reduceCtorEq, Nat.reduceAdd, Nat.reduceMul, Nat.reduceSub, Nat.reduceLT, Int.reduceToNat, Int.reduceLT, Int.reduceLE, Int.reduceEq, Int.reduceAdd, Int.reduceNeg, Int.reduceMul, Int.reduceSub]
    refine frz_int ?_
    have : l.findIdx? (fun p => !sgOK p) = none := by
      rw [List.findIdx?_eq_none_iff]
      intro p hp
      obtain ⟨j, hj, rfl⟩ := List.getElem_of_mem hp
      simp [h6 j hj (by omega)]
    simp [badAt, this]

theorem badAt_iff (l : List Sg) : (decide (0 ≤ badAt l)) = !l.all sgOK := by
  unfold badAt
  cases h : l.findIdx? (fun p => !sgOK p) with
  | none =>
    rw [List.findIdx?_eq_none_iff] at h
    have : l.all sgOK = true := by rw [List.all_eq_true]; intro p hp; simpa using h p hp
    simp [this]
  | some i =>
    rw [List.findIdx?_eq_some_iff_getElem] at h
    obtain ⟨hi, h1, _⟩ := h
    have : l.all sgOK = false := by
      rw [← Bool.not_eq_true, List.all_eq_true]
      intro h'
      have := h' _ (List.getElem_mem hi)
      simp [this] at h1
    simp [this]

/-- May segments be? -/
def chk (l : List Sg) : Bool := decide (l.length ≤ 200) && l.all sgOK
theorem chk_fn {v : V} {l : List Sg} (hv : IsE segE v l) (hl : SegOK l) : Does Tryd.prog G0 false 24 [v] (.bool (chk l)) := by
  refine Does.intro mixed comp24 ?_
  unfold c24
  simp -implicitDefEqProofs (disch := omega) only [lenK_isE hv, mwx, ne_eq, false_implies, implies_true, forall_eq_or_imp, MW.get, ev, evs, argFr, resK, packV, slHK, partsV, partsS, setR, Int.cast_ofNat_Int, Int.natCast_zero, Int.natCast_one, Nat.reduceLeDiff, reduceIte, Nat.reduceEqDiff, Nat.reduceBEq, reduceCtorEq, Nat.reduceAdd, Nat.reduceMul, Nat.reduceSub, Nat.reduceLT, Int.reduceToNat, Int.reduceLT, Int.reduceLE, Int.reduceEq, Int.reduceAdd, Int.reduceNeg, Int.reduceMul, Int.reduceSub]
  refine xg_dec (fun h => ?_) fun h => ?_
  · have hn : l.length ≤ 200 := by omega
    simp -implicitDefEqProofs (disch := omega) only [h, mwx, ne_eq, false_implies, implies_true, forall_eq_or_imp, MW.get, ev, evs, argFr, resK, packV, slHK, partsV, partsS, setR, Int.cast_ofNat_Int, Int.natCast_zero, Int.natCast_one, Nat.reduceLeDiff, reduceIte, Nat.reduceEqDiff, Nat.reduceBEq, reduceCtorEq, Nat.reduceAdd, Nat.reduceMul, Nat.reduceSub, Nat.reduceLT, Int.reduceToNat, Int.reduceLT, Int.reduceLE, Int.reduceEq, Int.reduceAdd, Int.reduceNeg, Int.reduceMul, Int.reduceSub]
    have : Does Tryd.prog G0 false 47 [v, .fn (.func 45) [] []] (.bool (!l.all sgOK)) := by
      refine Does.intro mixed comp47 ?_
      unfold c47
      simp -implicitDefEqProofs (disch := omega) only [mwx, ne_eq, false_implies, implies_true, forall_eq_or_imp, MW.get, ev, evs, argFr, resK, packV, slHK, partsV, partsS, setR, Int.cast_ofNat_Int, Int.natCast_zero, Int.natCast_one, Nat.reduceLeDiff, reduceIte, Nat.reduceEqDiff, Nat.reduceBEq, reduceCtorEq, Nat.reduceAdd, Nat.reduceMul, Nat.reduceSub, Nat.reduceLT, Int.reduceToNat, Int.reduceLT, Int.reduceLE, Int.reduceEq, Int.reduceAdd, Int.reduceNeg, Int.reduceMul, Int.reduceSub]
      refine Does.call (index_fn hv hl (by omega)) (fr2 hv.free (.fn _ (by simp) (by simp))) ?_
      simp -implicitDefEqProofs (disch := omega) only [mwx, ne_eq, false_implies, implies_true, forall_eq_or_imp, MW.get, ev, evs, argFr, resK, packV, slHK, partsV, partsS, setR, Int.cast_ofNat_Int, Int.natCast_zero, Int.natCast_one, Nat.reduceLeDiff, reduceIte, Nat.reduceEqDiff, Nat.reduceBEq, reduceCtorEq, Nat.reduceAdd, Nat.reduceMul, Nat.reduceSub, Nat.reduceLT, Int.reduceToNat, Int.reduceLT, Int.reduceLE, Int.reduceEq, Int.reduceAdd, Int.reduceNeg, Int.reduceMul, Int.reduceSub]
      exact frz_bool (badAt_iff l)
    refine Does.call this (fr2 hv.free (.fn _ (by simp) (by simp))) ?_
    simp -implicitDefEqProofs (disch := omega) only [h, mwx, ne_eq, false_implies, implies_true, forall_eq_or_imp, MW.get, ev, evs, argFr, resK, packV, slHK, partsV, partsS, setR, Int.cast_ofNat_Int, Int.natCast_zero, Int.natCast_one, Nat.reduceLeDiff, reduceIte, Nat.reduceEqDiff, Nat.reduceBEq, reduceCtorEq, Nat.reduceAdd, Nat.reduceMul, Nat.reduceSub, Nat.reduceLT, Int.reduceToNat, Int.reduceLT, Int.reduceLE, Int.reduceEq, Int.reduceAdd, Int.reduceNeg, Int.reduceMul, Int.reduceSub]
    refine frz_bool ?_
    simp [chk, hn]
  · have hn : ¬ l.length ≤ 200 := by omega
    simp -implicitDefEqProofs (disch := omega) only [h, mwx, ne_eq, false_implies, implies_true, forall_eq_or_imp, MW.get, ev, evs, argFr, resK, packV, slHK, partsV, partsS, setR, Int.cast_ofNat_Int, Int.natCast_zero, Int.natCast_one, Nat.reduceLeDiff, reduceIte, Nat.reduceEqDiff, Nat.reduceBEq, reduceCtorEq, Nat.reduceAdd, Nat.reduceMul, Nat.reduceSub, Nat.reduceLT, Int.reduceToNat, Int.reduceLT, Int.reduceLE, Int.reduceEq, Int.reduceAdd, Int.reduceNeg, Int.reduceMul, Int.reduceSub]
    refine frz_bool ?_
    simp [chk, hn]

/-- The bits of a word are counted. -/
theorem ones_fn (x : Nat) (hx : x < 2 ^ 64) : Does Tryd.prog G0 false 42 [.int .u64 x] (.int .i64 (pc 64 x)) := by
  refine Does.intro mixed comp42 ?_
  unfold c42
  have k1 : ∀ y : Nat, y < 2 ^ 64 → bitOp .and .u64 (y : Int) 6148914691236517205 = ((y &&& 6148914691236517205 : Nat) : Int) := fun y hy => band64 (b := 6148914691236517205) hy (by decide)
  have k2 : ∀ y : Nat, y < 2 ^ 64 → bitOp .and .u64 (y : Int) 3689348814741910323 = ((y &&& 3689348814741910323 : Nat) : Int) := fun y hy => band64 (b := 3689348814741910323) hy (by decide)
  have k3 : ∀ y : Nat, y < 2 ^ 64 → bitOp .and .u64 (y : Int) 1085102592571150095 = ((y &&& 1085102592571150095 : Nat) : Int) := fun y hy => band64 (b := 1085102592571150095) hy (by decide)
  have b1 := sw1_le (msk 85 8) x
  have b2 := sw2_le (msk 51 8) (sw1 (msk 85 8) x)
  have b3 : swar (msk 85 8) (msk 51 8) (msk 15 8) x ≤ 1085102592571150095 := Nat.and_le_right
  have d1 : ((x / 2) &&& 6148914691236517205) + (x &&& 6148914691236517205) = sw1 (msk 85 8) x := rfl
  have d2 : ((sw1 (msk 85 8) x / 4) &&& 3689348814741910323) + (sw1 (msk 85 8) x &&& 3689348814741910323) = sw2 (msk 51 8) (sw1 (msk 85 8) x) := rfl
  have d3 : (sw2 (msk 51 8) (sw1 (msk 85 8) x) / 16 + sw2 (msk 51 8) (sw1 (msk 85 8) x)) &&& 1085102592571150095 = swar (msk 85 8) (msk 51 8) (msk 15 8) x := rfl
  have e1 : msk 85 8 = 6148914691236517205 := rfl
  have e2 : msk 51 8 = 3689348814741910323 := rfl
  obtain ⟨y0, y1, y2, hy0, hy1, hy2, hy3, hy4⟩ := lan_sum hx
  rw [swar_lan] at d3 b3
  generalize hs1 : sw1 (msk 85 8) x = s1 at *
  generalize hs2 : sw2 (msk 51 8) s1 = s2 at *
  generalize lan 8 x = s3 at *
  rw [e1] at b1
  rw [e2] at b2
  have w1 : IntKind.u64.wrap (((x / 2 &&& 6148914691236517205 : Nat) : Int) + ((x &&& 6148914691236517205 : Nat) : Int)) = (s1 : Int) := by
    rw [wadd64 (by omega), d1]
  have w2 : IntKind.u64.wrap (((s1 / 4 &&& 3689348814741910323 : Nat) : Int) + ((s1 &&& 3689348814741910323 : Nat) : Int)) = (s2 : Int) := by
    rw [wadd64 (by omega), d2]
  have w3 : IntKind.u64.wrap (((s2 / 16 : Nat) : Int) + (s2 : Int)) = ((s2 / 16 + s2 : Nat) : Int) := wadd64 (by omega)
  have w4 : IntKind.u64.wrap ((s3 : Int) + ((s3 / 256 : Nat) : Int)) = (y0 : Int) := by rw [wadd64 (by omega), hy0]
  have w5 : IntKind.u64.wrap ((y0 : Int) + ((y0 / 65536 : Nat) : Int)) = (y1 : Int) := by rw [wadd64 (by omega), hy1]
  have w6 : IntKind.u64.wrap ((y1 : Int) + ((y1 / 4294967296 : Nat) : Int)) = (y2 : Int) := by rw [wadd64 (by omega), hy2]
  simp -implicitDefEqProofs (disch := omega) only [shr64_1, k1 x hx, k1 (x / 2) (by omega), w1, mwx, ne_eq, false_implies, implies_true, forall_eq_or_imp, MW.get, ev, evs, argFr, resK, packV, slHK, partsV, partsS, setR, Int.cast_ofNat_Int, Int.natCast_zero, Int.natCast_one, Nat.reduceLeDiff, reduceIte, Nat.reduceEqDiff, Nat.reduceBEq, reduceCtorEq, Nat.reduceAdd, Nat.reduceMul, Nat.reduceSub, Nat.reduceLT, Int.reduceToNat, Int.reduceLT, Int.reduceLE, Int.reduceEq, Int.reduceAdd, Int.reduceNeg, Int.reduceMul, Int.reduceSub]
  simp -implicitDefEqProofs (disch := omega) only [shr64_2, k2 s1 (by omega), k2 (s1 / 4) (by omega), w2, mwx, ne_eq, false_implies, implies_true, forall_eq_or_imp, MW.get, ev, evs, argFr, resK, packV, slHK, partsV, partsS, setR, Int.cast_ofNat_Int, Int.natCast_zero, Int.natCast_one, Nat.reduceLeDiff, reduceIte, Nat.reduceEqDiff, Nat.reduceBEq, reduceCtorEq, Nat.reduceAdd, Nat.reduceMul, Nat.reduceSub, Nat.reduceLT, Int.reduceToNat, Int.reduceLT, Int.reduceLE, Int.reduceEq, Int.reduceAdd, Int.reduceNeg, Int.reduceMul, Int.reduceSub]
  simp -implicitDefEqProofs (disch := omega) only [shr64_4, w3, k3 (s2 / 16 + s2) (by omega), d3, mwx, ne_eq, false_implies, implies_true, forall_eq_or_imp, MW.get, ev, evs, argFr, resK, packV, slHK, partsV, partsS, setR, Int.cast_ofNat_Int, Int.natCast_zero, Int.natCast_one, Nat.reduceLeDiff, reduceIte, Nat.reduceEqDiff, Nat.reduceBEq, reduceCtorEq, Nat.reduceAdd, Nat.reduceMul, Nat.reduceSub, Nat.reduceLT, Int.reduceToNat, Int.reduceLT, Int.reduceLE, Int.reduceEq, Int.reduceAdd, Int.reduceNeg, Int.reduceMul, Int.reduceSub]
  simp -implicitDefEqProofs (disch := omega) only [shr64_8, w4, mwx, ne_eq, false_implies, implies_true, forall_eq_or_imp, MW.get, ev, evs, argFr, resK, packV, slHK, partsV, partsS, setR, Int.cast_ofNat_Int, Int.natCast_zero, Int.natCast_one, Nat.reduceLeDiff, reduceIte, Nat.reduceEqDiff, Nat.reduceBEq, reduceCtorEq, Nat.reduceAdd, Nat.reduceMul, Nat.reduceSub, Nat.reduceLT, Int.reduceToNat, Int.reduceLT, Int.reduceLE, Int.reduceEq, Int.reduceAdd, Int.reduceNeg, Int.reduceMul, Int.reduceSub]
  simp -implicitDefEqProofs (disch := omega) only [shr64_16, w5, mwx, ne_eq, false_implies, implies_true, forall_eq_or_imp, MW.get, ev, evs, argFr, resK, packV, slHK, partsV, partsS, setR, Int.cast_ofNat_Int, Int.natCast_zero, Int.natCast_one, Nat.reduceLeDiff, reduceIte, Nat.reduceEqDiff, Nat.reduceBEq, reduceCtorEq, Nat.reduceAdd, Nat.reduceMul, Nat.reduceSub, Nat.reduceLT, Int.reduceToNat, Int.reduceLT, Int.reduceLE, Int.reduceEq, Int.reduceAdd, Int.reduceNeg, Int.reduceMul, Int.reduceSub]
  simp -implicitDefEqProofs (disch := omega) only [shr64_32, w6, band127 hy3, hy4, mwx, ne_eq, false_implies, implies_true, forall_eq_or_imp, MW.get, ev, evs, argFr, resK, packV, slHK, partsV, partsS, setR, Int.cast_ofNat_Int, Int.natCast_zero, Int.natCast_one, Nat.reduceLeDiff, reduceIte, Nat.reduceEqDiff, Nat.reduceBEq, reduceCtorEq, Nat.reduceAdd, Nat.reduceMul, Nat.reduceSub, Nat.reduceLT, Int.reduceToNat, Int.reduceLT, Int.reduceLE, Int.reduceEq, Int.reduceAdd, Int.reduceNeg, Int.reduceMul, Int.reduceSub]
  exact frz_int rfl

theorem tz_tab : ∃ tab, G0 0 = some tab ∧ tab.length = 64 ∧ ∀ j, j < 64 → 0 < (tab.drop j).length ∧ (tab.drop j).getD 0 .junk = .int .u8 ((Lib.deBruijn64tab.getD j 0 : Nat) : Int) := by
  refine ⟨_, rfl, rfl, fun j hj => ?_⟩
  have hj : j < Lib.deBruijn64tab.length := hj
  refine ⟨by rw [List.length_drop, List.length_map]; omega, ?_⟩
  simp only [List.getD_eq_getElem?_getD, List.getElem?_drop, Nat.add_zero, List.getElem?_map, List.getElem?_eq_getElem hj, Option.map_some, Option.getD_some]

/-- The product that names the lowest bit. -/
theorem tz_prod (x : Nat) (h0 : x ≠ 0) (hx : x < 2 ^ 64) : ∃ (p m j : Nat), bitOp .and .u64 (x : Int) (IntKind.u64.wrap (0 - (x : Int))) = (p : Int) ∧ IntKind.u64.wrap ((p : Int) * 285870213051353865) = (m : Int) ∧ m / 288230376151711744 = j ∧ j < 64 ∧ Lib.deBruijn64tab.getD j 0 = Lib.ctz 64 x ∧ Lib.ctz 64 x < 64 := by
  have h3 := (Lib.lowest_bit 64 x h0 hx).2
  obtain ⟨h1, h2⟩ := Lib.deBruijn64_at _ h3
  exact ⟨_, _, _, tz_key h0 hx, by rw [wrap_u64i]; generalize 2 ^ Lib.ctz 64 x = y; omega, rfl, h1, h2, h3⟩

/-- The lowest bit is found by a table. -/
theorem tz_fn (x : Nat) (hx : x < 2 ^ 64) : Does Tryd.prog G0 false 53 [.int .u64 x] (.int .i64 (Lib.ctz 64 x)) := by
  refine Does.intro mixed comp53 ?_
  unfold c53
  simp -implicitDefEqProofs (disch := omega) only [mwx, ne_eq, false_implies, implies_true, forall_eq_or_imp, MW.get, ev, evs, argFr, resK, packV, slHK, partsV, partsS, setR, Int.cast_ofNat_Int, Int.natCast_zero, Int.natCast_one, Nat.reduceLeDiff, reduceIte, Nat.reduceEqDiff, Nat.reduceBEq, reduceCtorEq, Nat.reduceAdd, Nat.reduceMul, Nat.reduceSub, Nat.reduceLT, Int.reduceToNat, Int.reduceLT, Int.reduceLE, Int.reduceEq, Int.reduceAdd, Int.reduceNeg, Int.reduceMul, Int.reduceSub]
  refine xc_dec (fun h => ?_) fun h => ?_
  · simp -implicitDefEqProofs (disch := omega) only [mwx, ne_eq, false_implies, implies_true, forall_eq_or_imp, MW.get, ev, evs, argFr, resK, packV, slHK, partsV, partsS, setR, Int.cast_ofNat_Int, Int.natCast_zero, Int.natCast_one, Nat.reduceLeDiff, reduceIte, Nat.reduceEqDiff, Nat.reduceBEq, reduceCtorEq, Nat.reduceAdd, Nat.reduceMul, Nat.reduceSub, Nat.reduceLT, Int.reduceToNat, Int.reduceLT, Int.reduceLE, Int.reduceEq, Int.reduceAdd, Int.reduceNeg, Int.reduceMul, Int.reduceSub]
    have : x = 0 := by omega
    subst this
    exact frz_int rfl
  · have h0 : x ≠ 0 := by omega
    obtain ⟨p, m, j, hp, hm, hj, h1, h2, h3⟩ := tz_prod x h0 hx
    obtain ⟨tab, hG, hl, ht⟩ := tz_tab
    obtain ⟨hd, hg⟩ := ht j h1
    have hj1 : j * 1 = j := Nat.mul_one j
    generalize Lib.ctz 64 x = z at *
    rw [h2] at hg
    simp -implicitDefEqProofs (disch := omega) only [hp, hm, shr64_58, hj, hG, hl, hj1, h1, hd, hg, mwx, ne_eq, false_implies, implies_true, forall_eq_or_imp, MW.get, ev, evs, argFr, resK, packV, slHK, partsV, partsS, setR, Int.cast_ofNat_Int, Int.natCast_zero, Int.natCast_one, Nat.reduceLeDiff, reduceIte, Nat.reduceEqDiff, Nat.reduceBEq, reduceCtorEq, Nat.reduceAdd, Nat.reduceMul, Nat.reduceSub, Nat.reduceLT, Int.reduceToNat, Int.reduceLT, Int.reduceLE, Int.reduceEq, Int.reduceAdd, Int.reduceNeg, Int.reduceMul, Int.reduceSub]
    exact frz_int rfl

end Go.Proofs.YtlcbogafgdofgaaDoor

/- Arena (chapter 11): how many bytes are taken and held; one slot; new segments. -/
namespace Go.Proofs.YtlcbogafgdofgaaDoor
open Go Go.MW
set_option linter.unusedSimpArgs false
set_option linter.unusedVariables false

def sgTaken (p : Sg) : Int := (pc 64 p.2 : Int) * byts p.1
def sgHeld (p : Sg) : Int := if p.1 = -1 then 0 else 512
theorem byts_le (c : Int) : 0 ≤ byts c ∧ byts c ≤ 64 := by
  rcases byts_cases c with ⟨h, _⟩ | ⟨h, _⟩ | ⟨h, _⟩ | ⟨h, _⟩ | h <;> omega
theorem sgTaken_le (p : Sg) : 0 ≤ sgTaken p ∧ sgTaken p ≤ 4096 := by
  have h1 := pc_le 64 p.2
  have h2 := byts_le p.1
  unfold sgTaken
  have h3 : (pc 64 p.2 : Int) * byts p.1 ≤ 64 * 64 := Int.mul_le_mul (by omega) h2.2 h2.1 (by omega)
  have h4 : 0 ≤ (pc 64 p.2 : Int) * byts p.1 := Int.mul_nonneg (by omega) h2.1
  omega
theorem sgHeld_le (p : Sg) : 0 ≤ sgHeld p ∧ sgHeld p ≤ 4096 := by unfold sgHeld; split <;> omega

theorem taken1_fn (p : Sg) (hp : p.2 < 2 ^ 64) : Does Tryd.prog G0 false 41 [.agg [.int .i64 p.1, .int .u64 p.2]] (.int .i64 (sgTaken p)) := by
  refine Does.intro mixed comp41 ?_
  unfold c41
  simp -implicitDefEqProofs (disch := omega) only [mwx, ne_eq, false_implies, implies_true, forall_eq_or_imp, MW.get, ev, evs, argFr, resK, packV, slHK, partsV, partsS, setR, Int.cast_ofNat_Int, Int.natCast_zero, Int.natCast_one, Nat.reduceLeDiff, reduceIte, Nat.reduceEqDiff, Nat.reduceBEq, reduceCtorEq, Nat.reduceAdd, Nat.reduceMul, Nat.reduceSub, Nat.reduceLT, Int.reduceToNat, Int.reduceLT, Int.reduceLE, Int.reduceEq, Int.reduceAdd, Int.reduceNeg, Int.reduceMul, Int.reduceSub]
  refine Does.call (ones_fn p.2 hp) (fr1 (.int _ _)) ?_
  simp -implicitDefEqProofs (disch := omega) only [mwx, ne_eq, false_implies, implies_true, forall_eq_or_imp, MW.get, ev, evs, argFr, resK, packV, slHK, partsV, partsS, setR, Int.cast_ofNat_Int, Int.natCast_zero, Int.natCast_one, Nat.reduceLeDiff, reduceIte, Nat.reduceEqDiff, Nat.reduceBEq, reduceCtorEq, Nat.reduceAdd, Nat.reduceMul, Nat.reduceSub, Nat.reduceLT, Int.reduceToNat, Int.reduceLT, Int.reduceLE, Int.reduceEq, Int.reduceAdd, Int.reduceNeg, Int.reduceMul, Int.reduceSub]
  refine Does.call (bytes_fn p.1) (fr1 (.int _ _)) ?_
  have h1 := sgTaken_le p
  have h2 : IntKind.i64.wrap ((pc 64 p.2 : Int) * byts p.1) = sgTaken p := wrap64 (n := sgTaken p) (by omega) (by omega)
  simp -implicitDefEqProofs (disch := omega) only [h2, mwx, ne_eq, false_implies, implies_true, forall_eq_or_imp, MW.get, ev, evs, argFr, resK, packV, slHK, partsV, partsS, setR, Int.cast_ofNat_Int, Int.natCast_zero, Int.natCast_one, Nat.reduceLeDiff, reduceIte, Nat.reduceEqDiff, Nat.reduceBEq, reduceCtorEq, Nat.reduceAdd, Nat.reduceMul, Nat.reduceSub, Nat.reduceLT, Int.reduceToNat, Int.reduceLT, Int.reduceLE, Int.reduceEq, Int.reduceAdd, Int.reduceNeg, Int.reduceMul, Int.reduceSub]
  exact frz_int rfl

theorem held1_fn (p : Sg) : Does Tryd.prog G0 false 44 [.agg [.int .i64 p.1, .int .u64 p.2]] (.int .i64 (sgHeld p)) := by
  refine Does.intro mixed comp44 ?_
  unfold c44
  simp -implicitDefEqProofs (disch := omega) only [mwx, ne_eq, false_implies, implies_true, forall_eq_or_imp, MW.get, ev, evs, argFr, resK, packV, slHK, partsV, partsS, setR, Int.cast_ofNat_Int, Int.natCast_zero, Int.natCast_one, Nat.reduceLeDiff, reduceIte, Nat.reduceEqDiff, Nat.reduceBEq, reduceCtorEq, Nat.reduceAdd, Nat.reduceMul, Nat.reduceSub, Nat.reduceLT, Int.reduceToNat, Int.reduceLT, Int.reduceLE, Int.reduceEq, Int.reduceAdd, Int.reduceNeg, Int.reduceMul, Int.reduceSub]
  refine xc_dec (fun h => ?_) fun h => ?_
  · simp -implicitDefEqProofs (disch := omega) only [mwx, ne_eq, false_implies, implies_true, forall_eq_or_imp, MW.get, ev, evs, argFr, resK, packV, slHK, partsV, partsS, setR, Int.cast_ofNat_Int, Int.natCast_zero, Int.natCast_one, Nat.reduceLeDiff, reduceIte, Nat.reduceEqDiff, Nat.reduceBEq, reduceCtorEq, Nat.reduceAdd, Nat.reduceMul, Nat.reduceSub, Nat.reduceLT, Int.reduceToNat, Int.reduceLT, Int.reduceLE, Int.reduceEq, Int.reduceAdd, Int.reduceNeg, Int.reduceMul, Int.reduceSub]
    exact frz_int (by simp [sgHeld, h])
  · simp -implicitDefEqProofs (disch := omega) only [mwx, ne_eq, false_implies, implies_true, forall_eq_or_imp, MW.get, ev, evs, argFr, resK, packV, slHK, partsV, partsS, setR, Int.cast_ofNat_Int, Int.natCast_zero, Int.natCast_one, Nat.reduceLeDiff, reduceIte, Nat.reduceEqDiff, Nat.reduceBEq, reduceCtorEq, Nat.reduceAdd, Nat.reduceMul, Nat.reduceSub, Nat.reduceLT, Int.reduceToNat, Int.reduceLT, Int.reduceLE, Int.reduceEq, Int.reduceAdd, Int.reduceNeg, Int.reduceMul, Int.reduceSub]
    exact frz_int (by simp [sgHeld, h])

def isum (l : List Int) : Int := l.foldr (· + ·) 0
theorem isum_cons (a : Int) (l : List Int) : isum (a :: l) = a + isum l := rfl
theorem isum_nil : isum [] = 0 := rfl
theorem isum_append (l m : List Int) : isum (l ++ m) = isum l + isum m := by
  induction l with
  | nil => simp [isum]
  | cons a l ih => rw [List.cons_append, isum_cons, isum_cons, ih]; omega
theorem take_succ_at {α : Type} {l : List α} {i : Nat} {d : α} (h : i < l.length) : l.take (i + 1) = l.take i ++ [l.getD i d] := by
  rw [List.take_add_one, List.getElem?_eq_getElem h, List.getD_eq_getElem?_getD, List.getElem?_eq_getElem h]
  rfl
theorem isum_le {α : Type} {h : α → Int} {b : Int} (hb : ∀ p, 0 ≤ h p ∧ h p ≤ b) : ∀ l : List α, 0 ≤ isum (l.map h) ∧ isum (l.map h) ≤ b * l.length
  | [] => by simp [isum]
  | a :: l => by
    have ih := isum_le hb l
    have := hb a
    rw [List.map_cons, isum_cons, List.length_cons, Int.natCast_succ, Int.mul_add]
    omega

/-- A sum over segments that may be. -/
def cnt (h : Sg → Int) (l : List Sg) : Int := if chk l then isum (l.map h) else 0
theorem chk_len {l : List Sg} (h : chk l = true) : l.length ≤ 200 := by
  simp only [chk, Bool.and_eq_true, decide_eq_true_eq] at h
  exact h.1

theorem count_fn {v : V} {l : List Sg} {g : Nat} {h : Sg → Int} (hv : IsE segE v l) (hl : SegOK l) (hg : (Tryd.prog.funcs[g]?).any (fun fn => fn.body.isSome && fn.name != "runtime.NumGoroutine") = true)
    (hd : ∀ p : Sg, p.2 < 2 ^ 64 → Does Tryd.prog G0 false g [.agg [.int .i64 p.1, .int .u64 p.2]] (.int .i64 (h p))) (hb : ∀ p, 0 ≤ h p ∧ h p ≤ 4096) :
    Does Tryd.prog G0 false 40 [v, .fn (.func g) [] []] (.int .i64 (cnt h l)) := by
  refine Does.intro mixed comp40 ?_
  unfold c40
  simp -implicitDefEqProofs (disch := omega) only [mwx, ne_eq, false_implies, implies_true, forall_eq_or_imp, MW.get, ev, evs, argFr, resK, packV, slHK, partsV, partsS, setR, Int.cast_ofNat_Int, Int.natCast_zero, Int.natCast_one, Nat.reduceLeDiff, reduceIte, Nat.reduceEqDiff, Nat.reduceBEq, reduceCtorEq, Nat.reduceAdd, Nat.reduceMul, Nat.reduceSub, Nat.reduceLT, Int.reduceToNat, Int.reduceLT, Int.reduceLE, Int.reduceEq, Int.reduceAdd, Int.reduceNeg, Int.reduceMul, Int.reduceSub]
  refine Does.call (chk_fn hv hl) (fr1 hv.free) ?_
  simp -implicitDefEqProofs (disch := omega) only [mwx, ne_eq, false_implies, implies_true, forall_eq_or_imp, MW.get, ev, evs, argFr, resK, packV, slHK, partsV, partsS, setR, Int.cast_ofNat_Int, Int.natCast_zero, Int.natCast_one, Nat.reduceLeDiff, reduceIte, Nat.reduceEqDiff, Nat.reduceBEq, reduceCtorEq, Nat.reduceAdd, Nat.reduceMul, Nat.reduceSub, Nat.reduceLT, Int.reduceToNat, Int.reduceLT, Int.reduceLE, Int.reduceEq, Int.reduceAdd, Int.reduceNeg, Int.reduceMul, Int.reduceSub]
  refine xc_any (fun hc => ?_) fun hc => ?_
  · have hn := chk_len hc
    simp -implicitDefEqProofs (disch := omega) only [lenK_isE hv, mwx, ne_eq, false_implies, implies_true, forall_eq_or_imp, MW.get, ev, evs, argFr, resK, packV, slHK, partsV, partsS, setR, Int.cast_ofNat_Int, Int.natCast_zero, Int.natCast_one, Nat.reduceLeDiff, reduceIte, Nat.reduceEqDiff, Nat.reduceBEq, reduceCtorEq, Nat.reduceAdd, Nat.reduceMul, Nat.reduceSub, Nat.reduceLT, Int.reduceToNat, Int.reduceLT, Int.reduceLE, Int.reduceEq, Int.reduceAdd, Int.reduceNeg, Int.reduceMul, Int.reduceSub]
    refine xl_loop (fun k st => ∃ i : Nat, k + i = l.length ∧ get st.fr 1 = .fn (.func g) [] [] ∧ get st.fr 4 = .int .i64 (isum ((l.take i).map h)) ∧ get st.fr 10 = v ∧ get st.fr 11 = .int .i64 l.length ∧ get st.fr 12 = .int .i64 i) l.length ⟨0, by omega, rfl, rfl, rfl, rfl, rfl⟩ ?_
    rintro J hJ k fr H ⟨i, h1, h2, h3, h4, h5, h6⟩
    simp -implicitDefEqProofs (disch := omega) only [h2, h3, h4, h5, h6, mwx, ne_eq, false_implies, implies_true, forall_eq_or_imp, MW.get, ev, evs, argFr, resK, packV, slHK, partsV, partsS, setR, Int.cast_ofNat_Int, Int.natCast_zero, Int.natCast_one, Nat.reduceLeDiff, reduceIte, Nat.reduceEqDiff, Nat.reduceBEq, reduceCtorEq, Nat.reduceAdd, Nat.reduceMul, Nat.reduceSub, Nat.reduceLT, Int.reduceToNat, Int.reduceLT, Int.reduceLE, Int.reduceEq, Int.reduceAdd, Int.reduceNeg, Int.reduceMul, Int.reduceSub]
    refine xc_dec (fun h7 => ?_) fun h7 => ?_
    · have hi : i < l.length := by omega
      have hi0 : (0 : Int) ≤ (i : Int) := by omega
      have hi1 : (i : Int).toNat < l.length := by simpa using hi
      simp -implicitDefEqProofs (disch := omega) only [h2, h3, h4, h5, h6, iaK_sg hv hi0 hi1, callvK_of hg, mwx, ne_eq, false_implies, implies_true, forall_eq_or_imp, MW.get, ev, evs, argFr, resK, packV, slHK, partsV, partsS, setR, Int.cast_ofNat_Int, Int.natCast_zero, Int.natCast_one, Nat.reduceLeDiff, reduceIte, Nat.reduceEqDiff, Nat.reduceBEq, reduceCtorEq, Nat.reduceAdd, Nat.reduceMul, Nat.reduceSub, Nat.reduceLT, Int.reduceToNat, Int.reduceLT, Int.reduceLE, Int.reduceEq, Int.reduceAdd, Int.reduceNeg, Int.reduceMul, Int.reduceSub]
      refine Does.call (hd (l.getD i (0, 0)) (hl.at hi)) (fr1 (seg_free _ _)) ?_
      have b1 := isum_le hb (l.take i)
      have b2 := hb (l.getD i (0, 0))
      have b3 : (l.take i).length = i := by simp; omega
      rw [b3] at b1
      have e1 : isum ((l.take (i + 1)).map h) = isum ((l.take i).map h) + h (l.getD i (0, 0)) := by
        rw [take_succ_at hi (d := (0, 0)), List.map_append, isum_append]
        simp [isum]
      simp -implicitDefEqProofs (disch := omega) only [h2, h3, h4, h5, h6, mwx, ne_eq, false_implies, implies_true, forall_eq_or_imp, MW.get, ev, evs, argFr, resK, packV, slHK, partsV, partsS, setR, Int.cast_ofNat_Int, Int.natCast_zero, Int.natCast_one, Nat.reduceLeDiff, reduceIte, Nat.reduceEqDiff, Nat.reduceBEq, reduceCtorEq, Nat.reduceAdd, Nat.reduceMul, Nat.reduceSub, Nat.reduceLT, Int.reduceToNat, Int.reduceLT, Int.reduceLE, Int.reduceEq, Int.reduceAdd, Int.reduceNeg, Int.reduceMul, Int.reduceSub]
      exact ⟨k - 1, by omega, hJ _ _ ⟨i + 1, by omega, h2, by rw [e1]; rfl, h4, h5, rfl⟩⟩
    · simp -implicitDefEqProofs (disch := omega) only [h3, mwx, ne_eq, false_implies, implies_true, forall_eq_or_imp, MW.get, ev, evs, argFr, resK, packV, slHK, partsV, partsS, setR, Int.cast_ofNat_Int, Int.natCast_zero, Int.natCast_one, Nat.reduceLeDiff, reduceIte, Nat.reduceEqDiff, Nat.reduceBEq, reduceCtorEq, Nat.reduceAdd, Nat.reduceMul, Nat.reduceSub, Nat.reduceLT, Int.reduceToNat, Int.reduceLT, Int.reduceLE, Int.reduceEq, Int.reduceAdd, Int.reduceNeg, Int.reduceMul, Int.reduceSub]
      refine frz_int ?_
      have : l.take i = l := List.take_of_length_le (by omega)
      rw [this]
      simp [cnt, hc]
  · simp -implicitDefEqProofs (disch := omega) only [mwx, ne_eq, false_implies, implies_true, forall_eq_or_imp, MW.get, ev, evs, argFr, resK, packV, slHK, partsV, partsS, setR, Int.cast_ofNat_Int, Int.natCast_zero, Int.natCast_one, Nat.reduceLeDiff, reduceIte, Nat.reduceEqDiff, Nat.reduceBEq, reduceCtorEq, Nat.reduceAdd, Nat.reduceMul, Nat.reduceSub, Nat.reduceLT, Int.reduceToNat, Int.reduceLT, Int.reduceLE, Int.reduceEq, Int.reduceAdd, Int.reduceNeg, Int.reduceMul, Int.reduceSub]
    exact frz_int (by simp [cnt, hc])

theorem taken_fn {v : V} {l : List Sg} (hv : IsE segE v l) (hl : SegOK l) : Does Tryd.prog G0 false 20 [v] (.int .i64 (cnt sgTaken l)) := by
  refine Does.intro mixed comp20 ?_
  unfold c20
  simp -implicitDefEqProofs (disch := omega) only [mwx, ne_eq, false_implies, implies_true, forall_eq_or_imp, MW.get, ev, evs, argFr, resK, packV, slHK, partsV, partsS, setR, Int.cast_ofNat_Int, Int.natCast_zero, Int.natCast_one, Nat.reduceLeDiff, reduceIte, Nat.reduceEqDiff, Nat.reduceBEq, reduceCtorEq, Nat.reduceAdd, Nat.reduceMul, Nat.reduceSub, Nat.reduceLT, Int.reduceToNat, Int.reduceLT, Int.reduceLE, Int.reduceEq, Int.reduceAdd, Int.reduceNeg, Int.reduceMul, Int.reduceSub]
  refine Does.call (count_fn hv hl bodied41 taken1_fn sgTaken_le) (fr2 hv.free (.fn _ (by simp) (by simp))) ?_
  simp -implicitDefEqProofs (disch := omega) only [mwx, ne_eq, false_implies, implies_true, forall_eq_or_imp, MW.get, ev, evs, argFr, resK, packV, slHK, partsV, partsS, setR, Int.cast_ofNat_Int, Int.natCast_zero, Int.natCast_one, Nat.reduceLeDiff, reduceIte, Nat.reduceEqDiff, Nat.reduceBEq, reduceCtorEq, Nat.reduceAdd, Nat.reduceMul, Nat.reduceSub, Nat.reduceLT, Int.reduceToNat, Int.reduceLT, Int.reduceLE, Int.reduceEq, Int.reduceAdd, Int.reduceNeg, Int.reduceMul, Int.reduceSub]
  exact frz_int rfl
theorem held_fn {v : V} {l : List Sg} (hv : IsE segE v l) (hl : SegOK l) : Does Tryd.prog G0 false 23 [v] (.int .i64 (cnt sgHeld l)) := by
  refine Does.intro mixed comp23 ?_
  unfold c23
  simp -implicitDefEqProofs (disch := omega) only [mwx, ne_eq, false_implies, implies_true, forall_eq_or_imp, MW.get, ev, evs, argFr, resK, packV, slHK, partsV, partsS, setR, Int.cast_ofNat_Int, Int.natCast_zero, Int.natCast_one, Nat.reduceLeDiff, reduceIte, Nat.reduceEqDiff, Nat.reduceBEq, reduceCtorEq, Nat.reduceAdd, Nat.reduceMul, Nat.reduceSub, Nat.reduceLT, Int.reduceToNat, Int.reduceLT, Int.reduceLE, Int.reduceEq, Int.reduceAdd, Int.reduceNeg, Int.reduceMul, Int.reduceSub]
  refine Does.call (count_fn hv hl bodied44 (fun p _ => held1_fn p) sgHeld_le) (fr2 hv.free (.fn _ (by simp) (by simp))) ?_
  simp -implicitDefEqProofs (disch := omega) only [mwx, ne_eq, false_implies, implies_true, forall_eq_or_imp, MW.get, ev, evs, argFr, resK, packV, slHK, partsV, partsS, setR, Int.cast_ofNat_Int, Int.natCast_zero, Int.natCast_one, Nat.reduceLeDiff, reduceIte, Nat.reduceEqDiff, Nat.reduceBEq, reduceCtorEq, Nat.reduceAdd, Nat.reduceMul, Nat.reduceSub, Nat.reduceLT, Int.reduceToNat, Int.reduceLT, Int.reduceLE, Int.reduceEq, Int.reduceAdd, Int.reduceNeg, Int.reduceMul, Int.reduceSub]
  exact frz_int rfl

/-- Is a slot taken? -/
def has (l : List Sg) (s a : Int) : Bool := chk l && (decide (0 ≤ s) && (decide (s < l.length) && (decide (0 ≤ a) && (l.getD s.toNat (0, 0)).2.testBit a.toNat)))
theorem has_fn {v : V} {l : List Sg} (hv : IsE segE v l) (hl : SegOK l) (s a : Int) : Does Tryd.prog G0 false 16 [v, .agg [.int .i64 s, .int .i64 a]] (.bool (has l s a)) := by
  refine Does.intro mixed comp16 ?_
  unfold c16
  simp -implicitDefEqProofs (disch := omega) only [mwx, ne_eq, false_implies, implies_true, forall_eq_or_imp, MW.get, ev, evs, argFr, resK, packV, slHK, partsV, partsS, setR, Int.cast_ofNat_Int, Int.natCast_zero, Int.natCast_one, Nat.reduceLeDiff, reduceIte, Nat.reduceEqDiff, Nat.reduceBEq, reduceCtorEq, Nat.reduceAdd, Nat.reduceMul, Nat.reduceSub, Nat.reduceLT, Int.reduceToNat, Int.reduceLT, Int.reduceLE, Int.reduceEq, Int.reduceAdd, Int.reduceNeg, Int.reduceMul, Int.reduceSub]
  refine Does.call (chk_fn hv hl) (fr1 hv.free) ?_
  simp -implicitDefEqProofs (disch := omega) only [mwx, ne_eq, false_implies, implies_true, forall_eq_or_imp, MW.get, ev, evs, argFr, resK, packV, slHK, partsV, partsS, setR, Int.cast_ofNat_Int, Int.natCast_zero, Int.natCast_one, Nat.reduceLeDiff, reduceIte, Nat.reduceEqDiff, Nat.reduceBEq, reduceCtorEq, Nat.reduceAdd, Nat.reduceMul, Nat.reduceSub, Nat.reduceLT, Int.reduceToNat, Int.reduceLT, Int.reduceLE, Int.reduceEq, Int.reduceAdd, Int.reduceNeg, Int.reduceMul, Int.reduceSub]
  refine xg_any (fun hc => ?_) fun hc => ?_
  · simp -implicitDefEqProofs (disch := omega) only [hc, mwx, ne_eq, false_implies, implies_true, forall_eq_or_imp, MW.get, ev, evs, argFr, resK, packV, slHK, partsV, partsS, setR, Int.cast_ofNat_Int, Int.natCast_zero, Int.natCast_one, Nat.reduceLeDiff, reduceIte, Nat.reduceEqDiff, Nat.reduceBEq, reduceCtorEq, Nat.reduceAdd, Nat.reduceMul, Nat.reduceSub, Nat.reduceLT, Int.reduceToNat, Int.reduceLT, Int.reduceLE, Int.reduceEq, Int.reduceAdd, Int.reduceNeg, Int.reduceMul, Int.reduceSub]
    refine xg_dec (fun h1 => ?_) fun h1 => ?_
    · simp -implicitDefEqProofs (disch := omega) only [h1, lenK_isE hv, mwx, ne_eq, false_implies, implies_true, forall_eq_or_imp, MW.get, ev, evs, argFr, resK, packV, slHK, partsV, partsS, setR, Int.cast_ofNat_Int, Int.natCast_zero, Int.natCast_one, Nat.reduceLeDiff, reduceIte, Nat.reduceEqDiff, Nat.reduceBEq, reduceCtorEq, Nat.reduceAdd, Nat.reduceMul, Nat.reduceSub, Nat.reduceLT, Int.reduceToNat, Int.reduceLT, Int.reduceLE, Int.reduceEq, Int.reduceAdd, Int.reduceNeg, Int.reduceMul, Int.reduceSub]
      refine xg_dec (fun h2 => ?_) fun h2 => ?_
      · simp -implicitDefEqProofs (disch := omega) only [h2, mwx, ne_eq, false_implies, implies_true, forall_eq_or_imp, MW.get, ev, evs, argFr, resK, packV, slHK, partsV, partsS, setR, Int.cast_ofNat_Int, Int.natCast_zero, Int.natCast_one, Nat.reduceLeDiff, reduceIte, Nat.reduceEqDiff, Nat.reduceBEq, reduceCtorEq, Nat.reduceAdd, Nat.reduceMul, Nat.reduceSub, Nat.reduceLT, Int.reduceToNat, Int.reduceLT, Int.reduceLE, Int.reduceEq, Int.reduceAdd, Int.reduceNeg, Int.reduceMul, Int.reduceSub]
        refine xg_dec (fun h3 => ?_) fun h3 => ?_
        · have h4 : s.toNat < l.length := by omega
          obtain ⟨b, rfl⟩ : ∃ b : Nat, a = b := ⟨a.toNat, by omega⟩
          have hu := hl.at h4
          have hk : bitOp .and .u64 (((l.getD s.toNat (0, 0)).2 / 2 ^ Nat.min b 64 : Nat) : Int) 1 = (((l.getD s.toNat (0, 0)).2 / 2 ^ Nat.min b 64 &&& 1 : Nat) : Int) :=
            band64 (b := 1) (Nat.lt_of_le_of_lt (Nat.div_le_self _ _) hu) (by decide)
          simp -implicitDefEqProofs (disch := omega) only [h3, iaK_sg hv h1 h4, shr64, hk, mwx, ne_eq, false_implies, implies_true, forall_eq_or_imp, MW.get, ev, evs, argFr, resK, packV, slHK, partsV, partsS, setR, Int.cast_ofNat_Int, Int.natCast_zero, Int.natCast_one, Nat.reduceLeDiff, reduceIte, Nat.reduceEqDiff, Nat.reduceBEq, reduceCtorEq, Nat.reduceAdd, Nat.reduceMul, Nat.reduceSub, Nat.reduceLT, Int.reduceToNat, Int.reduceLT, Int.reduceLE, Int.reduceEq, Int.reduceAdd, Int.reduceNeg, Int.reduceMul, Int.reduceSub]
          refine frz_bool ?_
          rw [bit_at hu]
          simp [has, hc, h1, h2]
        · simp -implicitDefEqProofs (disch := omega) only [h3, mwx, ne_eq, false_implies, implies_true, forall_eq_or_imp, MW.get, ev, evs, argFr, resK, packV, slHK, partsV, partsS, setR, Int.cast_ofNat_Int, Int.natCast_zero, Int.natCast_one, Nat.reduceLeDiff, reduceIte, Nat.reduceEqDiff, Nat.reduceBEq, reduceCtorEq, Nat.reduceAdd, Nat.reduceMul, Nat.reduceSub, Nat.reduceLT, Int.reduceToNat, Int.reduceLT, Int.reduceLE, Int.reduceEq, Int.reduceAdd, Int.reduceNeg, Int.reduceMul, Int.reduceSub]
          exact frz_bool (by simp [has, h3])
      · simp -implicitDefEqProofs (disch := omega) only [h2, mwx, ne_eq, false_implies, implies_true, forall_eq_or_imp, MW.get, ev, evs, argFr, resK, packV, slHK, partsV, partsS, setR, Int.cast_ofNat_Int, Int.natCast_zero, Int.natCast_one, Nat.reduceLeDiff, reduceIte, Nat.reduceEqDiff, Nat.reduceBEq, reduceCtorEq, Nat.reduceAdd, Nat.reduceMul, Nat.reduceSub, Nat.reduceLT, Int.reduceToNat, Int.reduceLT, Int.reduceLE, Int.reduceEq, Int.reduceAdd, Int.reduceNeg, Int.reduceMul, Int.reduceSub]
        exact frz_bool (by simp [has, h2])
    · simp -implicitDefEqProofs (disch := omega) only [h1, mwx, ne_eq, false_implies, implies_true, forall_eq_or_imp, MW.get, ev, evs, argFr, resK, packV, slHK, partsV, partsS, setR, Int.cast_ofNat_Int, Int.natCast_zero, Int.natCast_one, Nat.reduceLeDiff, reduceIte, Nat.reduceEqDiff, Nat.reduceBEq, reduceCtorEq, Nat.reduceAdd, Nat.reduceMul, Nat.reduceSub, Nat.reduceLT, Int.reduceToNat, Int.reduceLT, Int.reduceLE, Int.reduceEq, Int.reduceAdd, Int.reduceNeg, Int.reduceMul, Int.reduceSub]
      exact frz_bool (by simp [has, h1])
  · simp -implicitDefEqProofs (disch := omega) only [hc, mwx, ne_eq, false_implies, implies_true, forall_eq_or_imp, MW.get, ev, evs, argFr, resK, packV, slHK, partsV, partsS, setR, Int.cast_ofNat_Int, Int.natCast_zero, Int.natCast_one, Nat.reduceLeDiff, reduceIte, Nat.reduceEqDiff, Nat.reduceBEq, reduceCtorEq, Nat.reduceAdd, Nat.reduceMul, Nat.reduceSub, Nat.reduceLT, Int.reduceToNat, Int.reduceLT, Int.reduceLE, Int.reduceEq, Int.reduceAdd, Int.reduceNeg, Int.reduceMul, Int.reduceSub]
    exact frz_bool (by simp only [Bool.not_true] at hc; simp [has, hc])

/-- Are two lists alike? -/
theorem same_ref {v v' : V} {l l' : List Sg} (hv : IsE segE v l) (hv' : IsE segE v' l') (hn : l.length < 2 ^ 62) : Does Tryd.prog G0 false 35 [v, v'] (.bool (decide (l = l'))) := by
  refine Does.intro mixed comp35 ?_
  unfold c35
  simp -implicitDefEqProofs (disch := omega) only [lenK_isE hv, lenK_isE hv', mwx, ne_eq, false_implies, implies_true, forall_eq_or_imp, MW.get, ev, evs, argFr, resK, packV, slHK, partsV, partsS, setR, Int.cast_ofNat_Int, Int.natCast_zero, Int.natCast_one, Nat.reduceLeDiff, reduceIte, Nat.reduceEqDiff, Nat.reduceBEq, reduceCtorEq, Nat.reduceAdd, Nat.reduceMul, Nat.reduceSub, Nat.reduceLT, Int.reduceToNat, Int.reduceLT, Int.reduceLE, Int.reduceEq, Int.reduceAdd, Int.reduceNeg, Int.reduceMul, Int.reduceSub]
  refine xc_dec (fun h => ?_) fun h => ?_
  · have hll : l.length = l'.length := by omega
    simp -implicitDefEqProofs (disch := omega) only [mwx, ne_eq, false_implies, implies_true, forall_eq_or_imp, MW.get, ev, evs, argFr, resK, packV, slHK, partsV, partsS, setR, Int.cast_ofNat_Int, Int.natCast_zero, Int.natCast_one, Nat.reduceLeDiff, reduceIte, Nat.reduceEqDiff, Nat.reduceBEq, reduceCtorEq, Nat.reduceAdd, Nat.reduceMul, Nat.reduceSub, Nat.reduceLT, Int.reduceToNat, Int.reduceLT, Int.reduceLE, Int.reduceEq, Int.reduceAdd, Int.reduceNeg, Int.reduceMul, Int.reduceSub]
    refine xl_loop (fun k st => ∃ i : Nat, k + i = l.length ∧ get st.fr 0 = v ∧ get st.fr 1 = v' ∧ get st.fr 5 = .int .i64 i ∧ l.take i = l'.take i) l.length ⟨0, by omega, rfl, rfl, rfl, by simp⟩ ?_
    rintro J hJ k fr H ⟨i, h1, h2, h3, h4, h5⟩
    simp -implicitDefEqProofs (disch := omega) only [h2, h3, h4, lenK_isE hv, mwx, ne_eq, false_implies, implies_true, forall_eq_or_imp, MW.get, ev, evs, argFr, resK, packV, slHK, partsV, partsS, setR, Int.cast_ofNat_Int, Int.natCast_zero, Int.natCast_one, Nat.reduceLeDiff, reduceIte, Nat.reduceEqDiff, Nat.reduceBEq, reduceCtorEq, Nat.reduceAdd, Nat.reduceMul, Nat.reduceSub, Nat.reduceLT, Int.reduceToNat, Int.reduceLT, Int.reduceLE, Int.reduceEq, Int.reduceAdd, Int.reduceNeg, Int.reduceMul, Int.reduceSub]
    refine xc_dec (fun h6 => ?_) fun h6 => ?_
    · have hi : i < l.length := by omega
      have hi0 : (0 : Int) ≤ (i : Int) := by omega
      have hi1 : (i : Int).toNat < l.length := by simpa using hi
      have hi2 : (i : Int).toNat < l'.length := by omega
      have hi3 : i < l'.length := by omega
      simp -implicitDefEqProofs (disch := omega) only [h2, h3, h4, iaK_sg hv hi0 hi1, iaK_sg hv' hi0 hi2, mwx, ne_eq, false_implies, implies_true, forall_eq_or_imp, MW.get, ev, evs, argFr, resK, packV, slHK, partsV, partsS, setR, Int.cast_ofNat_Int, Int.natCast_zero, Int.natCast_one, Nat.reduceLeDiff, reduceIte, Nat.reduceEqDiff, Nat.reduceBEq, reduceCtorEq, Nat.reduceAdd, Nat.reduceMul, Nat.reduceSub, Nat.reduceLT, Int.reduceToNat, Int.reduceLT, Int.reduceLE, Int.reduceEq, Int.reduceAdd, Int.reduceNeg, Int.reduceMul, Int.reduceSub]
      refine xc_any (fun h7 => ?_) fun h7 => ?_
      · have h8 : l.getD i (0, 0) = l'.getD i (0, 0) := by
          simp only [Bool.and_true, Bool.and_eq_true, decide_eq_true_eq] at h7
          exact Prod.ext h7.1 (by omega)
        simp -implicitDefEqProofs (disch := omega) only [h2, h3, h4, mwx, ne_eq, false_implies, implies_true, forall_eq_or_imp, MW.get, ev, evs, argFr, resK, packV, slHK, partsV, partsS, setR, Int.cast_ofNat_Int, Int.natCast_zero, Int.natCast_one, Nat.reduceLeDiff, reduceIte, Nat.reduceEqDiff, Nat.reduceBEq, reduceCtorEq, Nat.reduceAdd, Nat.reduceMul, Nat.reduceSub, Nat.reduceLT, Int.reduceToNat, Int.reduceLT, Int.reduceLE, Int.reduceEq, Int.reduceAdd, Int.reduceNeg, Int.reduceMul, Int.reduceSub]
        exact ⟨k - 1, by omega, hJ _ _ ⟨i + 1, by omega, h2, h3, rfl, by rw [take_succ_at hi (d := (0, 0)), take_succ_at hi3 (d := (0, 0)), h5, h8]⟩⟩
      · simp -implicitDefEqProofs (disch := omega) only [mwx, ne_eq, false_implies, implies_true, forall_eq_or_imp, MW.get, ev, evs, argFr, resK, packV, slHK, partsV, partsS, setR, Int.cast_ofNat_Int, Int.natCast_zero, Int.natCast_one, Nat.reduceLeDiff, reduceIte, Nat.reduceEqDiff, Nat.reduceBEq, reduceCtorEq, Nat.reduceAdd, Nat.reduceMul, Nat.reduceSub, Nat.reduceLT, Int.reduceToNat, Int.reduceLT, Int.reduceLE, Int.reduceEq, Int.reduceAdd, Int.reduceNeg, Int.reduceMul, Int.reduceSub]
        refine frz_bool ?_
        refine Eq.symm (decide_eq_false ?_)
        rintro rfl
        simp at h7
    · simp -implicitDefEqProofs (disch := omega) only [mwx, ne_eq, false_implies, implies_true, forall_eq_or_imp, MW.get, ev, evs, argFr, resK, packV, slHK, partsV, partsS, setR, Int.cast_ofNat_Int, Int.natCast_zero, Int.natCast_one, Nat.reduceLeDiff, reduceIte, Nat.reduceEqDiff, Nat.reduceBEq, reduceCtorEq, Nat.reduceAdd, Nat.reduceMul, Nat.reduceSub, Nat.reduceLT, Int.reduceToNat, Int.reduceLT, Int.reduceLE, Int.reduceEq, Int.reduceAdd, Int.reduceNeg, Int.reduceMul, Int.reduceSub]
      refine frz_bool (Eq.symm (decide_eq_true ?_))
      rw [List.take_of_length_le (by omega), List.take_of_length_le (by omega)] at h5
      exact h5
  · simp -implicitDefEqProofs (disch := omega) only [mwx, ne_eq, false_implies, implies_true, forall_eq_or_imp, MW.get, ev, evs, argFr, resK, packV, slHK, partsV, partsS, setR, Int.cast_ofNat_Int, Int.natCast_zero, Int.natCast_one, Nat.reduceLeDiff, reduceIte, Nat.reduceEqDiff, Nat.reduceBEq, reduceCtorEq, Nat.reduceAdd, Nat.reduceMul, Nat.reduceSub, Nat.reduceLT, Int.reduceToNat, Int.reduceLT, Int.reduceLE, Int.reduceEq, Int.reduceAdd, Int.reduceNeg, Int.reduceMul, Int.reduceSub]
    refine frz_bool (Eq.symm (decide_eq_false ?_))
    rintro rfl
    exact h rfl

end Go.Proofs.YtlcbogafgdofgaaDoor

/- Arena (chapter 11): new segments; segments that are copied; a slot given back; a slot taken. -/
namespace Go.Proofs.YtlcbogafgdofgaaDoor
open Go Go.MW
set_option linter.unusedSimpArgs false
set_option linter.unusedVariables false

theorem new_bad (n : Int) (h : n < 0 ∨ 200 < n) : Does Tryd.prog G0 false 37 [.int .i64 n] (.tup [.nils, .int .i64 110]) := by
  refine Does.intro mixed comp37 ?_
  unfold c37
  simp -implicitDefEqProofs (disch := omega) only [mwx, ne_eq, false_implies, implies_true, forall_eq_or_imp, MW.get, ev, evs, argFr, resK, packV, slHK, partsV, partsS, setR, Int.cast_ofNat_Int, Int.natCast_zero, Int.natCast_one, Nat.reduceLeDiff, reduceIte, Nat.reduceEqDiff, Nat.reduceBEq, reduceCtorEq, Nat.reduceAdd, Nat.reduceMul, Nat.reduceSub, Nat.reduceLT, Int.reduceToNat, Int.reduceLT, Int.reduceLE, Int.reduceEq, Int.reduceAdd, Int.reduceNeg, Int.reduceMul, Int.reduceSub]
  refine xg_decf (fun h1 => ?_) fun h1 => ?_
  · simp -implicitDefEqProofs (disch := omega) only [h1, mwx, ne_eq, false_implies, implies_true, forall_eq_or_imp, MW.get, ev, evs, argFr, resK, packV, slHK, partsV, partsS, setR, Int.cast_ofNat_Int, Int.natCast_zero, Int.natCast_one, Nat.reduceLeDiff, reduceIte, Nat.reduceEqDiff, Nat.reduceBEq, reduceCtorEq, Nat.reduceAdd, Nat.reduceMul, Nat.reduceSub, Nat.reduceLT, Int.reduceToNat, Int.reduceLT, Int.reduceLE, Int.reduceEq, Int.reduceAdd, Int.reduceNeg, Int.reduceMul, Int.reduceSub]
    exact frz_tup2 (.free .nils) (frz_int rfl)
  · have h2 : 200 < n := by omega
    simp -implicitDefEqProofs (disch := omega) only [h1, h2, mwx, ne_eq, false_implies, implies_true, forall_eq_or_imp, MW.get, ev, evs, argFr, resK, packV, slHK, partsV, partsS, setR, Int.cast_ofNat_Int, Int.natCast_zero, Int.natCast_one, Nat.reduceLeDiff, reduceIte, Nat.reduceEqDiff, Nat.reduceBEq, reduceCtorEq, Nat.reduceAdd, Nat.reduceMul, Nat.reduceSub, Nat.reduceLT, Int.reduceToNat, Int.reduceLT, Int.reduceLE, Int.reduceEq, Int.reduceAdd, Int.reduceNeg, Int.reduceMul, Int.reduceSub]
    exact frz_tup2 (.free .nils) (frz_int rfl)

theorem new_fn (m : Nat) (hm : m ≤ 200) : Does Tryd.prog G0 false 37 [.int .i64 m] (.tup [.vs (segE.vs (List.replicate m (-1, 0))), .int .i64 0]) := by
  refine Does.intro mixed comp37 ?_
  unfold c37
  have h1 : ¬ ((m : Int) < 0) := by omega
  have h2 : ¬ (200 < (m : Int)) := by omega
  have h3 : (0 : Int) ≤ (m : Int) ∧ (m : Int) ≤ (m : Int) ∧ (m : Int) < 2 ^ 63 ∧ (16 : Int) * (m : Int) ≤ 2 ^ 48 := by omega
  simp -implicitDefEqProofs (disch := omega) only [h1, h2, h3.1, h3.2.1, h3.2.2.1, h3.2.2.2, mwx, ne_eq, false_implies, implies_true, forall_eq_or_imp, MW.get, ev, evs, argFr, resK, packV, slHK, partsV, partsS, setR, Int.cast_ofNat_Int, Int.natCast_zero, Int.natCast_one, Nat.reduceLeDiff, reduceIte, Nat.reduceEqDiff, Nat.reduceBEq, reduceCtorEq, Nat.reduceAdd, Nat.reduceMul, Nat.reduceSub, Nat.reduceLT, Int.reduceToNat, Int.reduceLT, Int.reduceLE, Int.reduceEq, Int.reduceAdd, Int.reduceNeg, Int.reduceMul, Int.reduceSub]
  have hz : List.replicate m (V.agg [.int .i64 0, .int .u64 0]) = segE.vs (List.replicate m (0, 0)) := by simp [El.vs, segE]
  rw [hz]
  refine xl_loop (fun k st => ∃ (i : Nat) (L : List Sg), k + i = m ∧ i ≤ m ∧ st.H = [.row 2 (segE.vs L) false false] ∧ L.length = m ∧ (∀ j, j < m → L.getD j (0, 0) = if j < i then (-1, 0) else (0, 0)) ∧ get st.fr 4 = .hs 0 m 0 0 m (some m) 2 ∧ get st.fr 14 = .int .i64 m ∧ get st.fr 15 = .int .i64 i) m
    ⟨0, List.replicate m (0, 0), by omega, by omega, rfl, by simp, fun j hj => by simp [List.getD_eq_getElem?_getD, hj], rfl, rfl, rfl⟩ ?_
  rintro J hJ k fr H ⟨i, L, h4, h4', hH, h5, h6, h7, h8, h9⟩
  obtain rfl : H = [.row 2 (segE.vs L) false false] := hH
  have hL : (segE.vs L).length = m := by rw [El.vs_length, h5]
  simp -implicitDefEqProofs (disch := omega) only [h7, h8, h9, mwx, ne_eq, false_implies, implies_true, forall_eq_or_imp, MW.get, ev, evs, argFr, resK, packV, slHK, partsV, partsS, setR, Int.cast_ofNat_Int, Int.natCast_zero, Int.natCast_one, Nat.reduceLeDiff, reduceIte, Nat.reduceEqDiff, Nat.reduceBEq, reduceCtorEq, Nat.reduceAdd, Nat.reduceMul, Nat.reduceSub, Nat.reduceLT, Int.reduceToNat, Int.reduceLT, Int.reduceLE, Int.reduceEq, Int.reduceAdd, Int.reduceNeg, Int.reduceMul, Int.reduceSub]
  refine xc_dec (fun h10 => ?_) fun h10 => ?_
  · have hi : i < m := by omega
    have hg : (segE.vs L).getD i .junk = .agg [.int .i64 (L.getD i (0, 0)).1, .int .u64 (L.getD i (0, 0)).2] := El.vs_getD (e := segE) (by omega)
    simp -implicitDefEqProofs (disch := omega) only [h7, h8, h9, hL, hi, hg, mwx, ne_eq, false_implies, implies_true, forall_eq_or_imp, MW.get, ev, evs, argFr, resK, packV, slHK, partsV, partsS, setR, Int.cast_ofNat_Int, Int.natCast_zero, Int.natCast_one, Nat.reduceLeDiff, reduceIte, Nat.reduceEqDiff, Nat.reduceBEq, reduceCtorEq, Nat.reduceAdd, Nat.reduceMul, Nat.reduceSub, Nat.reduceLT, Int.reduceToNat, Int.reduceLT, Int.reduceLE, Int.reduceEq, Int.reduceAdd, Int.reduceNeg, Int.reduceMul, Int.reduceSub]
    have hu : (L.getD i (0, 0)).2 = 0 := by rw [h6 i hi]; simp
    have hs : (segE.vs L).set i (.agg [.int .i64 (-1), .int .u64 (L.getD i (0, 0)).2]) = segE.vs (L.set i (-1, 0)) := by
      rw [hu]; exact El.vs_set (e := segE) L i (-1, 0)
    rw [hs]
    refine ⟨k - 1, by omega, hJ _ _ ⟨i + 1, L.set i (-1, 0), by omega, by omega, rfl, by simpa using h5, fun j hj => ?_, h7, h8, rfl⟩⟩
    have h6' := h6 j hj
    by_cases hji : j = i
    · subst hji
      simp [List.getD_eq_getElem?_getD, h5, hi]
    · have : (L.set i (-1, 0)).getD j (0, 0) = L.getD j (0, 0) := by simp [List.getD_eq_getElem?_getD, List.getElem?_set_ne (Ne.symm hji)]
      rw [this, h6']
      by_cases hlt : j < i
      · rw [if_pos hlt, if_pos (by omega)]
      · rw [if_neg hlt, if_neg (by omega)]
  · simp -implicitDefEqProofs (disch := omega) only [h7, mwx, ne_eq, false_implies, implies_true, forall_eq_or_imp, MW.get, ev, evs, argFr, resK, packV, slHK, partsV, partsS, setR, Int.cast_ofNat_Int, Int.natCast_zero, Int.natCast_one, Nat.reduceLeDiff, reduceIte, Nat.reduceEqDiff, Nat.reduceBEq, reduceCtorEq, Nat.reduceAdd, Nat.reduceMul, Nat.reduceSub, Nat.reduceLT, Int.reduceToNat, Int.reduceLT, Int.reduceLE, Int.reduceEq, Int.reduceAdd, Int.reduceNeg, Int.reduceMul, Int.reduceSub]
    have : L = List.replicate m (-1, 0) := by
      refine List.ext_getElem (by simpa using h5) fun j hj hj' => ?_
      have := h6 j (by omega)
      rw [List.getD_eq_getElem?_getD, List.getElem?_eq_getElem hj, if_pos (by omega)] at this
      simpa using this
    subst this
    exact frz_tup2 (frz_rowE (e := segE) rfl (by decide) rfl (by simp) rfl) (frz_int rfl)

/-- A copy of one's own. -/
theorem clone_sim {v : V} {l : List Sg} (hv : IsE segE v l) (hn : l.length ≤ 1099511627776) (H : List Blk) :
    ∃ r T, Sim Tryd.prog G0 49 [v] H r (H ++ T) ∧ Own 2 (H ++ T) r (segE.vs l) ∧ (l ≠ [] → T = [.row 2 [] false false, .row 2 (segE.vs l) true false] ∧ r = .hs (H.length + 1) l.length 0 0 l.length none 2) := by
  rcases hv with ⟨rfl, rfl⟩ | rfl
  · refine ⟨.nils, [], SimP.sim (SimP.intro mixed comp49 ?_), .nil _ _, fun h => absurd rfl h⟩
    unfold c49
    simp -implicitDefEqProofs (disch := omega) only [mwx, ne_eq, false_implies, implies_true, forall_eq_or_imp, MW.get, ev, evs, argFr, resK, packV, slHK, partsV, partsS, setR, Int.cast_ofNat_Int, Int.natCast_zero, Int.natCast_one, Nat.reduceLeDiff, reduceIte, Nat.reduceEqDiff, Nat.reduceBEq, reduceCtorEq, Nat.reduceAdd, Nat.reduceMul, Nat.reduceSub, Nat.reduceLT, Int.reduceToNat, Int.reduceLT, Int.reduceLE, Int.reduceEq, Int.reduceAdd, Int.reduceNeg, Int.reduceMul, Int.reduceSub]
  · by_cases hl : l = []
    · subst hl
      refine ⟨.hs H.length 0 0 0 0 (some 0) 2, [.row 2 [] false false], SimP.sim (SimP.intro mixed comp49 ?_), .hs rfl (getB_new _ _) (.inr rfl), fun h => absurd rfl h⟩
      unfold c49
      simp -implicitDefEqProofs (disch := omega) only [mwx, ne_eq, false_implies, implies_true, forall_eq_or_imp, MW.get, ev, evs, argFr, resK, packV, slHK, partsV, partsS, setR, Int.cast_ofNat_Int, Int.natCast_zero, Int.natCast_one, Nat.reduceLeDiff, reduceIte, Nat.reduceEqDiff, Nat.reduceBEq, reduceCtorEq, Nat.reduceAdd, Nat.reduceMul, Nat.reduceSub, Nat.reduceLT, Int.reduceToNat, Int.reduceLT, Int.reduceLE, Int.reduceEq, Int.reduceAdd, Int.reduceNeg, Int.reduceMul, Int.reduceSub]
      rw [eq_app3]
      refine ⟨El.vs_goods (e := segE) [], rfl, rfl, ?_⟩
      rw [getB_new]
      refine ⟨rfl, rfl, by omega, El.vs_goods (e := segE) [], ?_⟩
      rw [if_pos (by decide)]
      refine ⟨by decide, rfl, ?_⟩
      simp -implicitDefEqProofs (disch := omega) only [El.vs_nil, mwx, ne_eq, false_implies, implies_true, forall_eq_or_imp, MW.get, ev, evs, argFr, resK, packV, slHK, partsV, partsS, setR, Int.cast_ofNat_Int, Int.natCast_zero, Int.natCast_one, Nat.reduceLeDiff, reduceIte, Nat.reduceEqDiff, Nat.reduceBEq, reduceCtorEq, Nat.reduceAdd, Nat.reduceMul, Nat.reduceSub, Nat.reduceLT, Int.reduceToNat, Int.reduceLT, Int.reduceLE, Int.reduceEq, Int.reduceAdd, Int.reduceNeg, Int.reduceMul, Int.reduceSub]
    · have hlen : 0 < l.length := List.length_pos_iff.2 hl
      refine ⟨.hs (H.length + 1) l.length 0 0 l.length none 2, [.row 2 [] false false, .row 2 (segE.vs l) true false], SimP.sim (SimP.intro mixed comp49 ?_),
        .inr ⟨_, _, true, by rw [El.vs_length], ?_, .inl rfl⟩, fun _ => ⟨rfl, rfl⟩⟩
      · unfold c49
        simp -implicitDefEqProofs (disch := omega) only [mwx, ne_eq, false_implies, implies_true, forall_eq_or_imp, MW.get, ev, evs, argFr, resK, packV, slHK, partsV, partsS, setR, Int.cast_ofNat_Int, Int.natCast_zero, Int.natCast_one, Nat.reduceLeDiff, reduceIte, Nat.reduceEqDiff, Nat.reduceBEq, reduceCtorEq, Nat.reduceAdd, Nat.reduceMul, Nat.reduceSub, Nat.reduceLT, Int.reduceToNat, Int.reduceLT, Int.reduceLE, Int.reduceEq, Int.reduceAdd, Int.reduceNeg, Int.reduceMul, Int.reduceSub]
        rw [eq_app3]
        refine ⟨El.vs_goods (e := segE) l, rfl, rfl, ?_⟩
        rw [getB_new]
        refine ⟨rfl, rfl, by omega, El.vs_goods (e := segE) [], ?_⟩
        rw [El.vs_length, if_neg (by omega)]
        refine ⟨roomy_of (by omega) (by decide), ?_⟩
        simp -implicitDefEqProofs (disch := omega) only [List.length_append, mwx, ne_eq, false_implies, implies_true, forall_eq_or_imp, MW.get, ev, evs, argFr, resK, packV, slHK, partsV, partsS, setR, Int.cast_ofNat_Int, Int.natCast_zero, Int.natCast_one, Nat.reduceLeDiff, reduceIte, Nat.reduceEqDiff, Nat.reduceBEq, reduceCtorEq, Nat.reduceAdd, Nat.reduceMul, Nat.reduceSub, Nat.reduceLT, Int.reduceToNat, Int.reduceLT, Int.reduceLE, Int.reduceEq, Int.reduceAdd, Int.reduceNeg, Int.reduceMul, Int.reduceSub]
      · have : H ++ [.row 2 [] false false, .row 2 (segE.vs l) true false] = (H ++ [.row 2 [] false false]) ++ [.row 2 (segE.vs l) true false] := by simp
        rw [this]
        have := getB_new (H ++ [.row 2 [] false false]) (.row 2 (segE.vs l) true false)
        rwa [List.length_append] at this

/-- A slot given back. -/
def fre1 (p : Sg) (a : Nat) : Sg := (if clr1 p.2 a = 0 then -1 else p.1, clr1 p.2 a)
def fre (l : List Sg) (s a : Int) : List Sg × Int := if has l s a then (l.set s.toNat (fre1 (l.getD s.toNat (0, 0)) a.toNat), 0) else (l, 120)

theorem has_iff {l : List Sg} {s a : Int} : has l s a = true ↔ chk l = true ∧ 0 ≤ s ∧ s < l.length ∧ 0 ≤ a ∧ (l.getD s.toNat (0, 0)).2.testBit a.toNat = true := by
  simp [has]

theorem fre_fn {v : V} {l : List Sg} (hv : IsE segE v l) (hl : SegOK l) (hn : l.length ≤ 1099511627776) (s a : Int) : ∃ v', IsE segE v' (fre l s a).1 ∧ Does Tryd.prog G0 false 36 [v, .agg [.int .i64 s, .int .i64 a]] (.tup [v', .int .i64 (fre l s a).2]) := by
  obtain ⟨r, T, hsim, hown, hne⟩ := clone_sim hv hn [.row 2 [.agg [.int .i64 s, .int .i64 a]] false false]
  by_cases hh : has l s a = true
  · obtain ⟨hc, hs0, hs1, ha0, hbit⟩ := has_iff.1 hh
    have hs2 : s.toNat < l.length := by omega
    have hl0 : l ≠ [] := by rintro rfl; simp at hs2
    obtain ⟨rfl, rfl⟩ := hne hl0
    have hu := hl.at hs2
    have hlt : a.toNat < 64 := by
      rcases Nat.lt_or_ge a.toNat 64 with h | h
      · exact h
      · rw [testBit_big hu h] at hbit; cases hbit
    refine ⟨.vs (segE.vs (fre l s a).1), isE_vs _, ?_⟩
    obtain ⟨b, rfl⟩ : ∃ b : Nat, a = b := ⟨a.toNat, by omega⟩
    have hfr : fre l s b = (l.set s.toNat (fre1 (l.getD s.toNat (0, 0)) (b : Int).toNat), 0) := by rw [fre, if_pos hh]
    refine Does.intro mixed comp36 ?_
    unfold c36
    simp -implicitDefEqProofs (disch := omega) only [mwx, ne_eq, false_implies, implies_true, forall_eq_or_imp, MW.get, ev, evs, argFr, resK, packV, slHK, partsV, partsS, setR, Int.cast_ofNat_Int, Int.natCast_zero, Int.natCast_one, Nat.reduceLeDiff, reduceIte, Nat.reduceEqDiff, Nat.reduceBEq, reduceCtorEq, Nat.reduceAdd, Nat.reduceMul, Nat.reduceSub, Nat.reduceLT, Int.reduceToNat, Int.reduceLT, Int.reduceLE, Int.reduceEq, Int.reduceAdd, Int.reduceNeg, Int.reduceMul, Int.reduceSub]
    refine callK_sim hsim ?_
    simp -implicitDefEqProofs (disch := omega) only [mwx, ne_eq, false_implies, implies_true, forall_eq_or_imp, MW.get, ev, evs, argFr, resK, packV, slHK, partsV, partsS, setR, Int.cast_ofNat_Int, Int.natCast_zero, Int.natCast_one, Nat.reduceLeDiff, reduceIte, Nat.reduceEqDiff, Nat.reduceBEq, reduceCtorEq, Nat.reduceAdd, Nat.reduceMul, Nat.reduceSub, Nat.reduceLT, Int.reduceToNat, Int.reduceLT, Int.reduceLE, Int.reduceEq, Int.reduceAdd, Int.reduceNeg, Int.reduceMul, Int.reduceSub]
    refine Does.call (has_fn hv hl s b) (fr2 hv.free (slot_free _ _)) ?_
    have hL : (segE.vs l).length = l.length := El.vs_length l
    have hg : (segE.vs l).getD s.toNat .junk = .agg [.int .i64 (l.getD s.toNat (0, 0)).1, .int .u64 (l.getD s.toNat (0, 0)).2] := El.vs_getD (e := segE) hs2
    have hb : b < 64 := hlt
    have hcl : bitOp .andNot .u64 ((l.getD s.toNat (0, 0)).2 : Int) ((2 ^ b : Nat) : Int) = ((clr1 (l.getD s.toNat (0, 0)).2 b : Nat) : Int) := bandNot64 hu (Nat.pow_lt_pow_right (by decide) hlt)
    have hgs : ∀ x : V, ((segE.vs l).set s.toNat x).getD s.toNat .junk = x := fun x => by simp [List.getD_eq_getElem?_getD, hL, hs2]
    have hLs : ∀ x : V, ((segE.vs l).set s.toNat x).length = l.length := fun x => by simp [hL]
    simp -implicitDefEqProofs (disch := omega) only [hh, hs0, hs2, hL, hg, shl1, hb, hcl, hgs, hLs, mwx, ne_eq, false_implies, implies_true, forall_eq_or_imp, MW.get, ev, evs, argFr, resK, packV, slHK, partsV, partsS, setR, Int.cast_ofNat_Int, Int.natCast_zero, Int.natCast_one, Nat.reduceLeDiff, reduceIte, Nat.reduceEqDiff, Nat.reduceBEq, reduceCtorEq, Nat.reduceAdd, Nat.reduceMul, Nat.reduceSub, Nat.reduceLT, Int.reduceToNat, Int.reduceLT, Int.reduceLE, Int.reduceEq, Int.reduceAdd, Int.reduceNeg, Int.reduceMul, Int.reduceSub]
    refine xc_dec (fun h => ?_) fun h => ?_
    · have h' : clr1 (l.getD s.toNat (0, 0)).2 b = 0 := by omega
      simp -implicitDefEqProofs (disch := omega) only [hs0, hs2, hL, hg, hgs, hLs, mwx, ne_eq, false_implies, implies_true, forall_eq_or_imp, MW.get, ev, evs, argFr, resK, packV, slHK, partsV, partsS, setR, Int.cast_ofNat_Int, Int.natCast_zero, Int.natCast_one, Nat.reduceLeDiff, reduceIte, Nat.reduceEqDiff, Nat.reduceBEq, reduceCtorEq, Nat.reduceAdd, Nat.reduceMul, Nat.reduceSub, Nat.reduceLT, Int.reduceToNat, Int.reduceLT, Int.reduceLE, Int.reduceEq, Int.reduceAdd, Int.reduceNeg, Int.reduceMul, Int.reduceSub]
      refine frz_tup2 (frz_rowX (e := segE) rfl (by decide) rfl ?_ ?_ rfl) (frz_int ?_)
      · rw [List.set_set]
        refine (El.vs_set (e := segE) l s.toNat (-1, clr1 (l.getD s.toNat (0, 0)).2 b)).trans ?_
        rw [hfr, fre1, Int.toNat_natCast, if_pos h']
      · simp [hfr]
      · simp [hfr]
    · have h' : ¬ clr1 (l.getD s.toNat (0, 0)).2 b = 0 := by omega
      simp -implicitDefEqProofs (disch := omega) only [mwx, ne_eq, false_implies, implies_true, forall_eq_or_imp, MW.get, ev, evs, argFr, resK, packV, slHK, partsV, partsS, setR, Int.cast_ofNat_Int, Int.natCast_zero, Int.natCast_one, Nat.reduceLeDiff, reduceIte, Nat.reduceEqDiff, Nat.reduceBEq, reduceCtorEq, Nat.reduceAdd, Nat.reduceMul, Nat.reduceSub, Nat.reduceLT, Int.reduceToNat, Int.reduceLT, Int.reduceLE, Int.reduceEq, Int.reduceAdd, Int.reduceNeg, Int.reduceMul, Int.reduceSub]
      refine frz_tup2 (frz_rowX (e := segE) rfl (by decide) rfl ?_ ?_ rfl) (frz_int ?_)
      · refine (El.vs_set (e := segE) l s.toNat ((l.getD s.toNat (0, 0)).1, clr1 (l.getD s.toNat (0, 0)).2 b)).trans ?_
        rw [hfr, fre1, Int.toNat_natCast, if_neg h']
      · simp [hfr]
      · simp [hfr]
  · obtain ⟨v', h1, h2⟩ := hown.isE (im := false) rfl (by decide)
    have hf : fre l s a = (l, 120) := by simp [fre, hh]
    rw [hf]
    refine ⟨v', h1, ?_⟩
    refine Does.intro mixed comp36 ?_
    unfold c36
    simp -implicitDefEqProofs (disch := omega) only [mwx, ne_eq, false_implies, implies_true, forall_eq_or_imp, MW.get, ev, evs, argFr, resK, packV, slHK, partsV, partsS, setR, Int.cast_ofNat_Int, Int.natCast_zero, Int.natCast_one, Nat.reduceLeDiff, reduceIte, Nat.reduceEqDiff, Nat.reduceBEq, reduceCtorEq, Nat.reduceAdd, Nat.reduceMul, Nat.reduceSub, Nat.reduceLT, Int.reduceToNat, Int.reduceLT, Int.reduceLE, Int.reduceEq, Int.reduceAdd, Int.reduceNeg, Int.reduceMul, Int.reduceSub]
    refine callK_sim hsim ?_
    simp -implicitDefEqProofs (disch := omega) only [mwx, ne_eq, false_implies, implies_true, forall_eq_or_imp, MW.get, ev, evs, argFr, resK, packV, slHK, partsV, partsS, setR, Int.cast_ofNat_Int, Int.natCast_zero, Int.natCast_one, Nat.reduceLeDiff, reduceIte, Nat.reduceEqDiff, Nat.reduceBEq, reduceCtorEq, Nat.reduceAdd, Nat.reduceMul, Nat.reduceSub, Nat.reduceLT, Int.reduceToNat, Int.reduceLT, Int.reduceLE, Int.reduceEq, Int.reduceAdd, Int.reduceNeg, Int.reduceMul, Int.reduceSub]
    refine Does.call (has_fn hv hl s a) (fr2 hv.free (slot_free _ _)) ?_
    simp -implicitDefEqProofs (disch := omega) only [hh, mwx, ne_eq, false_implies, implies_true, forall_eq_or_imp, MW.get, ev, evs, argFr, resK, packV, slHK, partsV, partsS, setR, Int.cast_ofNat_Int, Int.natCast_zero, Int.natCast_one, Nat.reduceLeDiff, reduceIte, Nat.reduceEqDiff, Nat.reduceBEq, reduceCtorEq, Nat.reduceAdd, Nat.reduceMul, Nat.reduceSub, Nat.reduceLT, Int.reduceToNat, Int.reduceLT, Int.reduceLE, Int.reduceEq, Int.reduceAdd, Int.reduceNeg, Int.reduceMul, Int.reduceSub]
    exact frz_tup2 h2 (frz_int rfl)

/-- Where a slot is to be taken: from here on. -/
def seek (c : Int) : List Sg → Nat → Int → Int
  | [], _, at_ => at_
  | p :: l, i, at_ => if p.1 = c ∧ p.2 ≠ allN c then i else if p.1 = -1 ∧ at_ < 0 then seek c l (i + 1) i else seek c l (i + 1) at_
theorem seek_le (c : Int) : ∀ (l : List Sg) (i : Nat) (at_ : Int), at_ < i → seek c l i at_ < i + l.length ∧ (0 ≤ seek c l i at_ ∨ seek c l i at_ = at_)
  | [], i, at_, h => ⟨by simpa [seek] using h, .inr rfl⟩
  | p :: l, i, at_, h => by
    unfold seek
    rw [List.length_cons]
    split
    · exact ⟨by omega, .inl (by omega)⟩
    · split
      · have := seek_le c l (i + 1) i (by omega)
        exact ⟨by omega, .inl (by omega)⟩
      · have := seek_le c l (i + 1) at_ (by omega)
        exact ⟨by omega, this.2⟩

/-- A slot taken. -/
def shb (p : Nat) : Nat := if p < 64 then 2 ^ p else 0
def tak1 (p : Sg) (c : Int) : Sg := (c, p.2 ||| shb (low0 p.2))
def tak (l : List Sg) (c : Int) : List Sg × (Int × Int) × Int :=
  if chk l = false then (l, (0, 0), 120)
  else if slN c = 0 then (l, (0, 0), 100)
  else if seek c l 0 (-1) < 0 then (l, (0, 0), 110)
  else (l.set (seek c l 0 (-1)).toNat (tak1 (l.getD (seek c l 0 (-1)).toNat (0, 0)) c), (seek c l 0 (-1), low0 (l.getD (seek c l 0 (-1)).toNat (0, 0)).2), 0)

theorem shb_lt (p : Nat) : shb p < 2 ^ 64 := by
  unfold shb
  split
  · exact Nat.pow_lt_pow_right (by decide) (by assumption)
  · decide

theorem tak_fn {v : V} {l : List Sg} (hv : IsE segE v l) (hl : SegOK l) (hn : l.length ≤ 1099511627776) (c : Int) : ∃ v', IsE segE v' (tak l c).1 ∧ Does Tryd.prog G0 false 50 [v, .int .i64 c] (.tup [v', .agg [.int .i64 (tak l c).2.1.1, .int .i64 (tak l c).2.1.2], .int .i64 (tak l c).2.2]) := by
  obtain ⟨r, T, hsim, hown, hne⟩ := clone_sim hv hn [.row 2 [.agg [.int .i64 0, .int .i64 0]] false false]
  obtain ⟨v', g1, g2⟩ := hown.isE (im := false) rfl (by decide)
  by_cases hc : chk l = true
  · by_cases hs : slN c = 0
    · have hf : tak l c = (l, (0, 0), 100) := by simp [tak, hc, hs]
      rw [hf]
      refine ⟨v', g1, ?_⟩
      refine Does.intro mixed comp50 ?_
      unfold c50
      simp -implicitDefEqProofs (disch := omega) only [mwx, ne_eq, false_implies, implies_true, forall_eq_or_imp, MW.get, ev, evs, argFr, resK, packV, slHK, partsV, partsS, setR, Int.cast_ofNat_Int, Int.natCast_zero, Int.natCast_one, Nat.reduceLeDiff, reduceIte, Nat.reduceEqDiff, Nat.reduceBEq, reduceCtorEq, Nat.reduceAdd, Nat.reduceMul, Nat.reduceSub, Nat.reduceLT, Int.reduceToNat, Int.reduceLT, Int.reduceLE, Int.reduceEq, Int.reduceAdd, Int.reduceNeg, Int.reduceMul, Int.reduceSub]
      refine callK_sim hsim ?_
      simp -implicitDefEqProofs (disch := omega) only [mwx, ne_eq, false_implies, implies_true, forall_eq_or_imp, MW.get, ev, evs, argFr, resK, packV, slHK, partsV, partsS, setR, Int.cast_ofNat_Int, Int.natCast_zero, Int.natCast_one, Nat.reduceLeDiff, reduceIte, Nat.reduceEqDiff, Nat.reduceBEq, reduceCtorEq, Nat.reduceAdd, Nat.reduceMul, Nat.reduceSub, Nat.reduceLT, Int.reduceToNat, Int.reduceLT, Int.reduceLE, Int.reduceEq, Int.reduceAdd, Int.reduceNeg, Int.reduceMul, Int.reduceSub]
      refine Does.call (chk_fn hv hl) (fr1 hv.free) ?_
      simp -implicitDefEqProofs (disch := omega) only [hc, mwx, ne_eq, false_implies, implies_true, forall_eq_or_imp, MW.get, ev, evs, argFr, resK, packV, slHK, partsV, partsS, setR, Int.cast_ofNat_Int, Int.natCast_zero, Int.natCast_one, Nat.reduceLeDiff, reduceIte, Nat.reduceEqDiff, Nat.reduceBEq, reduceCtorEq, Nat.reduceAdd, Nat.reduceMul, Nat.reduceSub, Nat.reduceLT, Int.reduceToNat, Int.reduceLT, Int.reduceLE, Int.reduceEq, Int.reduceAdd, Int.reduceNeg, Int.reduceMul, Int.reduceSub]
      refine Does.call (slots_fn c) (fr1 (.int _ _)) ?_
      have hs' : slts c = 0 := by rw [slts_slN, hs]; rfl
      simp -implicitDefEqProofs (disch := omega) only [hs', mwx, ne_eq, false_implies, implies_true, forall_eq_or_imp, MW.get, ev, evs, argFr, resK, packV, slHK, partsV, partsS, setR, Int.cast_ofNat_Int, Int.natCast_zero, Int.natCast_one, Nat.reduceLeDiff, reduceIte, Nat.reduceEqDiff, Nat.reduceBEq, reduceCtorEq, Nat.reduceAdd, Nat.reduceMul, Nat.reduceSub, Nat.reduceLT, Int.reduceToNat, Int.reduceLT, Int.reduceLE, Int.reduceEq, Int.reduceAdd, Int.reduceNeg, Int.reduceMul, Int.reduceSub]
      exact frz_tup3 g2 (.free (slot_free _ _)) (frz_int rfl)
    · have hs' : ¬ slts c = 0 := by rw [slts_slN]; omega
      by_cases hl0 : l = []
      · have hf : tak l c = (l, (0, 0), 110) := by subst hl0; simp [tak, hc, hs, seek]
        rw [hf]
        refine ⟨v', g1, ?_⟩
        refine Does.intro mixed comp50 ?_
        unfold c50
        simp -implicitDefEqProofs (disch := omega) only [mwx, ne_eq, false_implies, implies_true, forall_eq_or_imp, MW.get, ev, evs, argFr, resK, packV, slHK, partsV, partsS, setR, Int.cast_ofNat_Int, Int.natCast_zero, Int.natCast_one, Nat.reduceLeDiff, reduceIte, Nat.reduceEqDiff, Nat.reduceBEq, reduceCtorEq, Nat.reduceAdd, Nat.reduceMul, Nat.reduceSub, Nat.reduceLT, Int.reduceToNat, Int.reduceLT, Int.reduceLE, Int.reduceEq, Int.reduceAdd, Int.reduceNeg, Int.reduceMul, Int.reduceSub]
        refine callK_sim hsim ?_
        simp -implicitDefEqProofs (disch := omega) only [mwx, ne_eq, false_implies, implies_true, forall_eq_or_imp, MW.get, ev, evs, argFr, resK, packV, slHK, partsV, partsS, setR, Int.cast_ofNat_Int, Int.natCast_zero, Int.natCast_one, Nat.reduceLeDiff, reduceIte, Nat.reduceEqDiff, Nat.reduceBEq, reduceCtorEq, Nat.reduceAdd, Nat.reduceMul, Nat.reduceSub, Nat.reduceLT, Int.reduceToNat, Int.reduceLT, Int.reduceLE, Int.reduceEq, Int.reduceAdd, Int.reduceNeg, Int.reduceMul, Int.reduceSub]
        refine Does.call (chk_fn hv hl) (fr1 hv.free) ?_
        simp -implicitDefEqProofs (disch := omega) only [hc, mwx, ne_eq, false_implies, implies_true, forall_eq_or_imp, MW.get, ev, evs, argFr, resK, packV, slHK, partsV, partsS, setR, Int.cast_ofNat_Int, Int.natCast_zero, Int.natCast_one, Nat.reduceLeDiff, reduceIte, Nat.reduceEqDiff, Nat.reduceBEq, reduceCtorEq, Nat.reduceAdd, Nat.reduceMul, Nat.reduceSub, Nat.reduceLT, Int.reduceToNat, Int.reduceLT, Int.reduceLE, Int.reduceEq, Int.reduceAdd, Int.reduceNeg, Int.reduceMul, Int.reduceSub]
        refine Does.call (slots_fn c) (fr1 (.int _ _)) ?_
        have hL : (segE.vs l).length = 0 := by subst hl0; rfl
        simp -implicitDefEqProofs (disch := omega) only [hs', lenK_own hown, hL, mwx, ne_eq, false_implies, implies_true, forall_eq_or_imp, MW.get, ev, evs, argFr, resK, packV, slHK, partsV, partsS, setR, Int.cast_ofNat_Int, Int.natCast_zero, Int.natCast_one, Nat.reduceLeDiff, reduceIte, Nat.reduceEqDiff, Nat.reduceBEq, reduceCtorEq, Nat.reduceAdd, Nat.reduceMul, Nat.reduceSub, Nat.reduceLT, Int.reduceToNat, Int.reduceLT, Int.reduceLE, Int.reduceEq, Int.reduceAdd, Int.reduceNeg, Int.reduceMul, Int.reduceSub]
        refine xl_blk (fun st => st.H = .row 2 [.agg [.int .i64 0, .int .i64 0]] false false :: T ∧ get st.fr 5 = .ptr 0 1 0 0 ∧ get st.fr 7 = r ∧ get st.fr 8 = .int .i64 (-1))
          (fun k st => st.H = .row 2 [.agg [.int .i64 0, .int .i64 0]] false false :: T ∧ get st.fr 5 = .ptr 0 1 0 0 ∧ get st.fr 7 = r ∧ get st.fr 8 = .int .i64 (-1) ∧ get st.fr 27 = .int .i64 0 ∧ get st.fr 28 = .int .i64 0) 0 ⟨rfl, rfl, rfl, rfl, rfl, rfl⟩ ?_ ?_
        · rintro fr H ⟨hH, h1, h2, h3⟩
          obtain rfl : H = _ := hH
          simp -implicitDefEqProofs (disch := omega) only [h1, h2, h3, mwx, ne_eq, false_implies, implies_true, forall_eq_or_imp, MW.get, ev, evs, argFr, resK, packV, slHK, partsV, partsS, setR, Int.cast_ofNat_Int, Int.natCast_zero, Int.natCast_one, Nat.reduceLeDiff, reduceIte, Nat.reduceEqDiff, Nat.reduceBEq, reduceCtorEq, Nat.reduceAdd, Nat.reduceMul, Nat.reduceSub, Nat.reduceLT, Int.reduceToNat, Int.reduceLT, Int.reduceLE, Int.reduceEq, Int.reduceAdd, Int.reduceNeg, Int.reduceMul, Int.reduceSub]
          exact frz_tup3 g2 (.free (slot_free _ _)) (frz_int rfl)
        · rintro J Q' hJ hn _ _ k fr H ⟨hH, h1, h2, h3, h4, h5⟩
          obtain rfl : H = _ := hH
          simp -implicitDefEqProofs (disch := omega) only [h1, h2, h3, h4, h5, hn, mwx, ne_eq, false_implies, implies_true, forall_eq_or_imp, MW.get, ev, evs, argFr, resK, packV, slHK, partsV, partsS, setR, Int.cast_ofNat_Int, Int.natCast_zero, Int.natCast_one, Nat.reduceLeDiff, reduceIte, Nat.reduceEqDiff, Nat.reduceBEq, reduceCtorEq, Nat.reduceAdd, Nat.reduceMul, Nat.reduceSub, Nat.reduceLT, Int.reduceToNat, Int.reduceLT, Int.reduceLE, Int.reduceEq, Int.reduceAdd, Int.reduceNeg, Int.reduceMul, Int.reduceSub]
      · obtain ⟨rfl, rfl⟩ := hne hl0
        clear g1 g2 v'
        have hL : (segE.vs l).length = l.length := El.vs_length l
        refine ⟨.vs (segE.vs (tak l c).1), isE_vs _, ?_⟩
        refine Does.intro mixed comp50 ?_
        unfold c50
        simp -implicitDefEqProofs (disch := omega) only [mwx, ne_eq, false_implies, implies_true, forall_eq_or_imp, MW.get, ev, evs, argFr, resK, packV, slHK, partsV, partsS, setR, Int.cast_ofNat_Int, Int.natCast_zero, Int.natCast_one, Nat.reduceLeDiff, reduceIte, Nat.reduceEqDiff, Nat.reduceBEq, reduceCtorEq, Nat.reduceAdd, Nat.reduceMul, Nat.reduceSub, Nat.reduceLT, Int.reduceToNat, Int.reduceLT, Int.reduceLE, Int.reduceEq, Int.reduceAdd, Int.reduceNeg, Int.reduceMul, Int.reduceSub]
        refine callK_sim hsim ?_
        simp -implicitDefEqProofs (disch := omega) only [mwx, ne_eq, false_implies, implies_true, forall_eq_or_imp, MW.get, ev, evs, argFr, resK, packV, slHK, partsV, partsS, setR, Int.cast_ofNat_Int, Int.natCast_zero, Int.natCast_one, Nat.reduceLeDiff, reduceIte, Nat.reduceEqDiff, Nat.reduceBEq, reduceCtorEq, Nat.reduceAdd, Nat.reduceMul, Nat.reduceSub, Nat.reduceLT, Int.reduceToNat, Int.reduceLT, Int.reduceLE, Int.reduceEq, Int.reduceAdd, Int.reduceNeg, Int.reduceMul, Int.reduceSub]
        refine Does.call (chk_fn hv hl) (fr1 hv.free) ?_
        simp -implicitDefEqProofs (disch := omega) only [hc, mwx, ne_eq, false_implies, implies_true, forall_eq_or_imp, MW.get, ev, evs, argFr, resK, packV, slHK, partsV, partsS, setR, Int.cast_ofNat_Int, Int.natCast_zero, Int.natCast_one, Nat.reduceLeDiff, reduceIte, Nat.reduceEqDiff, Nat.reduceBEq, reduceCtorEq, Nat.reduceAdd, Nat.reduceMul, Nat.reduceSub, Nat.reduceLT, Int.reduceToNat, Int.reduceLT, Int.reduceLE, Int.reduceEq, Int.reduceAdd, Int.reduceNeg, Int.reduceMul, Int.reduceSub]
        refine Does.call (slots_fn c) (fr1 (.int _ _)) ?_
        simp -implicitDefEqProofs (disch := omega) only [hs', mwx, ne_eq, false_implies, implies_true, forall_eq_or_imp, MW.get, ev, evs, argFr, resK, packV, slHK, partsV, partsS, setR, Int.cast_ofNat_Int, Int.natCast_zero, Int.natCast_one, Nat.reduceLeDiff, reduceIte, Nat.reduceEqDiff, Nat.reduceBEq, reduceCtorEq, Nat.reduceAdd, Nat.reduceMul, Nat.reduceSub, Nat.reduceLT, Int.reduceToNat, Int.reduceLT, Int.reduceLE, Int.reduceEq, Int.reduceAdd, Int.reduceNeg, Int.reduceMul, Int.reduceSub]
        have hn2 := chk_len hc
        refine xl_blk (fun st => ∃ X, st.H = .row 2 [.agg [.int .i64 0, .int .i64 0]] false false :: .row 2 [] false false :: .row 2 (segE.vs l) true false :: X ∧ get st.fr 1 = .int .i64 c ∧ get st.fr 5 = .ptr 0 1 0 0 ∧ get st.fr 7 = .hs 2 l.length 0 0 l.length none 2 ∧ get st.fr 8 = .int .i64 (seek c l 0 (-1)))
          (fun k st => ∃ (X : List Blk) (i : Nat) (at_ : Int), k + i = l.length ∧ at_ < i ∧ seek c (l.drop i) i at_ = seek c l 0 (-1) ∧ st.H = .row 2 [.agg [.int .i64 0, .int .i64 0]] false false :: .row 2 [] false false :: .row 2 (segE.vs l) true false :: X ∧ get st.fr 1 = .int .i64 c ∧ get st.fr 5 = .ptr 0 1 0 0 ∧ get st.fr 7 = .hs 2 l.length 0 0 l.length none 2 ∧ get st.fr 8 = .int .i64 at_ ∧ get st.fr 26 = .hs 2 l.length 0 0 l.length none 2 ∧ get st.fr 27 = .int .i64 l.length ∧ get st.fr 28 = .int .i64 i) l.length
          ⟨[], 0, -1, by omega, by omega, rfl, rfl, rfl, rfl, rfl, rfl, rfl, rfl, rfl⟩ ?_ ?_
        · rintro fr H ⟨X, hH, h1, h2, h3, h4⟩
          obtain rfl : H = _ := hH
          simp -implicitDefEqProofs (disch := omega) only [h1, h2, h3, h4, mwx, ne_eq, false_implies, implies_true, forall_eq_or_imp, MW.get, ev, evs, argFr, resK, packV, slHK, partsV, partsS, setR, Int.cast_ofNat_Int, Int.natCast_zero, Int.natCast_one, Nat.reduceLeDiff, reduceIte, Nat.reduceEqDiff, Nat.reduceBEq, reduceCtorEq, Nat.reduceAdd, Nat.reduceMul, Nat.reduceSub, Nat.reduceLT, Int.reduceToNat, Int.reduceLT, Int.reduceLE, Int.reduceEq, Int.reduceAdd, Int.reduceNeg, Int.reduceMul, Int.reduceSub]
          have hle := seek_le c l 0 (-1) (by omega)
          refine xc_dec (fun h5 => ?_) fun h5 => ?_
          · have hf : tak l c = (l, (0, 0), 110) := by simp [tak, hc, hs, h5]
            simp -implicitDefEqProofs (disch := omega) only [h1, h2, h3, h4, mwx, ne_eq, false_implies, implies_true, forall_eq_or_imp, MW.get, ev, evs, argFr, resK, packV, slHK, partsV, partsS, setR, Int.cast_ofNat_Int, Int.natCast_zero, Int.natCast_one, Nat.reduceLeDiff, reduceIte, Nat.reduceEqDiff, Nat.reduceBEq, reduceCtorEq, Nat.reduceAdd, Nat.reduceMul, Nat.reduceSub, Nat.reduceLT, Int.reduceToNat, Int.reduceLT, Int.reduceLE, Int.reduceEq, Int.reduceAdd, Int.reduceNeg, Int.reduceMul, Int.reduceSub]
            rw [hf]
            exact frz_tup3 (frz_rowX (e := segE) rfl (by decide) rfl rfl rfl rfl) (.free (slot_free _ _)) (frz_int rfl)
          · have h6 : 0 ≤ seek c l 0 (-1) := by omega
            have h7 : (seek c l 0 (-1)).toNat < l.length := by omega
            have hf : tak l c = (l.set (seek c l 0 (-1)).toNat (tak1 (l.getD (seek c l 0 (-1)).toNat (0, 0)) c), (seek c l 0 (-1), (low0 (l.getD (seek c l 0 (-1)).toNat (0, 0)).2 : Int)), 0) := by simp only [tak, hc, hs, h5, if_false, Bool.true_eq_false]
            have hu := hl.at h7
            have hg : (segE.vs l).getD (seek c l 0 (-1)).toNat .junk = .agg [.int .i64 (l.getD (seek c l 0 (-1)).toNat (0, 0)).1, .int .u64 (l.getD (seek c l 0 (-1)).toNat (0, 0)).2] := El.vs_getD (e := segE) h7
            have hx := bcom64 hu
            rw [hf]
            generalize seek c l 0 (-1) = at_ at *
            generalize hq : l.getD at_.toNat (0, 0) = q at *
            have e1 : ((if low0 q.2 < 64 then 2 ^ low0 q.2 else 0 : Nat) : Int) = (shb (low0 q.2) : Int) := rfl
            have e2 : bitOp .or .u64 (q.2 : Int) (shb (low0 q.2) : Int) = ((q.2 ||| shb (low0 q.2) : Nat) : Int) := bor64 hu (shb_lt _)
            simp -implicitDefEqProofs (disch := omega) only [h1, h2, h3, h4, hL, h6, h7, hg, hx, mwx, ne_eq, false_implies, implies_true, forall_eq_or_imp, MW.get, ev, evs, argFr, resK, packV, slHK, partsV, partsS, setR, Int.cast_ofNat_Int, Int.natCast_zero, Int.natCast_one, Nat.reduceLeDiff, reduceIte, Nat.reduceEqDiff, Nat.reduceBEq, reduceCtorEq, Nat.reduceAdd, Nat.reduceMul, Nat.reduceSub, Nat.reduceLT, Int.reduceToNat, Int.reduceLT, Int.reduceLE, Int.reduceEq, Int.reduceAdd, Int.reduceNeg, Int.reduceMul, Int.reduceSub]
            refine Does.call (tz_fn _ (by omega)) (fr1 (.int _ _)) ?_
            have e3 : Lib.ctz 64 (2 ^ 64 - 1 - q.2) = low0 q.2 := rfl
            rw [e3]
            have e4 : (0 : Int) ≤ (low0 q.2 : Int) := by omega
            simp -implicitDefEqProofs (disch := omega) only [h1, h2, h3, h4, hL, h6, h7, hg, e4, shl1, e1, e2, mwx, ne_eq, false_implies, implies_true, forall_eq_or_imp, MW.get, ev, evs, argFr, resK, packV, slHK, partsV, partsS, setR, Int.cast_ofNat_Int, Int.natCast_zero, Int.natCast_one, Nat.reduceLeDiff, reduceIte, Nat.reduceEqDiff, Nat.reduceBEq, reduceCtorEq, Nat.reduceAdd, Nat.reduceMul, Nat.reduceSub, Nat.reduceLT, Int.reduceToNat, Int.reduceLT, Int.reduceLE, Int.reduceEq, Int.reduceAdd, Int.reduceNeg, Int.reduceMul, Int.reduceSub]
            refine frz_tup3 (frz_rowX (e := segE) rfl (by decide) rfl ?_ (by simp) rfl) (.free (slot_free _ _)) (frz_int rfl)
            exact El.vs_set (e := segE) l at_.toNat (c, q.2 ||| shb (low0 q.2))
        · rintro J Q' hJ hn _ _ k fr H ⟨X, i, at_, k1, k2, k3, hH, h1, h2, h3, h4, h5, h6, h7⟩
          obtain rfl : H = _ := hH
          simp -implicitDefEqProofs (disch := omega) only [h1, h2, h3, h4, h5, h6, h7, mwx, ne_eq, false_implies, implies_true, forall_eq_or_imp, MW.get, ev, evs, argFr, resK, packV, slHK, partsV, partsS, setR, Int.cast_ofNat_Int, Int.natCast_zero, Int.natCast_one, Nat.reduceLeDiff, reduceIte, Nat.reduceEqDiff, Nat.reduceBEq, reduceCtorEq, Nat.reduceAdd, Nat.reduceMul, Nat.reduceSub, Nat.reduceLT, Int.reduceToNat, Int.reduceLT, Int.reduceLE, Int.reduceEq, Int.reduceAdd, Int.reduceNeg, Int.reduceMul, Int.reduceSub]
          refine xc_dec (fun h8 => ?_) fun h8 => ?_
          · have hi : i < l.length := by omega
            have hg : (segE.vs l).getD i .junk = .agg [.int .i64 (l.getD i (0, 0)).1, .int .u64 (l.getD i (0, 0)).2] := El.vs_getD (e := segE) hi
            have hd : l.drop i = l.getD i (0, 0) :: l.drop (i + 1) := by
              rw [List.drop_eq_getElem_cons hi, List.getD_eq_getElem?_getD, List.getElem?_eq_getElem hi]; rfl
            rw [hd, seek] at k3
            generalize l.getD i (0, 0) = p at *
            simp -implicitDefEqProofs (disch := omega) only [h1, h2, h3, h4, h5, h6, h7, hL, hi, hg, mwx, ne_eq, false_implies, implies_true, forall_eq_or_imp, MW.get, ev, evs, argFr, resK, packV, slHK, partsV, partsS, setR, Int.cast_ofNat_Int, Int.natCast_zero, Int.natCast_one, Nat.reduceLeDiff, reduceIte, Nat.reduceEqDiff, Nat.reduceBEq, reduceCtorEq, Nat.reduceAdd, Nat.reduceMul, Nat.reduceSub, Nat.reduceLT, Int.reduceToNat, Int.reduceLT, Int.reduceLE, Int.reduceEq, Int.reduceAdd, Int.reduceNeg, Int.reduceMul, Int.reduceSub]
            refine xg_dec (fun h9 => ?_) fun h9 => ?_
            · simp -implicitDefEqProofs (disch := omega) only [h9, h1, mwx, ne_eq, false_implies, implies_true, forall_eq_or_imp, MW.get, ev, evs, argFr, resK, packV, slHK, partsV, partsS, setR, Int.cast_ofNat_Int, Int.natCast_zero, Int.natCast_one, Nat.reduceLeDiff, reduceIte, Nat.reduceEqDiff, Nat.reduceBEq, reduceCtorEq, Nat.reduceAdd, Nat.reduceMul, Nat.reduceSub, Nat.reduceLT, Int.reduceToNat, Int.reduceLT, Int.reduceLE, Int.reduceEq, Int.reduceAdd, Int.reduceNeg, Int.reduceMul, Int.reduceSub]
              refine Does.call (all_fn c) (fr1 (.int _ _)) ?_
              simp -implicitDefEqProofs (disch := omega) only [h9, mwx, ne_eq, false_implies, implies_true, forall_eq_or_imp, MW.get, ev, evs, argFr, resK, packV, slHK, partsV, partsS, setR, Int.cast_ofNat_Int, Int.natCast_zero, Int.natCast_one, Nat.reduceLeDiff, reduceIte, Nat.reduceEqDiff, Nat.reduceBEq, reduceCtorEq, Nat.reduceAdd, Nat.reduceMul, Nat.reduceSub, Nat.reduceLT, Int.reduceToNat, Int.reduceLT, Int.reduceLE, Int.reduceEq, Int.reduceAdd, Int.reduceNeg, Int.reduceMul, Int.reduceSub]
              refine xc_dec (fun h10 => ?_) fun h10 => ?_
              · rw [if_neg (by omega)] at k3
                simp -implicitDefEqProofs (disch := omega) only [h9, h10, mwx, ne_eq, false_implies, implies_true, forall_eq_or_imp, MW.get, ev, evs, argFr, resK, packV, slHK, partsV, partsS, setR, Int.cast_ofNat_Int, Int.natCast_zero, Int.natCast_one, Nat.reduceLeDiff, reduceIte, Nat.reduceEqDiff, Nat.reduceBEq, reduceCtorEq, Nat.reduceAdd, Nat.reduceMul, Nat.reduceSub, Nat.reduceLT, Int.reduceToNat, Int.reduceLT, Int.reduceLE, Int.reduceEq, Int.reduceAdd, Int.reduceNeg, Int.reduceMul, Int.reduceSub]
                refine xg_dec (fun h11 => ?_) fun h11 => ?_
                · simp -implicitDefEqProofs (disch := omega) only [h11, h4, mwx, ne_eq, false_implies, implies_true, forall_eq_or_imp, MW.get, ev, evs, argFr, resK, packV, slHK, partsV, partsS, setR, Int.cast_ofNat_Int, Int.natCast_zero, Int.natCast_one, Nat.reduceLeDiff, reduceIte, Nat.reduceEqDiff, Nat.reduceBEq, reduceCtorEq, Nat.reduceAdd, Nat.reduceMul, Nat.reduceSub, Nat.reduceLT, Int.reduceToNat, Int.reduceLT, Int.reduceLE, Int.reduceEq, Int.reduceAdd, Int.reduceNeg, Int.reduceMul, Int.reduceSub]
                  refine xc_dec (fun h12 => ?_) fun h12 => ?_
                  · rw [if_pos ⟨by omega, h12⟩] at k3
                    simp -implicitDefEqProofs (disch := omega) only [h7, mwx, ne_eq, false_implies, implies_true, forall_eq_or_imp, MW.get, ev, evs, argFr, resK, packV, slHK, partsV, partsS, setR, Int.cast_ofNat_Int, Int.natCast_zero, Int.natCast_one, Nat.reduceLeDiff, reduceIte, Nat.reduceEqDiff, Nat.reduceBEq, reduceCtorEq, Nat.reduceAdd, Nat.reduceMul, Nat.reduceSub, Nat.reduceLT, Int.reduceToNat, Int.reduceLT, Int.reduceLE, Int.reduceEq, Int.reduceAdd, Int.reduceNeg, Int.reduceMul, Int.reduceSub]
                    exact ⟨k - 1, by omega, hJ _ _ ⟨_, i + 1, i, by omega, by omega, k3, rfl, h1, h2, h3, rfl, h5, h6, rfl⟩⟩
                  · rw [if_neg (by omega)] at k3
                    simp -implicitDefEqProofs (disch := omega) only [h7, mwx, ne_eq, false_implies, implies_true, forall_eq_or_imp, MW.get, ev, evs, argFr, resK, packV, slHK, partsV, partsS, setR, Int.cast_ofNat_Int, Int.natCast_zero, Int.natCast_one, Nat.reduceLeDiff, reduceIte, Nat.reduceEqDiff, Nat.reduceBEq, reduceCtorEq, Nat.reduceAdd, Nat.reduceMul, Nat.reduceSub, Nat.reduceLT, Int.reduceToNat, Int.reduceLT, Int.reduceLE, Int.reduceEq, Int.reduceAdd, Int.reduceNeg, Int.reduceMul, Int.reduceSub]
                    exact ⟨k - 1, by omega, hJ _ _ ⟨_, i + 1, at_, by omega, by omega, k3, rfl, h1, h2, h3, h4, h5, h6, rfl⟩⟩
                · rw [if_neg (by omega)] at k3
                  simp -implicitDefEqProofs (disch := omega) only [h11, h7, mwx, ne_eq, false_implies, implies_true, forall_eq_or_imp, MW.get, ev, evs, argFr, resK, packV, slHK, partsV, partsS, setR, Int.cast_ofNat_Int, Int.natCast_zero, Int.natCast_one, Nat.reduceLeDiff, reduceIte, Nat.reduceEqDiff, Nat.reduceBEq, reduceCtorEq, Nat.reduceAdd, Nat.reduceMul, Nat.reduceSub, Nat.reduceLT, Int.reduceToNat, Int.reduceLT, Int.reduceLE, Int.reduceEq, Int.reduceAdd, Int.reduceNeg, Int.reduceMul, Int.reduceSub]
                  exact ⟨k - 1, by omega, hJ _ _ ⟨_, i + 1, at_, by omega, by omega, k3, rfl, h1, h2, h3, h4, h5, h6, rfl⟩⟩
              · rw [if_pos ⟨h9, by omega⟩] at k3
                simp -implicitDefEqProofs (disch := omega) only [hn, mwx, ne_eq, false_implies, implies_true, forall_eq_or_imp, MW.get, ev, evs, argFr, resK, packV, slHK, partsV, partsS, setR, Int.cast_ofNat_Int, Int.natCast_zero, Int.natCast_one, Nat.reduceLeDiff, reduceIte, Nat.reduceEqDiff, Nat.reduceBEq, reduceCtorEq, Nat.reduceAdd, Nat.reduceMul, Nat.reduceSub, Nat.reduceLT, Int.reduceToNat, Int.reduceLT, Int.reduceLE, Int.reduceEq, Int.reduceAdd, Int.reduceNeg, Int.reduceMul, Int.reduceSub]
                exact ⟨_, rfl, h1, h2, h3, by rw [← k3]⟩
            · rw [if_neg (by omega)] at k3
              simp -implicitDefEqProofs (disch := omega) only [h9, mwx, ne_eq, false_implies, implies_true, forall_eq_or_imp, MW.get, ev, evs, argFr, resK, packV, slHK, partsV, partsS, setR, Int.cast_ofNat_Int, Int.natCast_zero, Int.natCast_one, Nat.reduceLeDiff, reduceIte, Nat.reduceEqDiff, Nat.reduceBEq, reduceCtorEq, Nat.reduceAdd, Nat.reduceMul, Nat.reduceSub, Nat.reduceLT, Int.reduceToNat, Int.reduceLT, Int.reduceLE, Int.reduceEq, Int.reduceAdd, Int.reduceNeg, Int.reduceMul, Int.reduceSub]
              refine xg_dec (fun h11 => ?_) fun h11 => ?_
              · simp -implicitDefEqProofs (disch := omega) only [h11, h4, mwx, ne_eq, false_implies, implies_true, forall_eq_or_imp, MW.get, ev, evs, argFr, resK, packV, slHK, partsV, partsS, setR, Int.cast_ofNat_Int, Int.natCast_zero, Int.natCast_one, Nat.reduceLeDiff, reduceIte, Nat.reduceEqDiff, Nat.reduceBEq, reduceCtorEq, Nat.reduceAdd, Nat.reduceMul, Nat.reduceSub, Nat.reduceLT, Int.reduceToNat, Int.reduceLT, Int.reduceLE, Int.reduceEq, Int.reduceAdd, Int.reduceNeg, Int.reduceMul, Int.reduceSub]
                refine xc_dec (fun h12 => ?_) fun h12 => ?_
                · rw [if_pos ⟨h11, h12⟩] at k3
                  simp -implicitDefEqProofs (disch := omega) only [h7, mwx, ne_eq, false_implies, implies_true, forall_eq_or_imp, MW.get, ev, evs, argFr, resK, packV, slHK, partsV, partsS, setR, Int.cast_ofNat_Int, Int.natCast_zero, Int.natCast_one, Nat.reduceLeDiff, reduceIte, Nat.reduceEqDiff, Nat.reduceBEq, reduceCtorEq, Nat.reduceAdd, Nat.reduceMul, Nat.reduceSub, Nat.reduceLT, Int.reduceToNat, Int.reduceLT, Int.reduceLE, Int.reduceEq, Int.reduceAdd, Int.reduceNeg, Int.reduceMul, Int.reduceSub]
                  exact ⟨k - 1, by omega, hJ _ _ ⟨_, i + 1, i, by omega, by omega, k3, rfl, h1, h2, h3, rfl, h5, h6, rfl⟩⟩
                · rw [if_neg (by omega)] at k3
                  simp -implicitDefEqProofs (disch := omega) only [h7, mwx, ne_eq, false_implies, implies_true, forall_eq_or_imp, MW.get, ev, evs, argFr, resK, packV, slHK, partsV, partsS, setR, Int.cast_ofNat_Int, Int.natCast_zero, Int.natCast_one, Nat.reduceLeDiff, reduceIte, Nat.reduceEqDiff, Nat.reduceBEq, reduceCtorEq, Nat.reduceAdd, Nat.reduceMul, Nat.reduceSub, Nat.reduceLT, Int.reduceToNat, Int.reduceLT, Int.reduceLE, Int.reduceEq, Int.reduceAdd, Int.reduceNeg, Int.reduceMul, Int.reduceSub]
                  exact ⟨k - 1, by omega, hJ _ _ ⟨_, i + 1, at_, by omega, by omega, k3, rfl, h1, h2, h3, h4, h5, h6, rfl⟩⟩
              · rw [if_neg (by omega)] at k3
                simp -implicitDefEqProofs (disch := omega) only [h11, h7, mwx, ne_eq, false_implies, implies_true, forall_eq_or_imp, MW.get, ev, evs, argFr, resK, packV, slHK, partsV, partsS, setR, Int.cast_ofNat_Int, Int.natCast_zero, Int.natCast_one, Nat.reduceLeDiff, reduceIte, Nat.reduceEqDiff, Nat.reduceBEq, reduceCtorEq, Nat.reduceAdd, Nat.reduceMul, Nat.reduceSub, Nat.reduceLT, Int.reduceToNat, Int.reduceLT, Int.reduceLE, Int.reduceEq, Int.reduceAdd, Int.reduceNeg, Int.reduceMul, Int.reduceSub]
                exact ⟨k - 1, by omega, hJ _ _ ⟨_, i + 1, at_, by omega, by omega, k3, rfl, h1, h2, h3, h4, h5, h6, rfl⟩⟩
          · have hd : l.drop i = [] := List.drop_of_length_le (by omega)
            rw [hd, seek] at k3
            simp -implicitDefEqProofs (disch := omega) only [hn, mwx, ne_eq, false_implies, implies_true, forall_eq_or_imp, MW.get, ev, evs, argFr, resK, packV, slHK, partsV, partsS, setR, Int.cast_ofNat_Int, Int.natCast_zero, Int.natCast_one, Nat.reduceLeDiff, reduceIte, Nat.reduceEqDiff, Nat.reduceBEq, reduceCtorEq, Nat.reduceAdd, Nat.reduceMul, Nat.reduceSub, Nat.reduceLT, Int.reduceToNat, Int.reduceLT, Int.reduceLE, Int.reduceEq, Int.reduceAdd, Int.reduceNeg, Int.reduceMul, Int.reduceSub]
            exact ⟨_, rfl, h1, h2, h3, by rw [← k3]; exact h4⟩
  · have hf : tak l c = (l, (0, 0), 120) := by simp [tak, hc]
    rw [hf]
    refine ⟨v', g1, ?_⟩
    refine Does.intro mixed comp50 ?_
    unfold c50
    simp -implicitDefEqProofs (disch := omega) only [mwx, ne_eq, false_implies, implies_true, forall_eq_or_imp, MW.get, ev, evs, argFr, resK, packV, slHK, partsV, partsS, setR, Int.cast_ofNat_Int, Int.natCast_zero, Int.natCast_one, Nat.reduceLeDiff, reduceIte, Nat.reduceEqDiff, Nat.reduceBEq, reduceCtorEq, Nat.reduceAdd, Nat.reduceMul, Nat.reduceSub, Nat.reduceLT, Int.reduceToNat, Int.reduceLT, Int.reduceLE, Int.reduceEq, Int.reduceAdd, Int.reduceNeg, Int.reduceMul, Int.reduceSub]
    refine callK_sim hsim ?_
    simp -implicitDefEqProofs (disch := omega) only [mwx, ne_eq, false_implies, implies_true, forall_eq_or_imp, MW.get, ev, evs, argFr, resK, packV, slHK, partsV, partsS, setR, Int.cast_ofNat_Int, Int.natCast_zero, Int.natCast_one, Nat.reduceLeDiff, reduceIte, Nat.reduceEqDiff, Nat.reduceBEq, reduceCtorEq, Nat.reduceAdd, Nat.reduceMul, Nat.reduceSub, Nat.reduceLT, Int.reduceToNat, Int.reduceLT, Int.reduceLE, Int.reduceEq, Int.reduceAdd, Int.reduceNeg, Int.reduceMul, Int.reduceSub]
    refine Does.call (chk_fn hv hl) (fr1 hv.free) ?_
    simp -implicitDefEqProofs (disch := omega) only [hc, mwx, ne_eq, false_implies, implies_true, forall_eq_or_imp, MW.get, ev, evs, argFr, resK, packV, slHK, partsV, partsS, setR, Int.cast_ofNat_Int, Int.natCast_zero, Int.natCast_one, Nat.reduceLeDiff, reduceIte, Nat.reduceEqDiff, Nat.reduceBEq, reduceCtorEq, Nat.reduceAdd, Nat.reduceMul, Nat.reduceSub, Nat.reduceLT, Int.reduceToNat, Int.reduceLT, Int.reduceLE, Int.reduceEq, Int.reduceAdd, Int.reduceNeg, Int.reduceMul, Int.reduceSub]
    exact frz_tup3 g2 (.free (slot_free _ _)) (frz_int rfl)

end Go.Proofs.YtlcbogafgdofgaaDoor

/- Arena: the plain laws. -/
namespace Go.Proofs.YtlcbogafgdofgaaDoor
open Go Go.MW
set_option linter.unusedSimpArgs false
set_option linter.unusedVariables false

abbrev sat (l : List Sg) (i : Nat) : Sg := l.getD i (0, 0)
theorem sat_eq {l : List Sg} {i : Nat} (h : i < l.length) : sat l i = l[i] := by simp [sat, List.getD_eq_getElem?_getD, h]
theorem sat_set {l : List Sg} {i : Nat} (h : i < l.length) (x : Sg) : sat (l.set i x) i = x := by simp [sat, List.getD_eq_getElem?_getD, h]
theorem sat_set_ne {l : List Sg} {i j : Nat} (h : i ≠ j) (x : Sg) : sat (l.set i x) j = sat l j := by simp [sat, List.getD_eq_getElem?_getD, List.getElem?_set_ne h]

/-- What 'seek' finds. -/
def fits (c : Int) (p : Sg) : Prop := p.1 = c ∧ p.2 ≠ allN c
theorem seek_spec (c : Int) : ∀ (l : List Sg) (i : Nat) (at_ : Int), at_ < i →
    (∃ j : Nat, j < l.length ∧ seek c l i at_ = (i + j : Nat) ∧ fits c (sat l j) ∧ ∀ b, b < j → ¬ fits c (sat l b)) ∨
    ((∀ b, b < l.length → ¬ fits c (sat l b)) ∧ ((0 ≤ at_ ∧ seek c l i at_ = at_) ∨ (at_ < 0 ∧ ((∃ j : Nat, j < l.length ∧ seek c l i at_ = (i + j : Nat) ∧ (sat l j).1 = -1 ∧ ∀ b, b < j → (sat l b).1 ≠ -1) ∨ (seek c l i at_ = at_ ∧ ∀ b, b < l.length → (sat l b).1 ≠ -1)))))
  | [], i, at_, h => by
    refine .inr ⟨by simp, ?_⟩
    by_cases h0 : 0 ≤ at_
    · exact .inl ⟨h0, rfl⟩
    · exact .inr ⟨by omega, .inr ⟨rfl, by simp⟩⟩
  | p :: l, i, at_, h => by
    have at0 : sat (p :: l) 0 = p := rfl
    have atS : ∀ j, sat (p :: l) (j + 1) = sat l j := fun _ => rfl
    unfold seek
    split
    · rename_i hf
      exact .inl ⟨0, by simp, by simp, hf, by omega⟩
    · rename_i hf
      have fst : ∀ n, (∀ b, b < n → ¬ fits c (sat l b)) → ∀ b, b < n + 1 → ¬ fits c (sat (p :: l) b) := by
        intro n hn b hb
        cases b with
        | zero => exact hf
        | succ b => exact hn b (by omega)
      split
      · rename_i hq
        rcases seek_spec c l (i + 1) i (by omega) with ⟨j, j1, j2, j3, j4⟩ | ⟨k1, k2⟩
        · exact .inl ⟨j + 1, by simpa using j1, by rw [j2]; omega, j3, fst _ j4⟩
        · refine .inr ⟨fst _ k1, .inr ⟨hq.2, .inl ⟨0, by simp, ?_, hq.1, by omega⟩⟩⟩
          rcases k2 with ⟨_, k2⟩ | ⟨k2, _⟩
          · rw [k2]; simp
          · omega
      · rename_i hq
        rcases seek_spec c l (i + 1) at_ (by omega) with ⟨j, j1, j2, j3, j4⟩ | ⟨k1, k2⟩
        · exact .inl ⟨j + 1, by simpa using j1, by rw [j2]; omega, j3, fst _ j4⟩
        · refine .inr ⟨fst _ k1, ?_⟩
          rcases k2 with k2 | ⟨k2, k3⟩
          · exact .inl k2
          · have hp : p.1 ≠ -1 := fun e => hq ⟨e, k2⟩
            have frs : ∀ n, (∀ b, b < n → (sat l b).1 ≠ -1) → ∀ b, b < n + 1 → (sat (p :: l) b).1 ≠ -1 := by
              intro n hn b hb
              cases b with
              | zero => exact hp
              | succ b => exact hn b (by omega)
            refine .inr ⟨k2, ?_⟩
            rcases k3 with ⟨j, j1, j2, j3, j4⟩ | ⟨k3, k4⟩
            · exact .inl ⟨j + 1, by simpa using j1, by rw [j2]; omega, j3, frs _ j4⟩
            · exact .inr ⟨k3, frs _ k4⟩

theorem sgOK_free {p : Sg} (h : sgOK p = true) (hp : p.1 = -1) : p.2 = 0 := by
  simpa [sgOK, hp] using h
theorem sgOK_used {p : Sg} (h : sgOK p = true) (hp : p.1 ≠ -1) : slN p.1 ≠ 0 ∧ p.2 ≠ 0 ∧ p.2 < 2 ^ slN p.1 := by
  simpa [sgOK, hp, and_assoc] using h
theorem sgOK_of {c : Int} {u : Nat} (h0 : slN c ≠ 0) (h1 : u ≠ 0) (h2 : u < 2 ^ slN c) : sgOK (c, u) = true := by
  have : c ≠ -1 := by rintro rfl; exact h0 rfl
  simp [sgOK, this, h0, h1, h2]
theorem chk_iff {l : List Sg} : chk l = true ↔ l.length ≤ 200 ∧ ∀ i, i < l.length → sgOK (sat l i) = true := by
  simp only [chk, Bool.and_eq_true, decide_eq_true_eq, List.all_eq_true]
  refine and_congr_right fun _ => ⟨fun h i hi => by rw [sat_eq hi]; exact h _ (List.getElem_mem hi), fun h p hp => ?_⟩
  obtain ⟨i, hi, rfl⟩ := List.getElem_of_mem hp
  rw [← sat_eq hi]
  exact h i hi
theorem chk_set {l : List Sg} {i : Nat} {x : Sg} (h : chk l = true) (hx : sgOK x = true) : chk (l.set i x) = true := by
  rw [chk_iff] at h ⊢
  refine ⟨by simpa using h.1, fun j hj => ?_⟩
  rw [List.length_set] at hj
  by_cases e : i = j
  · subst e; rw [sat_set hj]; exact hx
  · rw [sat_set_ne e]; exact h.2 j hj
theorem SegOK.set {l : List Sg} {i : Nat} {x : Sg} (h : SegOK l) (hx : x.2 < 2 ^ 64) : SegOK (l.set i x) := by
  intro p hp
  rcases List.mem_or_eq_of_mem_set hp with h' | rfl
  · exact h p h'
  · exact hx

theorem isum_set {h : Sg → Int} : ∀ (l : List Sg) (i : Nat) (x : Sg), i < l.length → isum ((l.set i x).map h) = isum (l.map h) - h (sat l i) + h x
  | [], i, x, hi => by simp at hi
  | p :: l, 0, x, _ => by simp only [List.set_cons_zero, List.map_cons, isum_cons, sat, List.getD_cons_zero]; omega
  | p :: l, i + 1, x, hi => by
    have := isum_set (h := h) l i x (by simpa using hi)
    simp only [List.set_cons_succ, List.map_cons, isum_cons, sat, List.getD_cons_succ] at this ⊢
    omega

/-- Places below the least free one. -/
theorem low0_lt {u n : Nat} (h : u < 2 ^ n) (hn : n ≤ 64) (hu : u ≠ 2 ^ n - 1) (h0 : n ≠ 0) : low0 u < n ∧ u.testBit (low0 u) = false ∧ ∀ i, i < low0 u → u.testBit i = true := by
  have hp : 2 ^ n ≤ 2 ^ 64 := Nat.pow_le_pow_right (by decide) hn
  obtain ⟨h1, h2, h3⟩ := low0_spec (a := u) (by omega)
  refine ⟨?_, h2, h3⟩
  refine Nat.lt_of_not_le fun hle => hu ?_
  refine Nat.eq_of_testBit_eq fun i => ?_
  rw [Nat.testBit_two_pow_sub_one]
  by_cases hi : i < n
  · rw [h3 i (by omega)]; simp [hi]
  · rw [Nat.testBit_lt_two_pow (Nat.lt_of_lt_of_le h (Nat.pow_le_pow_right (by decide) (by omega)))]; simp [hi]

theorem or_bit {u q i : Nat} : (u ||| 2 ^ q).testBit i = (u.testBit i || decide (q = i)) := by
  rw [Nat.testBit_or, Nat.testBit_two_pow]

/-- A slot that is taken: all that is said of it. -/
theorem tak_ok {l : List Sg} {c : Int} (hl : SegOK l) (hc : chk l = true) (h : (tak l c).2.2 = 0) :
    ∃ (j q : Nat), j < l.length ∧ q < slN c ∧ slN c ≠ 0 ∧ tak l c = (l.set j (c, (sat l j).2 ||| 2 ^ q), ((j : Int), (q : Int)), 0) ∧ (sat l j).2.testBit q = false ∧ (∀ i, i < q → (sat l j).2.testBit i = true) ∧ (sat l j).2 < 2 ^ slN c ∧
      (((sat l j).1 = c ∧ (sat l j).2 ≠ 0 ∧ (sat l j).2 ≠ allN c ∧ ∀ b, b < j → ¬ fits c (sat l b)) ∨ ((sat l j).1 = -1 ∧ (sat l j).2 = 0 ∧ (∀ b, b < l.length → ¬ fits c (sat l b)) ∧ ∀ b, b < j → (sat l b).1 ≠ -1)) := by
  have h0 : slN c ≠ 0 := by
    intro h0
    simp [tak, hc, h0] at h
  have h1 : ¬ seek c l 0 (-1) < 0 := by
    intro h1
    simp [tak, hc, h0, h1] at h
  have ht : tak l c = (l.set (seek c l 0 (-1)).toNat (tak1 (l.getD (seek c l 0 (-1)).toNat (0, 0)) c), (seek c l 0 (-1), (low0 (l.getD (seek c l 0 (-1)).toNat (0, 0)).2 : Int)), 0) := by
    simp only [tak, hc, h0, h1, if_false, Bool.true_eq_false]
  have hsp := seek_spec c l 0 (-1) (by omega)
  have hok := (chk_iff.1 hc).2
  have hsl := slN_le c
  rcases hsp with ⟨j, j1, j2, j3, j4⟩ | ⟨k1, k2⟩
  · rw [Nat.zero_add] at j2
    rw [j2, Int.toNat_natCast] at ht
    obtain ⟨s1, s2, s3⟩ := sgOK_used (hok j j1) (by rw [j3.1]; rintro rfl; exact h0 rfl)
    rw [j3.1] at s1 s3
    obtain ⟨q1, q2, q3⟩ := low0_lt s3 hsl j3.2 h0
    refine ⟨j, low0 (sat l j).2, j1, q1, h0, ?_, q2, q3, s3, .inl ⟨j3.1, s2, j3.2, j4⟩⟩
    rw [ht]
    simp only [tak1, shb, if_pos (Nat.lt_of_lt_of_le q1 hsl)]
  · rcases k2 with ⟨k2, _⟩ | ⟨_, k2⟩
    · omega
    · rcases k2 with ⟨j, j1, j2, j3, j4⟩ | ⟨k2, _⟩
      · rw [Nat.zero_add] at j2
        rw [j2, Int.toNat_natCast] at ht
        have u0 := sgOK_free (hok j j1) j3
        have q0 : low0 (sat l j).2 = 0 := by rw [u0]; decide
        refine ⟨j, 0, j1, by omega, h0, ?_, by rw [u0]; rfl, by omega, by rw [u0]; exact Nat.two_pow_pos _, .inr ⟨j3, u0, k1, j4⟩⟩
        rw [ht]
        simp only [tak1, q0]
        rfl
      · rw [k2] at h1; omega

theorem has_at {l : List Sg} {j : Nat} {a : Nat} (hc : chk l = true) (hj : j < l.length) : has l j a = (sat l j).2.testBit a := by
  simp [has, hc, hj, sat]

/-- A slot taken: it was not; it is then, and it alone; given back all is as it was. -/
theorem back_law {l : List Sg} {c : Int} (hl : SegOK l) (hc : chk l = true) (h : (tak l c).2.2 = 0) (s a : Int) :
    has l (tak l c).2.1.1 (tak l c).2.1.2 = false ∧ has (tak l c).1 (tak l c).2.1.1 (tak l c).2.1.2 = true ∧ fre (tak l c).1 (tak l c).2.1.1 (tak l c).2.1.2 = (l, 0) ∧
    ((s = (tak l c).2.1.1 ∧ a = (tak l c).2.1.2) ∨ has l s a = has (tak l c).1 s a) ∧ chk (tak l c).1 = true ∧ SegOK (tak l c).1 ∧ (tak l c).1.length = l.length ∧ cnt sgTaken (tak l c).1 = cnt sgTaken l + byts c ∧ 0 ≤ cnt sgTaken l ∧ cnt sgTaken l ≤ 819200 := by
  obtain ⟨j, q, hj, hq, h0, ht, hb, hlow, hlt, hor⟩ := tak_ok hl hc h
  rw [ht]
  simp only
  have hq64 : q < 64 := Nat.lt_of_lt_of_le hq (slN_le c)
  have hu := hl.at hj
  have hor_lt : (sat l j).2 ||| 2 ^ q < 2 ^ slN c := Nat.or_lt_two_pow hlt (Nat.pow_lt_pow_right (by decide) hq)
  have hor_ne : (sat l j).2 ||| 2 ^ q ≠ 0 := by
    intro e
    have := congrArg (Nat.testBit · q) e
    simp [or_bit] at this
  have h64 : (sat l j).2 ||| 2 ^ q < 2 ^ 64 := Nat.lt_of_lt_of_le hor_lt (Nat.pow_le_pow_right (by decide) (slN_le c))
  have hcm : chk (l.set j (c, (sat l j).2 ||| 2 ^ q)) = true := chk_set hc (sgOK_of h0 hor_ne hor_lt)
  have hjm : j < (l.set j (c, (sat l j).2 ||| 2 ^ q)).length := by simpa using hj
  have hclr : clr1 ((sat l j).2 ||| 2 ^ q) q = (sat l j).2 := by
    refine Nat.eq_of_testBit_eq fun i => ?_
    rw [clr1_bit h64 hq64, or_bit]
    by_cases e : i = q
    · subst e; rw [hb]; simp
    · simp [e, Ne.symm e]
  have hhm : has (l.set j (c, (sat l j).2 ||| 2 ^ q)) j q = true := by rw [has_at hcm hjm, sat_set hj, or_bit]; simp
  refine ⟨by rw [has_at hc hj, hb], hhm, ?_, ?_, hcm, hl.set h64, by simp, ?_, ?_⟩
  · rw [fre, if_pos hhm]
    simp only [Int.toNat_natCast]
    rw [show List.getD (l.set j (c, (sat l j).2 ||| 2 ^ q)) j (0, 0) = (c, (sat l j).2 ||| 2 ^ q) from sat_set hj _, fre1]
    simp only [hclr]
    rw [List.set_set]
    have : (if (sat l j).2 = 0 then -1 else c, (sat l j).2) = sat l j := by
      rcases hor with ⟨h1, h2, _⟩ | ⟨h1, h2, _⟩
      · rw [if_neg h2, ← h1]
      · rw [if_pos h2, ← h1]
    rw [this, sat_eq hj, List.set_getElem_self]
  · by_cases e1 : s = j
    · subst e1
      by_cases e2 : a = q
      · exact .inl ⟨rfl, e2⟩
      · right
        have hp : (sat (l.set j (c, (sat l j).2 ||| 2 ^ q)) j).2.testBit a.toNat = (sat l j).2.testBit a.toNat ∨ a < 0 := by
          by_cases ha : a < 0
          · exact .inr ha
          · left
            rw [sat_set hj, or_bit]
            have : ¬ q = a.toNat := by omega
            simp [this]
        rcases hp with hp | hp
        · simp only [has, hc, hcm, Int.toNat_natCast, List.length_set]
          rw [show (l.getD j (0, 0)).2.testBit a.toNat = _ from hp.symm]
        · have : ¬ 0 ≤ a := by omega
          simp [has, this]
    · right
      have hp : (sat (l.set j (c, (sat l j).2 ||| 2 ^ q)) s.toNat) = sat l s.toNat ∨ s < 0 := by
        by_cases hs : s < 0
        · exact .inr hs
        · left
          exact sat_set_ne (by omega) _
      rcases hp with hp | hp
      · simp only [has, hc, hcm, List.length_set]
        rw [show (l.getD s.toNat (0, 0)) = _ from hp.symm]
      · have : ¬ 0 ≤ s := by omega
        simp [has, this]
  · simp only [cnt, hc, hcm, if_true]
    rw [isum_set l j _ hj]
    have hpc : pc 64 ((sat l j).2 ||| 2 ^ q) = pc 64 (sat l j).2 + 1 := pc_bits 64 _ _ q hq64 hb (by rw [or_bit]; simp) fun i hi => by rw [or_bit]; simp [Ne.symm hi]
    have hnew : sgTaken (c, (sat l j).2 ||| 2 ^ q) = (pc 64 (sat l j).2 : Int) * byts c + byts c := by
      unfold sgTaken
      rw [hpc, Int.natCast_succ, Int.add_mul, Int.one_mul]
    have hold : sgTaken (sat l j) = (pc 64 (sat l j).2 : Int) * byts c := by
      unfold sgTaken
      rcases hor with ⟨h1, _⟩ | ⟨_, h2, _⟩
      · rw [h1]
      · rw [h2]; simp [show pc 64 0 = 0 by decide]
    rw [hnew, hold]
    omega
  · have := isum_le sgTaken_le l
    have := chk_len hc
    simp only [cnt, hc, if_true]
    omega

theorem has_eq {l l' : List Sg} {s a : Int} (h1 : chk l = chk l') (h2 : l.length = l'.length) (h3 : 0 ≤ s → s < l.length → 0 ≤ a → (sat l s.toNat).2.testBit a.toNat = (sat l' s.toNat).2.testBit a.toNat) : has l s a = has l' s a := by
  unfold has
  rw [h1, h2]
  by_cases e1 : 0 ≤ s
  · by_cases e2 : s < l'.length
    · by_cases e3 : 0 ≤ a
      · have := h3 e1 (by omega) e3
        rw [show (l.getD s.toNat (0, 0)).2.testBit a.toNat = _ from this]
      · simp [e3]
    · simp [e2]
  · simp [e1]

/-- A slot given back. -/
theorem fre_spec {l : List Sg} (hl : SegOK l) (hc : chk l = true) {s a : Int} (h : has l s a = true) :
    ∃ (j q : Nat), s = j ∧ a = q ∧ j < l.length ∧ q < 64 ∧ (sat l j).2.testBit q = true ∧ fre l s a = (l.set j (fre1 (sat l j) q), 0) ∧ chk (l.set j (fre1 (sat l j) q)) = true ∧ SegOK (l.set j (fre1 (sat l j) q)) ∧ sgTaken (fre1 (sat l j) q) ≤ sgTaken (sat l j) := by
  obtain ⟨_, h1, h2, h3, h4⟩ := has_iff.1 h
  obtain ⟨j, rfl⟩ : ∃ j : Nat, s = j := ⟨s.toNat, by omega⟩
  obtain ⟨q, rfl⟩ : ∃ q : Nat, a = q := ⟨a.toNat, by omega⟩
  have hj : j < l.length := by omega
  rw [Int.toNat_natCast, Int.toNat_natCast] at h4
  have hu := hl.at hj
  have hq : q < 64 := by
    rcases Nat.lt_or_ge q 64 with h | h
    · exact h
    · rw [testBit_big hu h] at h4; cases h4
  have hok := (chk_iff.1 hc).2 j hj
  have hne : (sat l j).2 ≠ 0 := by
    intro e
    have h4' : (sat l j).2.testBit q = true := h4
    rw [e, Nat.zero_testBit] at h4'
    cases h4'
  have hcl : (sat l j).1 ≠ -1 := fun e => hne (sgOK_free hok e)
  obtain ⟨k1, k2, k3⟩ := sgOK_used hok hcl
  have hle : clr1 (sat l j).2 q ≤ (sat l j).2 := Nat.and_le_left
  have hnew : sgOK (fre1 (sat l j) q) = true := by
    unfold fre1
    split
    · rename_i e; rw [e]; rfl
    · rename_i e; exact sgOK_of k1 e (Nat.lt_of_le_of_lt hle k3)
  refine ⟨j, q, rfl, rfl, hj, hq, h4, ?_, chk_set hc hnew, hl.set (Nat.lt_of_le_of_lt hle hu), ?_⟩
  · rw [fre, if_pos h]; simp only [Int.toNat_natCast]
  · have hpc : pc 64 (sat l j).2 = pc 64 (clr1 (sat l j).2 q) + 1 := pc_bits 64 _ _ q hq (by rw [clr1_bit hu hq]; simp) h4 fun i hi => by rw [clr1_bit hu hq]; simp [hi]
    have hb := (byts_le (sat l j).1).1
    have h1 : (pc 64 (sat l j).2 : Int) * byts (sat l j).1 = (pc 64 (clr1 (sat l j).2 q) : Int) * byts (sat l j).1 + byts (sat l j).1 := by
      rw [hpc, Int.natCast_succ, Int.add_mul, Int.one_mul]
    unfold sgTaken fre1
    simp only
    rw [h1]
    split
    · rename_i e
      rw [e, show pc 64 0 = 0 by decide]
      simp only [Int.natCast_zero, Int.zero_mul]
      omega
    · omega

theorem fre_no {l : List Sg} {s a : Int} (h : has l s a = false) : fre l s a = (l, 120) := by simp [fre, h]

theorem fre_ok {l : List Sg} (hl : SegOK l) (hc : chk l = true) (s a : Int) : chk (fre l s a).1 = true ∧ SegOK (fre l s a).1 ∧ (fre l s a).1.length = l.length ∧ cnt sgTaken (fre l s a).1 ≤ cnt sgTaken l := by
  cases h : has l s a with
  | false => rw [fre_no h]; exact ⟨hc, hl, rfl, Int.le_refl _⟩
  | true =>
    obtain ⟨j, q, _, _, hj, _, _, hf, h1, h2, h3⟩ := fre_spec hl hc h
    rw [hf]
    refine ⟨h1, h2, by simp, ?_⟩
    have h1' : chk (l.set j (fre1 (sat l j) q)) = true := h1
    simp only [cnt, hc, h1', if_true]
    rw [isum_set l j _ hj]
    omega

theorem fre_has {l : List Sg} (hl : SegOK l) (hc : chk l = true) (s a t b : Int) (hne : ¬ (s = t ∧ a = b)) : has (fre l s a).1 t b = has l t b := by
  cases h : has l s a with
  | false => rw [fre_no h]
  | true =>
    obtain ⟨j, q, rfl, rfl, hj, hq, hbit, hf, h1, h2, h3⟩ := fre_spec hl hc h
    rw [hf]
    refine has_eq (by rw [h1, hc]) (by simp) fun e1 e2 e3 => ?_
    by_cases e : t = j
    · subst e
      rw [Int.toNat_natCast, sat_set hj]
      show (clr1 _ _).testBit _ = _
      rw [clr1_bit (hl.at hj) hq]
      have : b.toNat ≠ q := by omega
      simp [this]
    · rw [sat_set_ne (by omega)]

theorem fre_gone {l : List Sg} (hl : SegOK l) (hc : chk l = true) (s a : Int) : has (fre l s a).1 s a = false := by
  cases h : has l s a with
  | false => rw [fre_no h]; exact h
  | true =>
    obtain ⟨j, q, rfl, rfl, hj, hq, hbit, hf, h1, h2, h3⟩ := fre_spec hl hc h
    rw [hf]
    simp only
    rw [has_at h1 (by simpa using hj), sat_set hj]
    show (clr1 _ _).testBit _ = _
    rw [clr1_bit (hl.at hj) hq]
    simp

/-- Two slots given back, in either order. -/
theorem turns_law {l : List Sg} (hl : SegOK l) (hc : chk l = true) {s a t b : Int} (hne : ¬ (s = t ∧ a = b)) :
    (fre (fre l s a).1 t b).1 = (fre (fre l t b).1 s a).1 ∧ (fre l s a).2 = (fre (fre l t b).1 s a).2 ∧ (fre (fre l s a).1 t b).2 = (fre l t b).2 ∧ (fre (fre (fre l s a).1 t b).1 s a).2 = 120 := by
  obtain ⟨c1, l1, n1, _⟩ := fre_ok hl hc s a
  obtain ⟨c2, l2, n2, _⟩ := fre_ok hl hc t b
  have hs : has (fre l t b).1 s a = has l s a := fre_has hl hc t b s a (by omega)
  have ht : has (fre l s a).1 t b = has l t b := fre_has hl hc s a t b hne
  have e120 : ∀ (m : List Sg) (x y : Int), (fre m x y).2 = if has m x y then 0 else 120 := by intro m x y; unfold fre; split <;> rfl
  refine ⟨?_, by rw [e120, e120, hs], by rw [e120, e120, ht], ?_⟩
  · cases h1 : has l s a with
    | false =>
      rw [fre_no h1, fre_no (l := (fre l t b).1) (by rw [hs, h1])]
    | true =>
      cases h2 : has l t b with
      | false => rw [fre_no h2, fre_no (l := (fre l s a).1) (by rw [ht, h2])]
      | true =>
        obtain ⟨j, q, rfl, rfl, hj, hq, hbit, hf, _⟩ := fre_spec hl hc h1
        obtain ⟨i, r, rfl, rfl, hi, hr, hbit2, hg, _⟩ := fre_spec hl hc h2
        have k1 := ht.trans h2
        have k2 := hs.trans h1
        rw [hf] at k1 c1 l1 ⊢
        rw [hg] at k2 c2 l2 ⊢
        obtain ⟨i', r', e1, e2, hi', hr', _, hf', _⟩ := fre_spec l1 c1 k1
        obtain ⟨j', q', e3, e4, hj', hq', _, hg', _⟩ := fre_spec l2 c2 k2
        obtain rfl : i = i' := by omega
        obtain rfl : r = r' := by omega
        obtain rfl : j = j' := by omega
        obtain rfl : q = q' := by omega
        simp only at hf' hg' ⊢
        rw [hf', hg']
        simp only
        by_cases e : i = j
        · subst e
          rw [List.set_set, List.set_set, sat_set hi, sat_set hi]
          congr 1
          have hu := hl.at hi
          have hqr : q ≠ r := by omega
          have hcc : clr1 (clr1 (sat l i).2 q) r = clr1 (clr1 (sat l i).2 r) q := by
            refine Nat.eq_of_testBit_eq fun k => ?_
            rw [clr1_bit (clr1_lt hu) hr, clr1_bit (clr1_lt hu) hq, clr1_bit hu hr, clr1_bit hu hq]
            rw [Bool.and_assoc, Bool.and_assoc, Bool.and_comm (decide (k ≠ q))]
          have z1 : clr1 (sat l i).2 q ≠ 0 := by
            intro z
            have := congrArg (Nat.testBit · r) z
            simp only [clr1_bit hu hq, hbit2, Nat.zero_testBit, Bool.true_and, decide_eq_false_iff_not] at this
            omega
          have z2 : clr1 (sat l i).2 r ≠ 0 := by
            intro z
            have := congrArg (Nat.testBit · q) z
            simp only [clr1_bit hu hr, hbit, Nat.zero_testBit, Bool.true_and, decide_eq_false_iff_not] at this
            omega
          simp only [fre1, hcc, if_neg z1, if_neg z2]
        · rw [sat_set_ne (Ne.symm e), sat_set_ne e, List.set_comm _ _ (Ne.symm e)]
  · rw [e120]
    have h3 : has (fre (fre l s a).1 t b).1 s a = has (fre l s a).1 s a := fre_has l1 c1 t b s a (by omega)
    rw [h3, fre_gone hl hc]
    rfl

theorem has_used {l : List Sg} (hc : chk l = true) {s a : Int} (h : has l s a = true) : (sat l s.toNat).2 ≠ 0 ∧ (sat l s.toNat).1 ≠ -1 := by
  obtain ⟨_, h1, h2, h3, h4⟩ := has_iff.1 h
  have h4' : (sat l s.toNat).2.testBit a.toNat = true := h4
  have hne : (sat l s.toNat).2 ≠ 0 := by
    intro e
    rw [e, Nat.zero_testBit] at h4'
    cases h4'
  exact ⟨hne, fun e => hne (sgOK_free ((chk_iff.1 hc).2 _ (by omega)) e)⟩

end Go.Proofs.YtlcbogafgdofgaaDoor

/- Slots, and bytes, as elements. -/
namespace Go.Proofs.YtlcbogafgdofgaaDoor
open Go Go.MW
set_option linter.unusedSimpArgs false
set_option linter.unusedVariables false

def slotE : El (Int × Int) where
  sz := 2
  f p := .agg [.int .i64 p.1, .int .i64 p.2]
  d := (0, 0)
  im := false
  good p := ⟨rfl, by simp [V.cells, V.one]⟩
  free p j hj := by
    have : j = 0 ∨ j = 1 := by omega
    rcases this with rfl | rfl <;> exact .int _ _
def u8E : El UInt8 where
  sz := 1
  f b := .int .u8 b.toNat
  d := 0
  im := false
  good n := ⟨rfl, by simp [V.cells, V.one]⟩
  free n j hj := by obtain rfl : j = 0 := by omega
                    exact .int _ _
theorem u8E_vs (l : List UInt8) : u8E.vs l = l.map u8V := rfl
theorem iaK_slot {v : V} {l : List (Int × Int)} (h : IsE slotE v l) {H : List Blk} {k : IntKind} {n : Int} {K : V → Prop} (h0 : 0 ≤ n) (hn : n.toNat < l.length) : iaK H 2 v (.int k n) K = K (.vp [.int .i64 (l.getD n.toNat (0, 0)).1, .int .i64 (l.getD n.toNat (0, 0)).2]) :=
  iaK_isE h (e := slotE) rfl h0 hn
end Go.Proofs.YtlcbogafgdofgaaDoor

/- Store (chapter 12): where a slot's bytes are; each slot that is taken; may a store be? -/
namespace Go.Proofs.YtlcbogafgdofgaaDoor
open Go Go.MW
set_option linter.unusedSimpArgs false
set_option linter.unusedVariables false

/-- How many bytes a slot has, as a number. -/
def bN (c : Int) : Nat := (byts c).toNat
theorem bN_byts (c : Int) : byts c = bN c := by have := byts_le c; unfold bN; omega
theorem bN_slN (c : Int) : slN c * bN c = 512 ∨ (slN c = 0 ∧ bN c = 0) := by
  unfold slN bN byts
  repeat' split
  all_goals first | omega | decide
theorem bN_le (c : Int) : bN c ≤ 64 := by have := byts_le c; unfold bN; omega

theorem span_fn {v : V} {l : List Sg} (hv : IsE segE v l) {s a : Nat} (hs : s < l.length) (hn : l.length ≤ 200) (ha : a ≤ 64) :
    Does Tryd.prog G0 false 26 [v, .agg [.int .i64 (s : Int), .int .i64 (a : Int)]] (.tup [.int .i64 ((s * 512 + a * bN (sat l s).1 : Nat) : Int), .int .i64 (bN (sat l s).1 : Int)]) := by
  refine Does.intro mixed comp26 ?_
  unfold c26
  have h0 : (0 : Int) ≤ (s : Int) := by omega
  have h1 : (s : Int).toNat < l.length := by simpa using hs
  simp -implicitDefEqProofs (disch := omega) only [iaK_sg hv h0 h1, mwx, ne_eq, false_implies, implies_true, forall_eq_or_imp, MW.get, ev, evs, argFr, resK, packV, slHK, partsV, partsS, setR, Int.cast_ofNat_Int, Int.natCast_zero, Int.natCast_one, Nat.reduceLeDiff, reduceIte, Nat.reduceEqDiff, Nat.reduceBEq, reduceCtorEq, Nat.reduceAdd, Nat.reduceMul, Nat.reduceSub, Nat.reduceLT, Int.reduceToNat, Int.reduceLT, Int.reduceLE, Int.reduceEq, Int.reduceAdd, Int.reduceNeg, Int.reduceMul, Int.reduceSub]
  refine Does.call (bytes_fn _) (fr1 (.int _ _)) ?_
  have hb := bN_le (sat l s).1
  have hm : a * bN (sat l s).1 ≤ 64 * 64 := Nat.mul_le_mul ha hb
  have e1 : IntKind.i64.wrap ((a : Int) * (bN (sat l s).1 : Int)) = ((a * bN (sat l s).1 : Nat) : Int) := by
    rw [← Int.natCast_mul]; exact wrap64 (by omega) (by omega)
  have e2 : IntKind.i64.wrap ((s : Int) * 512) = ((s * 512 : Nat) : Int) := wrap64 (n := ((s * 512 : Nat) : Int)) (by omega) (by omega)
  simp -implicitDefEqProofs (disch := omega) only [bN_byts, e1, e2, mwx, ne_eq, false_implies, implies_true, forall_eq_or_imp, MW.get, ev, evs, argFr, resK, packV, slHK, partsV, partsS, setR, Int.cast_ofNat_Int, Int.natCast_zero, Int.natCast_one, Nat.reduceLeDiff, reduceIte, Nat.reduceEqDiff, Nat.reduceBEq, reduceCtorEq, Nat.reduceAdd, Nat.reduceMul, Nat.reduceSub, Nat.reduceLT, Int.reduceToNat, Int.reduceLT, Int.reduceLE, Int.reduceEq, Int.reduceAdd, Int.reduceNeg, Int.reduceMul, Int.reduceSub]
  refine frz_tup2 (frz_int ?_) (frz_int rfl)
  omega

/-- Each slot that is taken, one by one. -/
theorem taken_sim {v : V} {l : List Sg} (hv : IsE segE v l) (hl : SegOK l) (hn : l.length ≤ 200) {g : Nat} (hb : (Tryd.prog.funcs[g]?).any (fun fn => fn.body.isSome && fn.name != "runtime.NumGoroutine") = true) {cap : List V} {H : List Blk}
    (St : Nat → Nat → List Blk → Prop) (h0 : St 0 0 H)
    (hstep : ∀ i a H, i < l.length → a < slN (sat l i).1 → (sat l i).2.testBit a = true → St i a H → SimX Tryd.prog G0 g ([.agg [.int .i64 (i : Int), .int .i64 (a : Int)]] ++ cap) H fun _ H' => St i (a + 1) H')
    (hskip : ∀ i a H, i < l.length → a < slN (sat l i).1 → (sat l i).2.testBit a = false → St i a H → St i (a + 1) H)
    (hrow : ∀ i H, i < l.length → St i (slN (sat l i).1) H → St (i + 1) 0 H) :
    SimX Tryd.prog G0 27 [v, .fn (.func g) [] cap] H fun _ H' => St l.length 0 H' := by
  refine SimX.intro mixed comp27 ?_
  unfold c27
  simp -implicitDefEqProofs (disch := omega) only [lenK_isE hv, mwx, ne_eq, false_implies, implies_true, forall_eq_or_imp, MW.get, ev, evs, argFr, resK, packV, slHK, partsV, partsS, setR, Int.cast_ofNat_Int, Int.natCast_zero, Int.natCast_one, Nat.reduceLeDiff, reduceIte, Nat.reduceEqDiff, Nat.reduceBEq, reduceCtorEq, Nat.reduceAdd, Nat.reduceMul, Nat.reduceSub, Nat.reduceLT, Int.reduceToNat, Int.reduceLT, Int.reduceLE, Int.reduceEq, Int.reduceAdd, Int.reduceNeg, Int.reduceMul, Int.reduceSub]
  refine xl_loop (fun k st => ∃ i : Nat, k + i = l.length ∧ get st.fr 0 = v ∧ get st.fr 1 = .fn (.func g) [] cap ∧ get st.fr 7 = .int .i64 l.length ∧ get st.fr 8 = .int .i64 i ∧ St i 0 st.H) l.length ⟨0, by omega, rfl, rfl, rfl, rfl, h0⟩ ?_
  clear h0
  rintro J hJ k fr H ⟨i, k1, h0, h1, h7, h8, hst⟩
  simp -implicitDefEqProofs (disch := omega) only [h7, h8, mwx, ne_eq, false_implies, implies_true, forall_eq_or_imp, MW.get, ev, evs, argFr, resK, packV, slHK, partsV, partsS, setR, Int.cast_ofNat_Int, Int.natCast_zero, Int.natCast_one, Nat.reduceLeDiff, reduceIte, Nat.reduceEqDiff, Nat.reduceBEq, reduceCtorEq, Nat.reduceAdd, Nat.reduceMul, Nat.reduceSub, Nat.reduceLT, Int.reduceToNat, Int.reduceLT, Int.reduceLE, Int.reduceEq, Int.reduceAdd, Int.reduceNeg, Int.reduceMul, Int.reduceSub]
  refine xc_dec (fun h9 => ?_) fun h9 => ?_
  · have hi : i < l.length := by omega
    have hi0 : (0 : Int) ≤ (i : Int) := by omega
    have hi1 : (i : Int).toNat < l.length := by simpa using hi
    have hw : IntKind.i64.wrap ((i : Int) + 1) = ((i + 1 : Nat) : Int) := wrap64 (n := ((i + 1 : Nat) : Int)) (by omega) (by omega)
    simp -implicitDefEqProofs (disch := omega) only [h0, h8, iaK_sg hv hi0 hi1, mwx, ne_eq, false_implies, implies_true, forall_eq_or_imp, MW.get, ev, evs, argFr, resK, packV, slHK, partsV, partsS, setR, Int.cast_ofNat_Int, Int.natCast_zero, Int.natCast_one, Nat.reduceLeDiff, reduceIte, Nat.reduceEqDiff, Nat.reduceBEq, reduceCtorEq, Nat.reduceAdd, Nat.reduceMul, Nat.reduceSub, Nat.reduceLT, Int.reduceToNat, Int.reduceLT, Int.reduceLE, Int.reduceEq, Int.reduceAdd, Int.reduceNeg, Int.reduceMul, Int.reduceSub]
    refine Does.call (slots_fn _) (fr1 (.int _ _)) ?_
    have hsl := slN_le (sat l i).1
    simp -implicitDefEqProofs (disch := omega) only [slts_slN, mwx, ne_eq, false_implies, implies_true, forall_eq_or_imp, MW.get, ev, evs, argFr, resK, packV, slHK, partsV, partsS, setR, Int.cast_ofNat_Int, Int.natCast_zero, Int.natCast_one, Nat.reduceLeDiff, reduceIte, Nat.reduceEqDiff, Nat.reduceBEq, reduceCtorEq, Nat.reduceAdd, Nat.reduceMul, Nat.reduceSub, Nat.reduceLT, Int.reduceToNat, Int.reduceLT, Int.reduceLE, Int.reduceEq, Int.reduceAdd, Int.reduceNeg, Int.reduceMul, Int.reduceSub]
    refine xl_loop (fun k' st => ∃ a : Nat, k' + a = slN (sat l i).1 ∧ get st.fr 0 = v ∧ get st.fr 1 = .fn (.func g) [] cap ∧ get st.fr 7 = .int .i64 l.length ∧ get st.fr 8 = .int .i64 i ∧ get st.fr 4 = .int .i64 i ∧ get st.fr 16 = .int .i64 (slN (sat l i).1 : Int) ∧ get st.fr 17 = .int .i64 a ∧ St i a st.H) (slN (sat l i).1)
      ⟨0, by omega, h0, h1, h7, h8, rfl, rfl, rfl, hst⟩ ?_
    clear h0 h1 h7 h8 h9 hst
    rintro J2 hJ2 k' fr H ⟨a, k2, h0, h1, h7, h8, h4, h16, h17, hst⟩
    simp -implicitDefEqProofs (disch := omega) only [h16, h17, mwx, ne_eq, false_implies, implies_true, forall_eq_or_imp, MW.get, ev, evs, argFr, resK, packV, slHK, partsV, partsS, setR, Int.cast_ofNat_Int, Int.natCast_zero, Int.natCast_one, Nat.reduceLeDiff, reduceIte, Nat.reduceEqDiff, Nat.reduceBEq, reduceCtorEq, Nat.reduceAdd, Nat.reduceMul, Nat.reduceSub, Nat.reduceLT, Int.reduceToNat, Int.reduceLT, Int.reduceLE, Int.reduceEq, Int.reduceAdd, Int.reduceNeg, Int.reduceMul, Int.reduceSub]
    refine xc_dec (fun h9 => ?_) fun h9 => ?_
    · have ha : a < slN (sat l i).1 := by omega
      have hu := hl.at hi
      have hk : bitOp .and .u64 (((l.getD i (0, 0)).2 / 2 ^ Nat.min a 64 : Nat) : Int) 1 = (((l.getD i (0, 0)).2 / 2 ^ Nat.min a 64 &&& 1 : Nat) : Int) :=
        band64 (b := 1) (Nat.lt_of_le_of_lt (Nat.div_le_self _ _) hu) (by decide)
      have hw2 : IntKind.i64.wrap ((a : Int) + 1) = ((a + 1 : Nat) : Int) := wrap64 (n := ((a + 1 : Nat) : Int)) (by omega) (by omega)
      simp -implicitDefEqProofs (disch := omega) only [h0, h4, h17, iaK_sg hv hi0 hi1, shr64, hk, mwx, ne_eq, false_implies, implies_true, forall_eq_or_imp, MW.get, ev, evs, argFr, resK, packV, slHK, partsV, partsS, setR, Int.cast_ofNat_Int, Int.natCast_zero, Int.natCast_one, Nat.reduceLeDiff, reduceIte, Nat.reduceEqDiff, Nat.reduceBEq, reduceCtorEq, Nat.reduceAdd, Nat.reduceMul, Nat.reduceSub, Nat.reduceLT, Int.reduceToNat, Int.reduceLT, Int.reduceLE, Int.reduceEq, Int.reduceAdd, Int.reduceNeg, Int.reduceMul, Int.reduceSub]
      rw [bit_at hu]
      refine xc_any (fun hbit => ?_) fun hbit => ?_
      · simp -implicitDefEqProofs (disch := omega) only [h1, h4, h17, callvK_of hb, mwx, ne_eq, false_implies, implies_true, forall_eq_or_imp, MW.get, ev, evs, argFr, resK, packV, slHK, partsV, partsS, setR, Int.cast_ofNat_Int, Int.natCast_zero, Int.natCast_one, Nat.reduceLeDiff, reduceIte, Nat.reduceEqDiff, Nat.reduceBEq, reduceCtorEq, Nat.reduceAdd, Nat.reduceMul, Nat.reduceSub, Nat.reduceLT, Int.reduceToNat, Int.reduceLT, Int.reduceLE, Int.reduceEq, Int.reduceAdd, Int.reduceNeg, Int.reduceMul, Int.reduceSub]
        refine (hstep i a H hi ha hbit hst).call fun r H' hst' => ?_
        simp -implicitDefEqProofs (disch := omega) only [h17, hw2, mwx, ne_eq, false_implies, implies_true, forall_eq_or_imp, MW.get, ev, evs, argFr, resK, packV, slHK, partsV, partsS, setR, Int.cast_ofNat_Int, Int.natCast_zero, Int.natCast_one, Nat.reduceLeDiff, reduceIte, Nat.reduceEqDiff, Nat.reduceBEq, reduceCtorEq, Nat.reduceAdd, Nat.reduceMul, Nat.reduceSub, Nat.reduceLT, Int.reduceToNat, Int.reduceLT, Int.reduceLE, Int.reduceEq, Int.reduceAdd, Int.reduceNeg, Int.reduceMul, Int.reduceSub]
        exact ⟨k' - 1, by omega, hJ2 _ _ ⟨a + 1, by omega, h0, h1, h7, h8, h4, h16, rfl, hst'⟩⟩
      · simp -implicitDefEqProofs (disch := omega) only [h17, hw2, mwx, ne_eq, false_implies, implies_true, forall_eq_or_imp, MW.get, ev, evs, argFr, resK, packV, slHK, partsV, partsS, setR, Int.cast_ofNat_Int, Int.natCast_zero, Int.natCast_one, Nat.reduceLeDiff, reduceIte, Nat.reduceEqDiff, Nat.reduceBEq, reduceCtorEq, Nat.reduceAdd, Nat.reduceMul, Nat.reduceSub, Nat.reduceLT, Int.reduceToNat, Int.reduceLT, Int.reduceLE, Int.reduceEq, Int.reduceAdd, Int.reduceNeg, Int.reduceMul, Int.reduceSub]
        exact ⟨k' - 1, by omega, hJ2 _ _ ⟨a + 1, by omega, h0, h1, h7, h8, h4, h16, rfl, hskip i a H hi ha hbit hst⟩⟩
    · simp -implicitDefEqProofs (disch := omega) only [h8, hw, mwx, ne_eq, false_implies, implies_true, forall_eq_or_imp, MW.get, ev, evs, argFr, resK, packV, slHK, partsV, partsS, setR, Int.cast_ofNat_Int, Int.natCast_zero, Int.natCast_one, Nat.reduceLeDiff, reduceIte, Nat.reduceEqDiff, Nat.reduceBEq, reduceCtorEq, Nat.reduceAdd, Nat.reduceMul, Nat.reduceSub, Nat.reduceLT, Int.reduceToNat, Int.reduceLT, Int.reduceLE, Int.reduceEq, Int.reduceAdd, Int.reduceNeg, Int.reduceMul, Int.reduceSub]
      obtain rfl : a = slN (sat l i).1 := by omega
      exact ⟨k - 1, by omega, hJ _ _ ⟨i + 1, by omega, h0, h1, h7, rfl, hrow i H hi hst⟩⟩
  · obtain rfl : i = l.length := by omega
    simp -implicitDefEqProofs (disch := omega) only [mwx, ne_eq, false_implies, implies_true, forall_eq_or_imp, MW.get, ev, evs, argFr, resK, packV, slHK, partsV, partsS, setR, Int.cast_ofNat_Int, Int.natCast_zero, Int.natCast_one, Nat.reduceLeDiff, reduceIte, Nat.reduceEqDiff, Nat.reduceBEq, reduceCtorEq, Nat.reduceAdd, Nat.reduceMul, Nat.reduceSub, Nat.reduceLT, Int.reduceToNat, Int.reduceLT, Int.reduceLE, Int.reduceEq, Int.reduceAdd, Int.reduceNeg, Int.reduceMul, Int.reduceSub]
    exact hst

end Go.Proofs.YtlcbogafgdofgaaDoor

