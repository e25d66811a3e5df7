/- Arena (chapter 11): how many bytes are taken and held; one slot; new segments. -/
import Derived.Test.YtphbhoggcddgmaaDoorMwFAr
namespace Go.Proofs.YtphbhoggcddgmaaDoor
open Go Go.MW
set_option linter.unusedSimpArgs false
set_option linter.unusedVariables false

def sgTaken (p : Sg) : Int := (pc 64 p.2 : Int) * byts p.1
def sgHeld (p : Sg) : Int := if p.1 = -1 then 0 else 512
theorem byts_le (c : Int) : 0 ≤ byts c ∧ byts c ≤ 64 := by
  rcases byts_cases c with ⟨h, _⟩ | ⟨h, _⟩ | ⟨h, _⟩ | ⟨h, _⟩ | h <;> omega
theorem sgTaken_le (p : Sg) : 0 ≤ sgTaken p ∧ sgTaken p ≤ 4096 := by
  have h1 := pc_le 64 p.2
  have h2 := byts_le p.1
  unfold sgTaken
  have h3 : (pc 64 p.2 : Int) * byts p.1 ≤ 64 * 64 := Int.mul_le_mul (by omega) h2.2 h2.1 (by omega)
  have h4 : 0 ≤ (pc 64 p.2 : Int) * byts p.1 := Int.mul_nonneg (by omega) h2.1
  omega
theorem sgHeld_le (p : Sg) : 0 ≤ sgHeld p ∧ sgHeld p ≤ 4096 := by unfold sgHeld; split <;> omega

theorem taken1_fn (p : Sg) (hp : p.2 < 2 ^ 64) : Does Tryd.prog G0 false 26 [.agg [.int .i64 p.1, .int .u64 p.2]] (.int .i64 (sgTaken p)) := by
  refine Does.intro mixed comp26 ?_
  unfold c26
  simp -implicitDefEqProofs (disch := omega) only [mwx, ne_eq, false_implies, implies_true, forall_eq_or_imp, MW.get, ev, evs, argFr, resK, packV, slHK, partsV, partsS, setR, Int.cast_ofNat_Int, Int.natCast_zero, Int.natCast_one, Nat.reduceLeDiff, reduceIte, Nat.reduceEqDiff, Nat.reduceBEq, reduceCtorEq, Nat.reduceAdd, Nat.reduceMul, Nat.reduceSub, Nat.reduceLT, Int.reduceToNat, Int.reduceLT, Int.reduceLE, Int.reduceEq, Int.reduceAdd, Int.reduceNeg, Int.reduceMul, Int.reduceSub]
  refine Does.call (ones_fn p.2 hp) (fr1 (.int _ _)) ?_
  simp -implicitDefEqProofs (disch := omega) only [mwx, ne_eq, false_implies, implies_true, forall_eq_or_imp, MW.get, ev, evs, argFr, resK, packV, slHK, partsV, partsS, setR, Int.cast_ofNat_Int, Int.natCast_zero, Int.natCast_one, Nat.reduceLeDiff, reduceIte, Nat.reduceEqDiff, Nat.reduceBEq, reduceCtorEq, Nat.reduceAdd, Nat.reduceMul, Nat.reduceSub, Nat.reduceLT, Int.reduceToNat, Int.reduceLT, Int.reduceLE, Int.reduceEq, Int.reduceAdd, Int.reduceNeg, Int.reduceMul, Int.reduceSub]
  refine Does.call (bytes_fn p.1) (fr1 (.int _ _)) ?_
  have h1 := sgTaken_le p
  have h2 : IntKind.i64.wrap ((pc 64 p.2 : Int) * byts p.1) = sgTaken p := wrap64 (n := sgTaken p) (by omega) (by omega)
  simp -implicitDefEqProofs (disch := omega) only [h2, mwx, ne_eq, false_implies, implies_true, forall_eq_or_imp, MW.get, ev, evs, argFr, resK, packV, slHK, partsV, partsS, setR, Int.cast_ofNat_Int, Int.natCast_zero, Int.natCast_one, Nat.reduceLeDiff, reduceIte, Nat.reduceEqDiff, Nat.reduceBEq, reduceCtorEq, Nat.reduceAdd, Nat.reduceMul, Nat.reduceSub, Nat.reduceLT, Int.reduceToNat, Int.reduceLT, Int.reduceLE, Int.reduceEq, Int.reduceAdd, Int.reduceNeg, Int.reduceMul, Int.reduceSub]
  exact frz_int rfl

theorem held1_fn (p : Sg) : Does Tryd.prog G0 false 29 [.agg [.int .i64 p.1, .int .u64 p.2]] (.int .i64 (sgHeld p)) := by
  refine Does.intro mixed comp29 ?_
  unfold c29
  simp -implicitDefEqProofs (disch := omega) only [mwx, ne_eq, false_implies, implies_true, forall_eq_or_imp, MW.get, ev, evs, argFr, resK, packV, slHK, partsV, partsS, setR, Int.cast_ofNat_Int, Int.natCast_zero, Int.natCast_one, Nat.reduceLeDiff, reduceIte, Nat.reduceEqDiff, Nat.reduceBEq, reduceCtorEq, Nat.reduceAdd, Nat.reduceMul, Nat.reduceSub, Nat.reduceLT, Int.reduceToNat, Int.reduceLT, Int.reduceLE, Int.reduceEq, Int.reduceAdd, Int.reduceNeg, Int.reduceMul, Int.reduceSub]
  refine xc_dec (fun h => ?_) fun h => ?_
  · simp -implicitDefEqProofs (disch := omega) only [mwx, ne_eq, false_implies, implies_true, forall_eq_or_imp, MW.get, ev, evs, argFr, resK, packV, slHK, partsV, partsS, setR, Int.cast_ofNat_Int, Int.natCast_zero, Int.natCast_one, Nat.reduceLeDiff, reduceIte, Nat.reduceEqDiff, Nat.reduceBEq, reduceCtorEq, Nat.reduceAdd, Nat.reduceMul, Nat.reduceSub, Nat.reduceLT, Int.reduceToNat, Int.reduceLT, Int.reduceLE, Int.reduceEq, Int.reduceAdd, Int.reduceNeg, Int.reduceMul, Int.reduceSub]
    exact frz_int (by simp [sgHeld, h])
  · simp -implicitDefEqProofs (disch := omega) only [mwx, ne_eq, false_implies, implies_true, forall_eq_or_imp, MW.get, ev, evs, argFr, resK, packV, slHK, partsV, partsS, setR, Int.cast_ofNat_Int, Int.natCast_zero, Int.natCast_one, Nat.reduceLeDiff, reduceIte, Nat.reduceEqDiff, Nat.reduceBEq, reduceCtorEq, Nat.reduceAdd, Nat.reduceMul, Nat.reduceSub, Nat.reduceLT, Int.reduceToNat, Int.reduceLT, Int.reduceLE, Int.reduceEq, Int.reduceAdd, Int.reduceNeg, Int.reduceMul, Int.reduceSub]
    exact frz_int (by simp [sgHeld, h])

def isum (l : List Int) : Int := l.foldr (· + ·) 0
theorem isum_cons (a : Int) (l : List Int) : isum (a :: l) = a + isum l := rfl
theorem isum_nil : isum [] = 0 := rfl
theorem isum_append (l m : List Int) : isum (l ++ m) = isum l + isum m := by
  induction l with
  | nil => simp [isum]
  | cons a l ih => rw [List.cons_append, isum_cons, isum_cons, ih]; omega
theorem take_succ_at {α : Type} {l : List α} {i : Nat} {d : α} (h : i < l.length) : l.take (i + 1) = l.take i ++ [l.getD i d] := by
  rw [List.take_add_one, List.getElem?_eq_getElem h, List.getD_eq_getElem?_getD, List.getElem?_eq_getElem h]
  rfl
theorem isum_le {α : Type} {h : α → Int} {b : Int} (hb : ∀ p, 0 ≤ h p ∧ h p ≤ b) : ∀ l : List α, 0 ≤ isum (l.map h) ∧ isum (l.map h) ≤ b * l.length
  | [] => by simp [isum]
  | a :: l => by
    have ih := isum_le hb l
    have := hb a
    rw [List.map_cons, isum_cons, List.length_cons, Int.natCast_succ, Int.mul_add]
    omega

/-- A sum over segments that may be. -/
def cnt (h : Sg → Int) (l : List Sg) : Int := if chk l then isum (l.map h) else 0
theorem chk_len {l : List Sg} (h : chk l = true) : l.length ≤ 200 := by
  simp only [chk, Bool.and_eq_true, decide_eq_true_eq] at h
  exact h.1

theorem count_fn {v : V} {l : List Sg} {g : Nat} {h : Sg → Int} (hv : IsE segE v l) (hl : SegOK l) (hg : (Tryd.prog.funcs[g]?).any (fun fn => fn.body.isSome && fn.name != "runtime.NumGoroutine") = true)
    (hd : ∀ p : Sg, p.2 < 2 ^ 64 → Does Tryd.prog G0 false g [.agg [.int .i64 p.1, .int .u64 p.2]] (.int .i64 (h p))) (hb : ∀ p, 0 ≤ h p ∧ h p ≤ 4096) :
    Does Tryd.prog G0 false 25 [v, .fn (.func g) [] []] (.int .i64 (cnt h l)) := by
  refine Does.intro mixed comp25 ?_
  unfold c25
  simp -implicitDefEqProofs (disch := omega) only [mwx, ne_eq, false_implies, implies_true, forall_eq_or_imp, MW.get, ev, evs, argFr, resK, packV, slHK, partsV, partsS, setR, Int.cast_ofNat_Int, Int.natCast_zero, Int.natCast_one, Nat.reduceLeDiff, reduceIte, Nat.reduceEqDiff, Nat.reduceBEq, reduceCtorEq, Nat.reduceAdd, Nat.reduceMul, Nat.reduceSub, Nat.reduceLT, Int.reduceToNat, Int.reduceLT, Int.reduceLE, Int.reduceEq, Int.reduceAdd, Int.reduceNeg, Int.reduceMul, Int.reduceSub]
  refine Does.call (chk_fn hv hl) (fr1 hv.free) ?_
  simp -implicitDefEqProofs (disch := omega) only [mwx, ne_eq, false_implies, implies_true, forall_eq_or_imp, MW.get, ev, evs, argFr, resK, packV, slHK, partsV, partsS, setR, Int.cast_ofNat_Int, Int.natCast_zero, Int.natCast_one, Nat.reduceLeDiff, reduceIte, Nat.reduceEqDiff, Nat.reduceBEq, reduceCtorEq, Nat.reduceAdd, Nat.reduceMul, Nat.reduceSub, Nat.reduceLT, Int.reduceToNat, Int.reduceLT, Int.reduceLE, Int.reduceEq, Int.reduceAdd, Int.reduceNeg, Int.reduceMul, Int.reduceSub]
  refine xc_any (fun hc => ?_) fun hc => ?_
  · have hn := chk_len hc
    simp -implicitDefEqProofs (disch := omega) only [lenK_isE hv, mwx, ne_eq, false_implies, implies_true, forall_eq_or_imp, MW.get, ev, evs, argFr, resK, packV, slHK, partsV, partsS, setR, Int.cast_ofNat_Int, Int.natCast_zero, Int.natCast_one, Nat.reduceLeDiff, reduceIte, Nat.reduceEqDiff, Nat.reduceBEq, reduceCtorEq, Nat.reduceAdd, Nat.reduceMul, Nat.reduceSub, Nat.reduceLT, Int.reduceToNat, Int.reduceLT, Int.reduceLE, Int.reduceEq, Int.reduceAdd, Int.reduceNeg, Int.reduceMul, Int.reduceSub]
    refine xl_loop (fun k st => ∃ i : Nat, k + i = l.length ∧ get st.fr 1 = .fn (.func g) [] [] ∧ get st.fr 4 = .int .i64 (isum ((l.take i).map h)) ∧ get st.fr 10 = v ∧ get st.fr 11 = .int .i64 l.length ∧ get st.fr 12 = .int .i64 i) l.length ⟨0, by omega, rfl, rfl, rfl, rfl, rfl⟩ ?_
    rintro J hJ k fr H ⟨i, h1, h2, h3, h4, h5, h6⟩
    simp -implicitDefEqProofs (disch := omega) only [h2, h3, h4, h5, h6, mwx, ne_eq, false_implies, implies_true, forall_eq_or_imp, MW.get, ev, evs, argFr, resK, packV, slHK, partsV, partsS, setR, Int.cast_ofNat_Int, Int.natCast_zero, Int.natCast_one, Nat.reduceLeDiff, reduceIte, Nat.reduceEqDiff, Nat.reduceBEq, reduceCtorEq, Nat.reduceAdd, Nat.reduceMul, Nat.reduceSub, Nat.reduceLT, Int.reduceToNat, Int.reduceLT, Int.reduceLE, Int.reduceEq, Int.reduceAdd, Int.reduceNeg, Int.reduceMul, Int.reduceSub]
    refine xc_dec (fun h7 => ?_) fun h7 => ?_
    · have hi : i < l.length := by omega
      have hi0 : (0 : Int) ≤ (i : Int) := by omega
      have hi1 : (i : Int).toNat < l.length := by simpa using hi
      simp -implicitDefEqProofs (disch := omega) only [h2, h3, h4, h5, h6, iaK_sg hv hi0 hi1, callvK_of hg, mwx, ne_eq, false_implies, implies_true, forall_eq_or_imp, MW.get, ev, evs, argFr, resK, packV, slHK, partsV, partsS, setR, Int.cast_ofNat_Int, Int.natCast_zero, Int.natCast_one, Nat.reduceLeDiff, reduceIte, Nat.reduceEqDiff, Nat.reduceBEq, reduceCtorEq, Nat.reduceAdd, Nat.reduceMul, Nat.reduceSub, Nat.reduceLT, Int.reduceToNat, Int.reduceLT, Int.reduceLE, Int.reduceEq, Int.reduceAdd, Int.reduceNeg, Int.reduceMul, Int.reduceSub]
      refine Does.call (hd (l.getD i (0, 0)) (hl.at hi)) (fr1 (seg_free _ _)) ?_
      have b1 := isum_le hb (l.take i)
      have b2 := hb (l.getD i (0, 0))
      have b3 : (l.take i).length = i := by simp; omega
      rw [b3] at b1
      have e1 : isum ((l.take (i + 1)).map h) = isum ((l.take i).map h) + h (l.getD i (0, 0)) := by
        rw [take_succ_at hi (d := (0, 0)), List.map_append, isum_append]
        simp [isum]
      simp -implicitDefEqProofs (disch := omega) only [h2, h3, h4, h5, h6, mwx, ne_eq, false_implies, implies_true, forall_eq_or_imp, MW.get, ev, evs, argFr, resK, packV, slHK, partsV, partsS, setR, Int.cast_ofNat_Int, Int.natCast_zero, Int.natCast_one, Nat.reduceLeDiff, reduceIte, Nat.reduceEqDiff, Nat.reduceBEq, reduceCtorEq, Nat.reduceAdd, Nat.reduceMul, Nat.reduceSub, Nat.reduceLT, Int.reduceToNat, Int.reduceLT, Int.reduceLE, Int.reduceEq, Int.reduceAdd, Int.reduceNeg, Int.reduceMul, Int.reduceSub]
      exact ⟨k - 1, by omega, hJ _ _ ⟨i + 1, by omega, h2, by rw [e1]; rfl, h4, h5, rfl⟩⟩
    · simp -implicitDefEqProofs (disch := omega) only [h3, mwx, ne_eq, false_implies, implies_true, forall_eq_or_imp, MW.get, ev, evs, argFr, resK, packV, slHK, partsV, partsS, setR, Int.cast_ofNat_Int, Int.natCast_zero, Int.natCast_one, Nat.reduceLeDiff, reduceIte, Nat.reduceEqDiff, Nat.reduceBEq, reduceCtorEq, Nat.reduceAdd, Nat.reduceMul, Nat.reduceSub, Nat.reduceLT, Int.reduceToNat, Int.reduceLT, Int.reduceLE, Int.reduceEq, Int.reduceAdd, Int.reduceNeg, Int.reduceMul, Int.reduceSub]
      refine frz_int ?_
      have : l.take i = l := List.take_of_length_le (by omega)
      rw [this]
      simp [cnt, hc]
  · simp -implicitDefEqProofs (disch := omega) only [mwx, ne_eq, false_implies, implies_true, forall_eq_or_imp, MW.get, ev, evs, argFr, resK, packV, slHK, partsV, partsS, setR, Int.cast_ofNat_Int, Int.natCast_zero, Int.natCast_one, Nat.reduceLeDiff, reduceIte, Nat.reduceEqDiff, Nat.reduceBEq, reduceCtorEq, Nat.reduceAdd, Nat.reduceMul, Nat.reduceSub, Nat.reduceLT, Int.reduceToNat, Int.reduceLT, Int.reduceLE, Int.reduceEq, Int.reduceAdd, Int.reduceNeg, Int.reduceMul, Int.reduceSub]
    exact frz_int (by simp [cnt, hc])

theorem taken_fn {v : V} {l : List Sg} (hv : IsE segE v l) (hl : SegOK l) : Does Tryd.prog G0 false 14 [v] (.int .i64 (cnt sgTaken l)) := by
  refine Does.intro mixed comp14 ?_
  unfold c14
  simp -implicitDefEqProofs (disch := omega) only [mwx, ne_eq, false_implies, implies_true, forall_eq_or_imp, MW.get, ev, evs, argFr, resK, packV, slHK, partsV, partsS, setR, Int.cast_ofNat_Int, Int.natCast_zero, Int.natCast_one, Nat.reduceLeDiff, reduceIte, Nat.reduceEqDiff, Nat.reduceBEq, reduceCtorEq, Nat.reduceAdd, Nat.reduceMul, Nat.reduceSub, Nat.reduceLT, Int.reduceToNat, Int.reduceLT, Int.reduceLE, Int.reduceEq, Int.reduceAdd, Int.reduceNeg, Int.reduceMul, Int.reduceSub]
  refine Does.call (count_fn hv hl bodied26 taken1_fn sgTaken_le) (fr2 hv.free (.fn _ (by simp) (by simp))) ?_
  simp -implicitDefEqProofs (disch := omega) only [mwx, ne_eq, false_implies, implies_true, forall_eq_or_imp, MW.get, ev, evs, argFr, resK, packV, slHK, partsV, partsS, setR, Int.cast_ofNat_Int, Int.natCast_zero, Int.natCast_one, Nat.reduceLeDiff, reduceIte, Nat.reduceEqDiff, Nat.reduceBEq, reduceCtorEq, Nat.reduceAdd, Nat.reduceMul, Nat.reduceSub, Nat.reduceLT, Int.reduceToNat, Int.reduceLT, Int.reduceLE, Int.reduceEq, Int.reduceAdd, Int.reduceNeg, Int.reduceMul, Int.reduceSub]
  exact frz_int rfl
theorem held_fn {v : V} {l : List Sg} (hv : IsE segE v l) (hl : SegOK l) : Does Tryd.prog G0 false 17 [v] (.int .i64 (cnt sgHeld l)) := by
  refine Does.intro mixed comp17 ?_
  unfold c17
  simp -implicitDefEqProofs (disch := omega) only [mwx, ne_eq, false_implies, implies_true, forall_eq_or_imp, MW.get, ev, evs, argFr, resK, packV, slHK, partsV, partsS, setR, Int.cast_ofNat_Int, Int.natCast_zero, Int.natCast_one, Nat.reduceLeDiff, reduceIte, Nat.reduceEqDiff, Nat.reduceBEq, reduceCtorEq, Nat.reduceAdd, Nat.reduceMul, Nat.reduceSub, Nat.reduceLT, Int.reduceToNat, Int.reduceLT, Int.reduceLE, Int.reduceEq, Int.reduceAdd, Int.reduceNeg, Int.reduceMul, Int.reduceSub]
  refine Does.call (count_fn hv hl bodied29 (fun p _ => held1_fn p) sgHeld_le) (fr2 hv.free (.fn _ (by simp) (by simp))) ?_
  simp -implicitDefEqProofs (disch := omega) only [mwx, ne_eq, false_implies, implies_true, forall_eq_or_imp, MW.get, ev, evs, argFr, resK, packV, slHK, partsV, partsS, setR, Int.cast_ofNat_Int, Int.natCast_zero, Int.natCast_one, Nat.reduceLeDiff, reduceIte, Nat.reduceEqDiff, Nat.reduceBEq, reduceCtorEq, Nat.reduceAdd, Nat.reduceMul, Nat.reduceSub, Nat.reduceLT, Int.reduceToNat, Int.reduceLT, Int.reduceLE, Int.reduceEq, Int.reduceAdd, Int.reduceNeg, Int.reduceMul, Int.reduceSub]
  exact frz_int rfl

/-- Is a slot taken? -/
def has (l : List Sg) (s a : Int) : Bool := chk l && (decide (0 ≤ s) && (decide (s < l.length) && (decide (0 ≤ a) && (l.getD s.toNat (0, 0)).2.testBit a.toNat)))
theorem has_fn {v : V} {l : List Sg} (hv : IsE segE v l) (hl : SegOK l) (s a : Int) : Does Tryd.prog G0 false 13 [v, .agg [.int .i64 s, .int .i64 a]] (.bool (has l s a)) := by
  refine Does.intro mixed comp13 ?_
  unfold c13
  simp -implicitDefEqProofs (disch := omega) only [mwx, ne_eq, false_implies, implies_true, forall_eq_or_imp, MW.get, ev, evs, argFr, resK, packV, slHK, partsV, partsS, setR, Int.cast_ofNat_Int, Int.natCast_zero, Int.natCast_one, Nat.reduceLeDiff, reduceIte, Nat.reduceEqDiff, Nat.reduceBEq, reduceCtorEq, Nat.reduceAdd, Nat.reduceMul, Nat.reduceSub, Nat.reduceLT, Int.reduceToNat, Int.reduceLT, Int.reduceLE, Int.reduceEq, Int.reduceAdd, Int.reduceNeg, Int.reduceMul, Int.reduceSub]
  refine Does.call (chk_fn hv hl) (fr1 hv.free) ?_
  simp -implicitDefEqProofs (disch := omega) only [mwx, ne_eq, false_implies, implies_true, forall_eq_or_imp, MW.get, ev, evs, argFr, resK, packV, slHK, partsV, partsS, setR, Int.cast_ofNat_Int, Int.natCast_zero, Int.natCast_one, Nat.reduceLeDiff, reduceIte, Nat.reduceEqDiff, Nat.reduceBEq, reduceCtorEq, Nat.reduceAdd, Nat.reduceMul, Nat.reduceSub, Nat.reduceLT, Int.reduceToNat, Int.reduceLT, Int.reduceLE, Int.reduceEq, Int.reduceAdd, Int.reduceNeg, Int.reduceMul, Int.reduceSub]
  refine xg_any (fun hc => ?_) fun hc => ?_
  · simp -implicitDefEqProofs (disch := omega) only [hc, mwx, ne_eq, false_implies, implies_true, forall_eq_or_imp, MW.get, ev, evs, argFr, resK, packV, slHK, partsV, partsS, setR, Int.cast_ofNat_Int, Int.natCast_zero, Int.natCast_one, Nat.reduceLeDiff, reduceIte, Nat.reduceEqDiff, Nat.reduceBEq, reduceCtorEq, Nat.reduceAdd, Nat.reduceMul, Nat.reduceSub, Nat.reduceLT, Int.reduceToNat, Int.reduceLT, Int.reduceLE, Int.reduceEq, Int.reduceAdd, Int.reduceNeg, Int.reduceMul, Int.reduceSub]
    refine xg_dec (fun h1 => ?_) fun h1 => ?_
    · simp -implicitDefEqProofs (disch := omega) only [h1, lenK_isE hv, mwx, ne_eq, false_implies, implies_true, forall_eq_or_imp, MW.get, ev, evs, argFr, resK, packV, slHK, partsV, partsS, setR, Int.cast_ofNat_Int, Int.natCast_zero, Int.natCast_one, Nat.reduceLeDiff, reduceIte, Nat.reduceEqDiff, Nat.reduceBEq, reduceCtorEq, Nat.reduceAdd, Nat.reduceMul, Nat.reduceSub, Nat.reduceLT, Int.reduceToNat, Int.reduceLT, Int.reduceLE, Int.reduceEq, Int.reduceAdd, Int.reduceNeg, Int.reduceMul, Int.reduceSub]
      refine xg_dec (fun h2 => ?_) fun h2 => ?_
      · simp -implicitDefEqProofs (disch := omega) only [h2, mwx, ne_eq, false_implies, implies_true, forall_eq_or_imp, MW.get, ev, evs, argFr, resK, packV, slHK, partsV, partsS, setR, Int.cast_ofNat_Int, Int.natCast_zero, Int.natCast_one, Nat.reduceLeDiff, reduceIte, Nat.reduceEqDiff, Nat.reduceBEq, reduceCtorEq, Nat.reduceAdd, Nat.reduceMul, Nat.reduceSub, Nat.reduceLT, Int.reduceToNat, Int.reduceLT, Int.reduceLE, Int.reduceEq, Int.reduceAdd, Int.reduceNeg, Int.reduceMul, Int.reduceSub]
        refine xg_dec (fun h3 => ?_) fun h3 => ?_
        · have h4 : s.toNat < l.length := by omega
          obtain ⟨b, rfl⟩ : ∃ b : Nat, a = b := ⟨a.toNat, by omega⟩
          have hu := hl.at h4
          have hk : bitOp .and .u64 (((l.getD s.toNat (0, 0)).2 / 2 ^ Nat.min b 64 : Nat) : Int) 1 = (((l.getD s.toNat (0, 0)).2 / 2 ^ Nat.min b 64 &&& 1 : Nat) : Int) :=
            band64 (b := 1) (Nat.lt_of_le_of_lt (Nat.div_le_self _ _) hu) (by decide)
          simp -implicitDefEqProofs (disch := omega) only [h3, iaK_sg hv h1 h4, shr64, hk, mwx, ne_eq, false_implies, implies_true, forall_eq_or_imp, MW.get, ev, evs, argFr, resK, packV, slHK, partsV, partsS, setR, Int.cast_ofNat_Int, Int.natCast_zero, Int.natCast_one, Nat.reduceLeDiff, reduceIte, Nat.reduceEqDiff, Nat.reduceBEq, reduceCtorEq, Nat.reduceAdd, Nat.reduceMul, Nat.reduceSub, Nat.reduceLT, Int.reduceToNat, Int.reduceLT, Int.reduceLE, Int.reduceEq, Int.reduceAdd, Int.reduceNeg, Int.reduceMul, Int.reduceSub]
          refine frz_bool ?_
          rw [bit_at hu]
          simp [has, hc, h1, h2]
        · simp -implicitDefEqProofs (disch := omega) only [h3, mwx, ne_eq, false_implies, implies_true, forall_eq_or_imp, MW.get, ev, evs, argFr, resK, packV, slHK, partsV, partsS, setR, Int.cast_ofNat_Int, Int.natCast_zero, Int.natCast_one, Nat.reduceLeDiff, reduceIte, Nat.reduceEqDiff, Nat.reduceBEq, reduceCtorEq, Nat.reduceAdd, Nat.reduceMul, Nat.reduceSub, Nat.reduceLT, Int.reduceToNat, Int.reduceLT, Int.reduceLE, Int.reduceEq, Int.reduceAdd, Int.reduceNeg, Int.reduceMul, Int.reduceSub]
          exact frz_bool (by simp [has, h3])
      · simp -implicitDefEqProofs (disch := omega) only [h2, mwx, ne_eq, false_implies, implies_true, forall_eq_or_imp, MW.get, ev, evs, argFr, resK, packV, slHK, partsV, partsS, setR, Int.cast_ofNat_Int, Int.natCast_zero, Int.natCast_one, Nat.reduceLeDiff, reduceIte, Nat.reduceEqDiff, Nat.reduceBEq, reduceCtorEq, Nat.reduceAdd, Nat.reduceMul, Nat.reduceSub, Nat.reduceLT, Int.reduceToNat, Int.reduceLT, Int.reduceLE, Int.reduceEq, Int.reduceAdd, Int.reduceNeg, Int.reduceMul, Int.reduceSub]
        exact frz_bool (by simp [has, h2])
    · simp -implicitDefEqProofs (disch := omega) only [h1, mwx, ne_eq, false_implies, implies_true, forall_eq_or_imp, MW.get, ev, evs, argFr, resK, packV, slHK, partsV, partsS, setR, Int.cast_ofNat_Int, Int.natCast_zero, Int.natCast_one, Nat.reduceLeDiff, reduceIte, Nat.reduceEqDiff, Nat.reduceBEq, reduceCtorEq, Nat.reduceAdd, Nat.reduceMul, Nat.reduceSub, Nat.reduceLT, Int.reduceToNat, Int.reduceLT, Int.reduceLE, Int.reduceEq, Int.reduceAdd, Int.reduceNeg, Int.reduceMul, Int.reduceSub]
      exact frz_bool (by simp [has, h1])
  · simp -implicitDefEqProofs (disch := omega) only [hc, mwx, ne_eq, false_implies, implies_true, forall_eq_or_imp, MW.get, ev, evs, argFr, resK, packV, slHK, partsV, partsS, setR, Int.cast_ofNat_Int, Int.natCast_zero, Int.natCast_one, Nat.reduceLeDiff, reduceIte, Nat.reduceEqDiff, Nat.reduceBEq, reduceCtorEq, Nat.reduceAdd, Nat.reduceMul, Nat.reduceSub, Nat.reduceLT, Int.reduceToNat, Int.reduceLT, Int.reduceLE, Int.reduceEq, Int.reduceAdd, Int.reduceNeg, Int.reduceMul, Int.reduceSub]
    exact frz_bool (by simp only [Bool.not_true] at hc; simp [has, hc])

/-- Are two lists alike? -/
theorem same_ref {v v' : V} {l l' : List Sg} (hv : IsE segE v l) (hv' : IsE segE v' l') (hn : l.length < 2 ^ 62) : Does Tryd.prog G0 false 11 [v, v'] (.bool (decide (l = l'))) := by
  refine Does.intro mixed comp11 ?_
  unfold c11
  simp -implicitDefEqProofs (disch := omega) only [lenK_isE hv, lenK_isE hv', mwx, ne_eq, false_implies, implies_true, forall_eq_or_imp, MW.get, ev, evs, argFr, resK, packV, slHK, partsV, partsS, setR, Int.cast_ofNat_Int, Int.natCast_zero, Int.natCast_one, Nat.reduceLeDiff, reduceIte, Nat.reduceEqDiff, Nat.reduceBEq, reduceCtorEq, Nat.reduceAdd, Nat.reduceMul, Nat.reduceSub, Nat.reduceLT, Int.reduceToNat, Int.reduceLT, Int.reduceLE, Int.reduceEq, Int.reduceAdd, Int.reduceNeg, Int.reduceMul, Int.reduceSub]
  refine xc_dec (fun h => ?_) fun h => ?_
  · have hll : l.length = l'.length := by omega
    simp -implicitDefEqProofs (disch := omega) only [mwx, ne_eq, false_implies, implies_true, forall_eq_or_imp, MW.get, ev, evs, argFr, resK, packV, slHK, partsV, partsS, setR, Int.cast_ofNat_Int, Int.natCast_zero, Int.natCast_one, Nat.reduceLeDiff, reduceIte, Nat.reduceEqDiff, Nat.reduceBEq, reduceCtorEq, Nat.reduceAdd, Nat.reduceMul, Nat.reduceSub, Nat.reduceLT, Int.reduceToNat, Int.reduceLT, Int.reduceLE, Int.reduceEq, Int.reduceAdd, Int.reduceNeg, Int.reduceMul, Int.reduceSub]
    refine xl_loop (fun k st => ∃ i : Nat, k + i = l.length ∧ get st.fr 0 = v ∧ get st.fr 1 = v' ∧ get st.fr 5 = .int .i64 i ∧ l.take i = l'.take i) l.length ⟨0, by omega, rfl, rfl, rfl, by simp⟩ ?_
    rintro J hJ k fr H ⟨i, h1, h2, h3, h4, h5⟩
    simp -implicitDefEqProofs (disch := omega) only [h2, h3, h4, lenK_isE hv, mwx, ne_eq, false_implies, implies_true, forall_eq_or_imp, MW.get, ev, evs, argFr, resK, packV, slHK, partsV, partsS, setR, Int.cast_ofNat_Int, Int.natCast_zero, Int.natCast_one, Nat.reduceLeDiff, reduceIte, Nat.reduceEqDiff, Nat.reduceBEq, reduceCtorEq, Nat.reduceAdd, Nat.reduceMul, Nat.reduceSub, Nat.reduceLT, Int.reduceToNat, Int.reduceLT, Int.reduceLE, Int.reduceEq, Int.reduceAdd, Int.reduceNeg, Int.reduceMul, Int.reduceSub]
    refine xc_dec (fun h6 => ?_) fun h6 => ?_
    · have hi : i < l.length := by omega
      have hi0 : (0 : Int) ≤ (i : Int) := by omega
      have hi1 : (i : Int).toNat < l.length := by simpa using hi
      have hi2 : (i : Int).toNat < l'.length := by omega
      have hi3 : i < l'.length := by omega
      simp -implicitDefEqProofs (disch := omega) only [h2, h3, h4, iaK_sg hv hi0 hi1, iaK_sg hv' hi0 hi2, mwx, ne_eq, false_implies, implies_true, forall_eq_or_imp, MW.get, ev, evs, argFr, resK, packV, slHK, partsV, partsS, setR, Int.cast_ofNat_Int, Int.natCast_zero, Int.natCast_one, Nat.reduceLeDiff, reduceIte, Nat.reduceEqDiff, Nat.reduceBEq, reduceCtorEq, Nat.reduceAdd, Nat.reduceMul, Nat.reduceSub, Nat.reduceLT, Int.reduceToNat, Int.reduceLT, Int.reduceLE, Int.reduceEq, Int.reduceAdd, Int.reduceNeg, Int.reduceMul, Int.reduceSub]
      refine xc_any (fun h7 => ?_) fun h7 => ?_
      · have h8 : l.getD i (0, 0) = l'.getD i (0, 0) := by
          simp only [Bool.and_true, Bool.and_eq_true, decide_eq_true_eq] at h7
          exact Prod.ext h7.1 (by omega)
        simp -implicitDefEqProofs (disch := omega) only [h2, h3, h4, mwx, ne_eq, false_implies, implies_true, forall_eq_or_imp, MW.get, ev, evs, argFr, resK, packV, slHK, partsV, partsS, setR, Int.cast_ofNat_Int, Int.natCast_zero, Int.natCast_one, Nat.reduceLeDiff, reduceIte, Nat.reduceEqDiff, Nat.reduceBEq, reduceCtorEq, Nat.reduceAdd, Nat.reduceMul, Nat.reduceSub, Nat.reduceLT, Int.reduceToNat, Int.reduceLT, Int.reduceLE, Int.reduceEq, Int.reduceAdd, Int.reduceNeg, Int.reduceMul, Int.reduceSub]
        exact ⟨k - 1, by omega, hJ _ _ ⟨i + 1, by omega, h2, h3, rfl, by rw [take_succ_at hi (d := (0, 0)), take_succ_at hi3 (d := (0, 0)), h5, h8]⟩⟩
      · simp -implicitDefEqProofs (disch := omega) only [mwx, ne_eq, false_implies, implies_true, forall_eq_or_imp, MW.get, ev, evs, argFr, resK, packV, slHK, partsV, partsS, setR, Int.cast_ofNat_Int, Int.natCast_zero, Int.natCast_one, Nat.reduceLeDiff, reduceIte, Nat.reduceEqDiff, Nat.reduceBEq, reduceCtorEq, Nat.reduceAdd, Nat.reduceMul, Nat.reduceSub, Nat.reduceLT, Int.reduceToNat, Int.reduceLT, Int.reduceLE, Int.reduceEq, Int.reduceAdd, Int.reduceNeg, Int.reduceMul, Int.reduceSub]
        refine frz_bool ?_
        refine Eq.symm (decide_eq_false ?_)
        rintro rfl
        simp at h7
    · simp -implicitDefEqProofs (disch := omega) only [mwx, ne_eq, false_implies, implies_true, forall_eq_or_imp, MW.get, ev, evs, argFr, resK, packV, slHK, partsV, partsS, setR, Int.cast_ofNat_Int, Int.natCast_zero, Int.natCast_one, Nat.reduceLeDiff, reduceIte, Nat.reduceEqDiff, Nat.reduceBEq, reduceCtorEq, Nat.reduceAdd, Nat.reduceMul, Nat.reduceSub, Nat.reduceLT, Int.reduceToNat, Int.reduceLT, Int.reduceLE, Int.reduceEq, Int.reduceAdd, Int.reduceNeg, Int.reduceMul, Int.reduceSub]
      refine frz_bool (Eq.symm (decide_eq_true ?_))
      rw [List.take_of_length_le (by omega), List.take_of_length_le (by omega)] at h5
      exact h5
  · simp -implicitDefEqProofs (disch := omega) only [mwx, ne_eq, false_implies, implies_true, forall_eq_or_imp, MW.get, ev, evs, argFr, resK, packV, slHK, partsV, partsS, setR, Int.cast_ofNat_Int, Int.natCast_zero, Int.natCast_one, Nat.reduceLeDiff, reduceIte, Nat.reduceEqDiff, Nat.reduceBEq, reduceCtorEq, Nat.reduceAdd, Nat.reduceMul, Nat.reduceSub, Nat.reduceLT, Int.reduceToNat, Int.reduceLT, Int.reduceLE, Int.reduceEq, Int.reduceAdd, Int.reduceNeg, Int.reduceMul, Int.reduceSub]
    refine frz_bool (Eq.symm (decide_eq_false ?_))
    rintro rfl
    exact h rfl

end Go.Proofs.YtphbhoggcddgmaaDoor
