/- Arena: a slot is taken in the first segment that has one. -/
import Derived.Test.YtphbhoggcddgmaaDoorMwArL
namespace Go.Proofs.YtphbhoggcddgmaaDoor
open Go Go.MW
set_option linter.unusedSimpArgs false
set_option linter.unusedVariables false

theorem tak_seek {l : List Sg} {c : Int} (hc : chk l = true) (h0 : slN c ≠ 0) {j : Nat} (h : seek c l 0 (-1) = j) : (tak l c).2 = (((j : Int), (low0 (sat l j).2 : Int)), 0) := by
  have h1 : ¬ seek c l 0 (-1) < 0 := by omega
  simp only [tak, hc, h0, h1, if_false, Bool.true_eq_false]
  rw [h]
  rfl

theorem first_a {l : List Sg} {c : Int} (hl : SegOK l) (hc : chk l = true) (h0 : slN c ≠ 0) {i j : Nat} (hi : i < l.length) (hci : (sat l i).1 = c) (hj : j < slN c) (hb : ∀ b, b < j → (sat l i).2.testBit b = true) (hn : (sat l i).2.testBit j = false) (hf : ∀ b, b < i → ¬ fits c (sat l b)) :
    (tak l c).2 = (((i : Int), (j : Int)), 0) := by
  have hok := (chk_iff.1 hc).2
  have hall : (sat l i).2 ≠ allN c := by
    intro e
    rw [e, allN, Nat.testBit_two_pow_sub_one] at hn
    simp [hj] at hn
  have hfi : fits c (sat l i) := ⟨hci, hall⟩
  rcases seek_spec c l 0 (-1) (by omega) with ⟨q, q1, q2, q3, q4⟩ | ⟨k1, _⟩
  · have : q = i := by
      rcases Nat.lt_trichotomy q i with h | h | h
      · exact absurd q3 (hf q h)
      · exact h
      · exact absurd hfi (q4 i h)
    subst this
    rw [Nat.zero_add] at q2
    rw [tak_seek hc h0 q2]
    have hne : (sat l q).1 ≠ -1 := by rw [hci]; rintro rfl; exact h0 rfl
    obtain ⟨s1, s2, s3⟩ := sgOK_used (hok q q1) hne
    rw [hci] at s3
    obtain ⟨l1, l2, l3⟩ := low0_lt s3 (slN_le c) hall h0
    have : low0 (sat l q).2 = j := by
      rcases Nat.lt_trichotomy (low0 (sat l q).2) j with h | h | h
      · rw [hb _ h] at l2; cases l2
      · exact h
      · rw [l3 j h] at hn; cases hn
    rw [this]
  · exact absurd hfi (k1 i hi)

theorem first_b {l : List Sg} {c : Int} (hl : SegOK l) (hc : chk l = true) (h0 : slN c ≠ 0) {i : Nat} (hi : i < l.length) (hci : (sat l i).1 = -1) (hf : ∀ b, b < l.length → ¬ fits c (sat l b)) (hn : ∀ b, b < i → (sat l b).1 ≠ -1) :
    (tak l c).2 = (((i : Int), 0), 0) := by
  have hok := (chk_iff.1 hc).2
  rcases seek_spec c l 0 (-1) (by omega) with ⟨q, q1, q2, q3, q4⟩ | ⟨k1, ⟨k2, _⟩ | ⟨_, ⟨q, q1, q2, q3, q4⟩ | ⟨_, k4⟩⟩⟩
  · exact absurd q3 (hf q q1)
  · omega
  · have : q = i := by
      rcases Nat.lt_trichotomy q i with h | h | h
      · exact absurd q3 (hn q h)
      · exact h
      · exact absurd hci (q4 i h)
    subst this
    rw [Nat.zero_add] at q2
    rw [tak_seek hc h0 q2, sgOK_free (hok q q1) q3]
    rfl
  · exact absurd hci (k4 i hi)

theorem first_c {l : List Sg} {c : Int} (hc : chk l = true) (h0 : slN c ≠ 0) (hf : ∀ b, b < l.length → ¬ fits c (sat l b)) (hn : ∀ b, b < l.length → (sat l b).1 ≠ -1) : (tak l c).2.2 = 110 := by
  rcases seek_spec c l 0 (-1) (by omega) with ⟨q, q1, q2, q3, q4⟩ | ⟨k1, ⟨k2, _⟩ | ⟨_, ⟨q, q1, q2, q3, q4⟩ | ⟨k3, k4⟩⟩⟩
  · exact absurd q3 (hf q q1)
  · omega
  · exact absurd q3 (hn q q1)
  · simp [tak, hc, h0, k3]

theorem full_not {l : List Sg} {c : Int} (hl : SegOK l) (hc : chk l = true) {i : Nat} (hi : i < l.length) (h0 : slN c ≠ 0) (hb : ∀ b, b < slN c → (sat l i).2.testBit b = true) : ¬ fits c (sat l i) := by
  rintro ⟨h1, h2⟩
  have hne : (sat l i).1 ≠ -1 := by rw [h1]; rintro rfl; exact h0 rfl
  obtain ⟨s1, s2, s3⟩ := sgOK_used ((chk_iff.1 hc).2 i hi) hne
  rw [h1] at s3
  refine h2 (Nat.eq_of_testBit_eq fun b => ?_)
  rw [allN, Nat.testBit_two_pow_sub_one]
  by_cases h : b < slN c
  · rw [hb b h]; simp [h]
  · rw [Nat.testBit_lt_two_pow (Nat.lt_of_lt_of_le s3 (Nat.pow_le_pow_right (by decide) (by omega)))]; simp [h]

theorem slN_pos : ∀ c : Nat, c < 4 → slN c ≠ 0 := by decide +kernel

theorem first_fn {v : V} {l : List Sg} (hv : IsE segE v l) (hl : SegOK l) (c : Nat) (hcc : c < 256) : Does Tryd.prog G0 true 6 [v, .int .u8 c] (.bool true) := by
  refine Does.intro mixed comp6 ?_
  unfold c6
  simp -implicitDefEqProofs (disch := omega) only [mwx, ne_eq, false_implies, implies_true, forall_eq_or_imp, MW.get, ev, evs, argFr, resK, packV, slHK, partsV, partsS, setR, Int.cast_ofNat_Int, Int.natCast_zero, Int.natCast_one, Nat.reduceLeDiff, reduceIte, Nat.reduceEqDiff, Nat.reduceBEq, reduceCtorEq, Nat.reduceAdd, Nat.reduceMul, Nat.reduceSub, Nat.reduceLT, Int.reduceToNat, Int.reduceLT, Int.reduceLE, Int.reduceEq, Int.reduceAdd, Int.reduceNeg, Int.reduceMul, Int.reduceSub]
  refine Does.call awake_fn fr0 ?_
  have e1 : IntKind.i64.wrap (Int.tmod (c : Int) 4) = ((c % 4 : Nat) : Int) := by
    rw [Int.tmod_eq_emod_of_nonneg (by omega)]
    exact wrap64 (by omega) (by omega)
  have hk : c % 4 < 4 := by omega
  simp -implicitDefEqProofs (disch := omega) only [lenK_isE hv, e1, mwx, ne_eq, false_implies, implies_true, forall_eq_or_imp, MW.get, ev, evs, argFr, resK, packV, slHK, partsV, partsS, setR, Int.cast_ofNat_Int, Int.natCast_zero, Int.natCast_one, Nat.reduceLeDiff, reduceIte, Nat.reduceEqDiff, Nat.reduceBEq, reduceCtorEq, Nat.reduceAdd, Nat.reduceMul, Nat.reduceSub, Nat.reduceLT, Int.reduceToNat, Int.reduceLT, Int.reduceLE, Int.reduceEq, Int.reduceAdd, Int.reduceNeg, Int.reduceMul, Int.reduceSub]
  generalize c % 4 = k at *
  have h0 := slN_pos k hk
  refine xg_decf (fun h => ?_) fun h => ?_
  · simp -implicitDefEqProofs (disch := omega) only [h, mwx, ne_eq, false_implies, implies_true, forall_eq_or_imp, MW.get, ev, evs, argFr, resK, packV, slHK, partsV, partsS, setR, Int.cast_ofNat_Int, Int.natCast_zero, Int.natCast_one, Nat.reduceLeDiff, reduceIte, Nat.reduceEqDiff, Nat.reduceBEq, reduceCtorEq, Nat.reduceAdd, Nat.reduceMul, Nat.reduceSub, Nat.reduceLT, Int.reduceToNat, Int.reduceLT, Int.reduceLE, Int.reduceEq, Int.reduceAdd, Int.reduceNeg, Int.reduceMul, Int.reduceSub]
    exact frz_bool rfl
  have hlen : l.length ≤ 100 := by omega
  simp -implicitDefEqProofs (disch := omega) only [h, mwx, ne_eq, false_implies, implies_true, forall_eq_or_imp, MW.get, ev, evs, argFr, resK, packV, slHK, partsV, partsS, setR, Int.cast_ofNat_Int, Int.natCast_zero, Int.natCast_one, Nat.reduceLeDiff, reduceIte, Nat.reduceEqDiff, Nat.reduceBEq, reduceCtorEq, Nat.reduceAdd, Nat.reduceMul, Nat.reduceSub, Nat.reduceLT, Int.reduceToNat, Int.reduceLT, Int.reduceLE, Int.reduceEq, Int.reduceAdd, Int.reduceNeg, Int.reduceMul, Int.reduceSub]
  refine Does.call (chk_fn hv hl) (fr1 hv.free) ?_
  simp -implicitDefEqProofs (disch := omega) only [mwx, ne_eq, false_implies, implies_true, forall_eq_or_imp, MW.get, ev, evs, argFr, resK, packV, slHK, partsV, partsS, setR, Int.cast_ofNat_Int, Int.natCast_zero, Int.natCast_one, Nat.reduceLeDiff, reduceIte, Nat.reduceEqDiff, Nat.reduceBEq, reduceCtorEq, Nat.reduceAdd, Nat.reduceMul, Nat.reduceSub, Nat.reduceLT, Int.reduceToNat, Int.reduceLT, Int.reduceLE, Int.reduceEq, Int.reduceAdd, Int.reduceNeg, Int.reduceMul, Int.reduceSub]
  refine xc_any (fun hc => ?_) fun hc => ?_
  · obtain ⟨vm, im, dm⟩ := tak_fn hv hl (by omega) (k : Int)
    simp -implicitDefEqProofs (disch := omega) only [mwx, ne_eq, false_implies, implies_true, forall_eq_or_imp, MW.get, ev, evs, argFr, resK, packV, slHK, partsV, partsS, setR, Int.cast_ofNat_Int, Int.natCast_zero, Int.natCast_one, Nat.reduceLeDiff, reduceIte, Nat.reduceEqDiff, Nat.reduceBEq, reduceCtorEq, Nat.reduceAdd, Nat.reduceMul, Nat.reduceSub, Nat.reduceLT, Int.reduceToNat, Int.reduceLT, Int.reduceLE, Int.reduceEq, Int.reduceAdd, Int.reduceNeg, Int.reduceMul, Int.reduceSub]
    refine Does.call dm (fr2 hv.free (.int _ _)) ?_
    clear dm im
    simp -implicitDefEqProofs (disch := omega) only [mwx, ne_eq, false_implies, implies_true, forall_eq_or_imp, MW.get, ev, evs, argFr, resK, packV, slHK, partsV, partsS, setR, Int.cast_ofNat_Int, Int.natCast_zero, Int.natCast_one, Nat.reduceLeDiff, reduceIte, Nat.reduceEqDiff, Nat.reduceBEq, reduceCtorEq, Nat.reduceAdd, Nat.reduceMul, Nat.reduceSub, Nat.reduceLT, Int.reduceToNat, Int.reduceLT, Int.reduceLE, Int.reduceEq, Int.reduceAdd, Int.reduceNeg, Int.reduceMul, Int.reduceSub]
    generalize hx : (tak l (k : Int)).2.1.1 = x at *
    generalize hy : (tak l (k : Int)).2.1.2 = y at *
    generalize he : (tak l (k : Int)).2.2 = e at *
    have htt : (tak l (k : Int)).2 = ((x, y), e) := by rw [← hx, ← hy, ← he]
    refine xl_blk (fun st => st.H = [.row 2 [.agg [.int .i64 x, .int .i64 y]] false false] ∧ get st.fr 0 = v ∧ get st.fr 5 = .bool true ∧ get st.fr 8 = .ptr 0 1 0 0 ∧ get st.fr 9 = .int .i64 e ∧ ∀ b, b < l.length → ¬ fits k (sat l b))
      (fun n st => ∃ i : Nat, n + i = l.length ∧ st.H = [.row 2 [.agg [.int .i64 x, .int .i64 y]] false false] ∧ get st.fr 0 = v ∧ get st.fr 5 = .bool true ∧ get st.fr 6 = .int .i64 k ∧ get st.fr 8 = .ptr 0 1 0 0 ∧ get st.fr 9 = .int .i64 e ∧ get st.fr 10 = .int .i64 i ∧ ∀ b, b < i → ¬ fits k (sat l b)) l.length
      ⟨0, by omega, rfl, rfl, rfl, rfl, rfl, rfl, rfl, by omega⟩ ?_ ?_
    · rintro fr H ⟨hH, h1, h2, h3, h4, h5⟩
      obtain rfl : H = _ := hH
      simp -implicitDefEqProofs (disch := omega) only [h1, h2, h3, h4, mwx, ne_eq, false_implies, implies_true, forall_eq_or_imp, MW.get, ev, evs, argFr, resK, packV, slHK, partsV, partsS, setR, Int.cast_ofNat_Int, Int.natCast_zero, Int.natCast_one, Nat.reduceLeDiff, reduceIte, Nat.reduceEqDiff, Nat.reduceBEq, reduceCtorEq, Nat.reduceAdd, Nat.reduceMul, Nat.reduceSub, Nat.reduceLT, Int.reduceToNat, Int.reduceLT, Int.reduceLE, Int.reduceEq, Int.reduceAdd, Int.reduceNeg, Int.reduceMul, Int.reduceSub]
      refine xl_loop (fun n st => ∃ i : Nat, n + i = l.length ∧ st.H = [.row 2 [.agg [.int .i64 x, .int .i64 y]] false false] ∧ get st.fr 0 = v ∧ get st.fr 5 = .bool true ∧ get st.fr 8 = .ptr 0 1 0 0 ∧ get st.fr 9 = .int .i64 e ∧ get st.fr 12 = .int .i64 i ∧ ∀ b, b < i → (sat l b).1 ≠ -1) l.length
        ⟨0, by omega, rfl, h1, h2, h3, h4, rfl, by omega⟩ ?_
      rintro J hJ n fr H ⟨i, k1, hH, h1, h2, h3, h4, h6, k2⟩
      obtain rfl : H = _ := hH
      simp -implicitDefEqProofs (disch := omega) only [h1, h2, h3, h4, h6, lenK_isE hv, mwx, ne_eq, false_implies, implies_true, forall_eq_or_imp, MW.get, ev, evs, argFr, resK, packV, slHK, partsV, partsS, setR, Int.cast_ofNat_Int, Int.natCast_zero, Int.natCast_one, Nat.reduceLeDiff, reduceIte, Nat.reduceEqDiff, Nat.reduceBEq, reduceCtorEq, Nat.reduceAdd, Nat.reduceMul, Nat.reduceSub, Nat.reduceLT, Int.reduceToNat, Int.reduceLT, Int.reduceLE, Int.reduceEq, Int.reduceAdd, Int.reduceNeg, Int.reduceMul, Int.reduceSub]
      refine xc_dec (fun h7 => ?_) fun h7 => ?_
      · have hi : i < l.length := by omega
        have hi0 : (0 : Int) ≤ (i : Int) := by omega
        have hi1 : (i : Int).toNat < l.length := by simpa using hi
        simp -implicitDefEqProofs (disch := omega) only [h1, h2, h3, h4, h6, iaK_sg hv hi0 hi1, mwx, ne_eq, false_implies, implies_true, forall_eq_or_imp, MW.get, ev, evs, argFr, resK, packV, slHK, partsV, partsS, setR, Int.cast_ofNat_Int, Int.natCast_zero, Int.natCast_one, Nat.reduceLeDiff, reduceIte, Nat.reduceEqDiff, Nat.reduceBEq, reduceCtorEq, Nat.reduceAdd, Nat.reduceMul, Nat.reduceSub, Nat.reduceLT, Int.reduceToNat, Int.reduceLT, Int.reduceLE, Int.reduceEq, Int.reduceAdd, Int.reduceNeg, Int.reduceMul, Int.reduceSub]
        refine xc_dec (fun h8 => ?_) fun h8 => ?_
        · have hb := first_b hl hc h0 hi h8 h5 k2
          rw [htt] at hb
          simp only [Prod.mk.injEq] at hb
          obtain ⟨⟨rfl, rfl⟩, rfl⟩ := hb
          simp -implicitDefEqProofs (disch := omega) only [h1, h2, h3, h4, h6, mwx, ne_eq, false_implies, implies_true, forall_eq_or_imp, MW.get, ev, evs, argFr, resK, packV, slHK, partsV, partsS, setR, Int.cast_ofNat_Int, Int.natCast_zero, Int.natCast_one, Nat.reduceLeDiff, reduceIte, Nat.reduceEqDiff, Nat.reduceBEq, reduceCtorEq, Nat.reduceAdd, Nat.reduceMul, Nat.reduceSub, Nat.reduceLT, Int.reduceToNat, Int.reduceLT, Int.reduceLE, Int.reduceEq, Int.reduceAdd, Int.reduceNeg, Int.reduceMul, Int.reduceSub]
          exact frz_bool rfl
        · simp -implicitDefEqProofs (disch := omega) only [h1, h2, h3, h4, h6, mwx, ne_eq, false_implies, implies_true, forall_eq_or_imp, MW.get, ev, evs, argFr, resK, packV, slHK, partsV, partsS, setR, Int.cast_ofNat_Int, Int.natCast_zero, Int.natCast_one, Nat.reduceLeDiff, reduceIte, Nat.reduceEqDiff, Nat.reduceBEq, reduceCtorEq, Nat.reduceAdd, Nat.reduceMul, Nat.reduceSub, Nat.reduceLT, Int.reduceToNat, Int.reduceLT, Int.reduceLE, Int.reduceEq, Int.reduceAdd, Int.reduceNeg, Int.reduceMul, Int.reduceSub]
          exact ⟨n - 1, by omega, hJ _ _ ⟨i + 1, by omega, rfl, h1, h2, h3, h4, rfl, fun b hb => by
            rcases Nat.lt_or_ge b i with h' | h'
            · exact k2 b h'
            · obtain rfl : b = i := by omega
              exact h8⟩⟩
      · simp -implicitDefEqProofs (disch := omega) only [h1, h2, h3, h4, h6, mwx, ne_eq, false_implies, implies_true, forall_eq_or_imp, MW.get, ev, evs, argFr, resK, packV, slHK, partsV, partsS, setR, Int.cast_ofNat_Int, Int.natCast_zero, Int.natCast_one, Nat.reduceLeDiff, reduceIte, Nat.reduceEqDiff, Nat.reduceBEq, reduceCtorEq, Nat.reduceAdd, Nat.reduceMul, Nat.reduceSub, Nat.reduceLT, Int.reduceToNat, Int.reduceLT, Int.reduceLE, Int.reduceEq, Int.reduceAdd, Int.reduceNeg, Int.reduceMul, Int.reduceSub]
        have hcc := first_c hc h0 h5 fun b hb => k2 b (by omega)
        rw [htt] at hcc
        have : e = 110 := hcc
        subst this
        exact frz_bool rfl
    · rintro J Q' hJ hn hr hx2 n fr H ⟨i, k1, hH, h1, h2, h3, h4, h5, h6, k2⟩
      obtain rfl : H = _ := hH
      simp -implicitDefEqProofs (disch := omega) only [h1, h2, h3, h4, h5, h6, lenK_isE hv, mwx, ne_eq, false_implies, implies_true, forall_eq_or_imp, MW.get, ev, evs, argFr, resK, packV, slHK, partsV, partsS, setR, Int.cast_ofNat_Int, Int.natCast_zero, Int.natCast_one, Nat.reduceLeDiff, reduceIte, Nat.reduceEqDiff, Nat.reduceBEq, reduceCtorEq, Nat.reduceAdd, Nat.reduceMul, Nat.reduceSub, Nat.reduceLT, Int.reduceToNat, Int.reduceLT, Int.reduceLE, Int.reduceEq, Int.reduceAdd, Int.reduceNeg, Int.reduceMul, Int.reduceSub]
      refine xc_dec (fun h7 => ?_) fun h7 => ?_
      · have hi : i < l.length := by omega
        have hi0 : (0 : Int) ≤ (i : Int) := by omega
        have hi1 : (i : Int).toNat < l.length := by simpa using hi
        simp -implicitDefEqProofs (disch := omega) only [h1, h2, h3, h4, h5, h6, mwx, ne_eq, false_implies, implies_true, forall_eq_or_imp, MW.get, ev, evs, argFr, resK, packV, slHK, partsV, partsS, setR, Int.cast_ofNat_Int, Int.natCast_zero, Int.natCast_one, Nat.reduceLeDiff, reduceIte, Nat.reduceEqDiff, Nat.reduceBEq, reduceCtorEq, Nat.reduceAdd, Nat.reduceMul, Nat.reduceSub, Nat.reduceLT, Int.reduceToNat, Int.reduceLT, Int.reduceLE, Int.reduceEq, Int.reduceAdd, Int.reduceNeg, Int.reduceMul, Int.reduceSub]
        refine xl_blk (fun st => st.H = [.row 2 [.agg [.int .i64 x, .int .i64 y]] false false] ∧ get st.fr 0 = v ∧ get st.fr 5 = .bool true ∧ get st.fr 6 = .int .i64 k ∧ get st.fr 8 = .ptr 0 1 0 0 ∧ get st.fr 9 = .int .i64 e ∧ get st.fr 10 = .int .i64 i ∧ ¬ fits k (sat l i))
          (fun n st => ∃ j : Nat, n + j = slN k ∧ st.H = [.row 2 [.agg [.int .i64 x, .int .i64 y]] false false] ∧ get st.fr 0 = v ∧ get st.fr 5 = .bool true ∧ get st.fr 6 = .int .i64 k ∧ get st.fr 8 = .ptr 0 1 0 0 ∧ get st.fr 9 = .int .i64 e ∧ get st.fr 10 = .int .i64 i ∧ get st.fr 11 = .int .i64 j ∧ ∀ b, b < j → (sat l i).2.testBit b = true) (slN k)
          ⟨0, by omega, rfl, h1, h2, h3, h4, h5, h6, rfl, by omega⟩ ?_ ?_
        · rintro fr H ⟨hH, h1, h2, h3, h4, h5, h6, k3⟩
          obtain rfl : H = _ := hH
          simp -implicitDefEqProofs (disch := omega) only [h1, h2, h3, h4, h5, h6, mwx, ne_eq, false_implies, implies_true, forall_eq_or_imp, MW.get, ev, evs, argFr, resK, packV, slHK, partsV, partsS, setR, Int.cast_ofNat_Int, Int.natCast_zero, Int.natCast_one, Nat.reduceLeDiff, reduceIte, Nat.reduceEqDiff, Nat.reduceBEq, reduceCtorEq, Nat.reduceAdd, Nat.reduceMul, Nat.reduceSub, Nat.reduceLT, Int.reduceToNat, Int.reduceLT, Int.reduceLE, Int.reduceEq, Int.reduceAdd, Int.reduceNeg, Int.reduceMul, Int.reduceSub]
          exact ⟨n - 1, by omega, hJ _ _ ⟨i + 1, by omega, rfl, h1, h2, h3, h4, h5, rfl, fun b hb => by
            rcases Nat.lt_or_ge b i with h' | h'
            · exact k2 b h'
            · obtain rfl : b = i := by omega
              exact k3⟩⟩
        · rintro J2 Q2 hJ2 hn2 hr2 _ m fr H ⟨j, m1, hH, h1, h2, h3, h4, h5, h6, h8, m2⟩
          obtain rfl : H = _ := hH
          simp -implicitDefEqProofs (disch := omega) only [h1, h2, h3, h4, h5, h6, h8, mwx, ne_eq, false_implies, implies_true, forall_eq_or_imp, MW.get, ev, evs, argFr, resK, packV, slHK, partsV, partsS, setR, Int.cast_ofNat_Int, Int.natCast_zero, Int.natCast_one, Nat.reduceLeDiff, reduceIte, Nat.reduceEqDiff, Nat.reduceBEq, reduceCtorEq, Nat.reduceAdd, Nat.reduceMul, Nat.reduceSub, Nat.reduceLT, Int.reduceToNat, Int.reduceLT, Int.reduceLE, Int.reduceEq, Int.reduceAdd, Int.reduceNeg, Int.reduceMul, Int.reduceSub]
          refine Does.call (slots_ref k) (fr1 (.int _ _)) ?_
          simp -implicitDefEqProofs (disch := omega) only [slts_slN, mwx, ne_eq, false_implies, implies_true, forall_eq_or_imp, MW.get, ev, evs, argFr, resK, packV, slHK, partsV, partsS, setR, Int.cast_ofNat_Int, Int.natCast_zero, Int.natCast_one, Nat.reduceLeDiff, reduceIte, Nat.reduceEqDiff, Nat.reduceBEq, reduceCtorEq, Nat.reduceAdd, Nat.reduceMul, Nat.reduceSub, Nat.reduceLT, Int.reduceToNat, Int.reduceLT, Int.reduceLE, Int.reduceEq, Int.reduceAdd, Int.reduceNeg, Int.reduceMul, Int.reduceSub]
          refine xg_dec (fun h9 => ?_) fun h9 => ?_
          · have hj : j < slN k := by omega
            have hsl := slN_le (k : Int)
            simp -implicitDefEqProofs (disch := omega) only [h1, h2, h3, h4, h5, h6, h8, h9, iaK_sg hv hi0 hi1, mwx, ne_eq, false_implies, implies_true, forall_eq_or_imp, MW.get, ev, evs, argFr, resK, packV, slHK, partsV, partsS, setR, Int.cast_ofNat_Int, Int.natCast_zero, Int.natCast_one, Nat.reduceLeDiff, reduceIte, Nat.reduceEqDiff, Nat.reduceBEq, reduceCtorEq, Nat.reduceAdd, Nat.reduceMul, Nat.reduceSub, Nat.reduceLT, Int.reduceToNat, Int.reduceLT, Int.reduceLE, Int.reduceEq, Int.reduceAdd, Int.reduceNeg, Int.reduceMul, Int.reduceSub]
            refine xc_dec (fun h10 => ?_) fun h10 => ?_
            · simp -implicitDefEqProofs (disch := omega) only [h1, h2, h3, h4, h5, h6, h8, mwx, ne_eq, false_implies, implies_true, forall_eq_or_imp, MW.get, ev, evs, argFr, resK, packV, slHK, partsV, partsS, setR, Int.cast_ofNat_Int, Int.natCast_zero, Int.natCast_one, Nat.reduceLeDiff, reduceIte, Nat.reduceEqDiff, Nat.reduceBEq, reduceCtorEq, Nat.reduceAdd, Nat.reduceMul, Nat.reduceSub, Nat.reduceLT, Int.reduceToNat, Int.reduceLT, Int.reduceLE, Int.reduceEq, Int.reduceAdd, Int.reduceNeg, Int.reduceMul, Int.reduceSub]
              refine Does.call (has_fn hv hl i j) (fr2 hv.free (slot_free _ _)) ?_
              rw [has_at hc hi]
              simp -implicitDefEqProofs (disch := omega) only [mwx, ne_eq, false_implies, implies_true, forall_eq_or_imp, MW.get, ev, evs, argFr, resK, packV, slHK, partsV, partsS, setR, Int.cast_ofNat_Int, Int.natCast_zero, Int.natCast_one, Nat.reduceLeDiff, reduceIte, Nat.reduceEqDiff, Nat.reduceBEq, reduceCtorEq, Nat.reduceAdd, Nat.reduceMul, Nat.reduceSub, Nat.reduceLT, Int.reduceToNat, Int.reduceLT, Int.reduceLE, Int.reduceEq, Int.reduceAdd, Int.reduceNeg, Int.reduceMul, Int.reduceSub]
              refine xc_any (fun h11 => ?_) fun h11 => ?_
              · simp -implicitDefEqProofs (disch := omega) only [h1, h2, h3, h4, h5, h6, h8, mwx, ne_eq, false_implies, implies_true, forall_eq_or_imp, MW.get, ev, evs, argFr, resK, packV, slHK, partsV, partsS, setR, Int.cast_ofNat_Int, Int.natCast_zero, Int.natCast_one, Nat.reduceLeDiff, reduceIte, Nat.reduceEqDiff, Nat.reduceBEq, reduceCtorEq, Nat.reduceAdd, Nat.reduceMul, Nat.reduceSub, Nat.reduceLT, Int.reduceToNat, Int.reduceLT, Int.reduceLE, Int.reduceEq, Int.reduceAdd, Int.reduceNeg, Int.reduceMul, Int.reduceSub]
                exact ⟨m - 1, by omega, hJ2 _ _ ⟨j + 1, by omega, rfl, h1, h2, h3, h4, h5, h6, rfl, fun b hb => by
                  rcases Nat.lt_or_ge b j with h' | h'
                  · exact m2 b h'
                  · obtain rfl : b = j := by omega
                    exact h11⟩⟩
              · have hb := first_a hl hc h0 hi h10 hj m2 h11 k2
                rw [htt] at hb
                simp only [Prod.mk.injEq] at hb
                obtain ⟨⟨rfl, rfl⟩, rfl⟩ := hb
                simp -implicitDefEqProofs (disch := omega) only [h1, h2, h3, h4, h5, h6, h8, hr2, hr, mwx, ne_eq, false_implies, implies_true, forall_eq_or_imp, MW.get, ev, evs, argFr, resK, packV, slHK, partsV, partsS, setR, Int.cast_ofNat_Int, Int.natCast_zero, Int.natCast_one, Nat.reduceLeDiff, reduceIte, Nat.reduceEqDiff, Nat.reduceBEq, reduceCtorEq, Nat.reduceAdd, Nat.reduceMul, Nat.reduceSub, Nat.reduceLT, Int.reduceToNat, Int.reduceLT, Int.reduceLE, Int.reduceEq, Int.reduceAdd, Int.reduceNeg, Int.reduceMul, Int.reduceSub]
                exact frz_bool rfl
            · simp -implicitDefEqProofs (disch := omega) only [hn2, mwx, ne_eq, false_implies, implies_true, forall_eq_or_imp, MW.get, ev, evs, argFr, resK, packV, slHK, partsV, partsS, setR, Int.cast_ofNat_Int, Int.natCast_zero, Int.natCast_one, Nat.reduceLeDiff, reduceIte, Nat.reduceEqDiff, Nat.reduceBEq, reduceCtorEq, Nat.reduceAdd, Nat.reduceMul, Nat.reduceSub, Nat.reduceLT, Int.reduceToNat, Int.reduceLT, Int.reduceLE, Int.reduceEq, Int.reduceAdd, Int.reduceNeg, Int.reduceMul, Int.reduceSub]
              exact ⟨h1, h2, h3, h4, h5, h6, fun hf => h10 hf.1⟩
          · simp -implicitDefEqProofs (disch := omega) only [h9, hn2, mwx, ne_eq, false_implies, implies_true, forall_eq_or_imp, MW.get, ev, evs, argFr, resK, packV, slHK, partsV, partsS, setR, Int.cast_ofNat_Int, Int.natCast_zero, Int.natCast_one, Nat.reduceLeDiff, reduceIte, Nat.reduceEqDiff, Nat.reduceBEq, reduceCtorEq, Nat.reduceAdd, Nat.reduceMul, Nat.reduceSub, Nat.reduceLT, Int.reduceToNat, Int.reduceLT, Int.reduceLE, Int.reduceEq, Int.reduceAdd, Int.reduceNeg, Int.reduceMul, Int.reduceSub]
            exact ⟨h1, h2, h3, h4, h5, h6, full_not hl hc hi h0 fun b hb => m2 b (by omega)⟩
      · simp -implicitDefEqProofs (disch := omega) only [hn, mwx, ne_eq, false_implies, implies_true, forall_eq_or_imp, MW.get, ev, evs, argFr, resK, packV, slHK, partsV, partsS, setR, Int.cast_ofNat_Int, Int.natCast_zero, Int.natCast_one, Nat.reduceLeDiff, reduceIte, Nat.reduceEqDiff, Nat.reduceBEq, reduceCtorEq, Nat.reduceAdd, Nat.reduceMul, Nat.reduceSub, Nat.reduceLT, Int.reduceToNat, Int.reduceLT, Int.reduceLE, Int.reduceEq, Int.reduceAdd, Int.reduceNeg, Int.reduceMul, Int.reduceSub]
        exact ⟨h1, h2, h4, h5, fun b hb => k2 b (by omega)⟩
  · simp -implicitDefEqProofs (disch := omega) only [mwx, ne_eq, false_implies, implies_true, forall_eq_or_imp, MW.get, ev, evs, argFr, resK, packV, slHK, partsV, partsS, setR, Int.cast_ofNat_Int, Int.natCast_zero, Int.natCast_one, Nat.reduceLeDiff, reduceIte, Nat.reduceEqDiff, Nat.reduceBEq, reduceCtorEq, Nat.reduceAdd, Nat.reduceMul, Nat.reduceSub, Nat.reduceLT, Int.reduceToNat, Int.reduceLT, Int.reduceLE, Int.reduceEq, Int.reduceAdd, Int.reduceNeg, Int.reduceMul, Int.reduceSub]
    exact frz_bool rfl

end Go.Proofs.YtphbhoggcddgmaaDoor
