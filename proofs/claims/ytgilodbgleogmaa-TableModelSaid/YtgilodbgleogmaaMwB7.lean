import Derived.Test.YtgilodbgleogmaaProg
import Derived.Test.YtgilodbgleogmaaMwB6
/- Table (chapter 13): TableTurns, TableFull. -/
namespace Go.Proofs.Ytgilodbgleogmaa
open Go Go.MW
set_option linter.unusedSimpArgs false
set_option linter.unusedVariables false
set_option maxRecDepth 8000

/-- Keys that are put one behind the other, each with how long it is. -/
def putsF (t : List Pc) (l : List (List UInt8)) : List Pc := l.foldl (fun t k => (putT t k k.length).1) t
def putsT (l : List (List UInt8)) : List Pc := putsF t0 l

theorem putsF_ok : ∀ (l : List (List UInt8)) (t : List Pc), WF t → full t + l.length ≤ 96 → WF (putsF t l) ∧ full (putsF t l) ≤ full t + l.length ∧ ∀ k, look (putsF t l) k = if k ∈ l ∧ keyOK k = true then some (k.length : Int) else look t k
  | [], t, h, hf => ⟨h, by simp [putsF], fun k => by simp [putsF]⟩
  | q :: l, t, h, hf => by
    rw [List.length_cons] at hf ⊢
    have hrec : putsF t (q :: l) = putsF (putT t q q.length).1 l := rfl
    rw [hrec]
    rcases hok : keyOK q with _ | _
    · rw [put_key hok]
      obtain ⟨g1, g2, g3⟩ := putsF_ok l t h (by omega)
      refine ⟨g1, Nat.le_trans g2 (by omega), fun k => ?_⟩
      refine (g3 k).trans ?_
      by_cases hkq : k = q
      · subst hkq; simp [hok]
      · simp [hkq]
    · obtain ⟨_, e1, e2, e3⟩ := put_ok h hok (.inr (by omega)) q.length
      have e4 : full (putT t q q.length).1 ≤ full t + 1 := by rw [e3]; split <;> omega
      obtain ⟨g1, g2, g3⟩ := putsF_ok l _ e1 (by omega)
      refine ⟨g1, by omega, fun k => ?_⟩
      rw [g3, e2]
      by_cases hkq : k = q
      · subst hkq; simp [hok]
      · simp [hkq]

theorem putsT_ok {l : List (List UInt8)} (hl : l.length ≤ 90) : WF (putsT l) ∧ full (putsT l) ≤ l.length ∧ ∀ k, look (putsT l) k = if k ∈ l ∧ keyOK k = true then some (k.length : Int) else none := by
  obtain ⟨h1, h2, h3⟩ := putsF_ok l t0 t0_wf (by rw [t0_full]; omega)
  exact ⟨h1, by rw [t0_full] at h2; unfold putsT; omega, fun k => by unfold putsT; rw [h3, t0_look]⟩

theorem putsT_take {l : List (List UInt8)} {i : Nat} (h : i < l.length) : putsT (l.take (i + 1)) = (putT (putsT (l.take i)) (l.getD i []) (l.getD i []).length).1 := by
  unfold putsT putsF
  rw [List.take_add_one, List.foldl_append, List.getElem?_eq_getElem h, List.getD_eq_getElem?_getD, List.getElem?_eq_getElem h]
  rfl

/-- The same keys, from another one on. -/
def rot (l : List (List UInt8)) (f : Nat) : List (List UInt8) := (List.range l.length).map fun j => l.getD ((j + f) % l.length) []
theorem rot_length (l : List (List UInt8)) (f : Nat) : (rot l f).length = l.length := by unfold rot; simp
theorem rot_at {l : List (List UInt8)} {f i : Nat} (h : i < l.length) : (rot l f).getD i [] = l.getD ((i + f) % l.length) [] := by
  unfold rot
  rw [List.getD_eq_getElem?_getD, List.getElem?_eq_getElem (by simpa using h)]
  simp
theorem rot_mem {l : List (List UInt8)} {f : Nat} {k : List UInt8} : k ∈ rot l f ↔ k ∈ l := by
  unfold rot
  rw [List.mem_map]
  constructor
  · rintro ⟨j, hj, rfl⟩
    have hj' : j < l.length := by simpa using hj
    have := Nat.mod_lt (j + f) (show 0 < l.length by omega)
    rw [List.getD_eq_getElem?_getD, List.getElem?_eq_getElem this]
    exact List.getElem_mem this
  · intro hk
    obtain ⟨i, hi, rfl⟩ := List.getElem_of_mem hk
    have hf := Nat.mod_lt f (show 0 < l.length by omega)
    have h1 : ∀ j, (j + f) % l.length = (j + f % l.length) % l.length := fun j => by rw [Nat.add_mod, Nat.add_mod j (f % l.length), Nat.mod_mod]
    by_cases h2 : f % l.length ≤ i
    · refine ⟨i - f % l.length, by simp; omega, ?_⟩
      rw [h1, show i - f % l.length + f % l.length = i by omega, Nat.mod_eq_of_lt hi, List.getD_eq_getElem?_getD, List.getElem?_eq_getElem hi]
      rfl
    · refine ⟨i + l.length - f % l.length, by simp; omega, ?_⟩
      rw [h1, show i + l.length - f % l.length + f % l.length = i + l.length by omega, Nat.add_mod_right, Nat.mod_eq_of_lt hi, List.getD_eq_getElem?_getD, List.getElem?_eq_getElem hi]
      rfl

theorem del_same {a b : List Pc} (ha : WF a) (hb : WF b) (h : ∀ k, look a k = look b k) (q : List UInt8) :
    WF (delT a q).1 ∧ WF (delT b q).1 ∧ (delT a q).2 = (delT b q).2 ∧ ∀ k, look (delT a q).1 k = look (delT b q).1 k := by
  rcases hq : look a q with _ | y
  · have hq' := hq
    rw [h] at hq'
    rw [del_none hq, del_none hq']
    exact ⟨ha, hb, rfl, h⟩
  · have hq' := hq
    rw [h] at hq'
    obtain ⟨g1, g2, g3, _⟩ := del_ok ha hq
    obtain ⟨k1, k2, k3, _⟩ := del_ok hb hq'
    exact ⟨g2, k2, by rw [g1, k1], fun k => by rw [g3, k3, h]⟩

theorem mod_int (a b n : Nat) : ((a : Int) + (b : Int)).tmod (n : Int) = (((a + b) % n : Nat) : Int) := by
  rw [Int.tmod_eq_emod_of_nonneg (by omega)]
  simp

theorem turns_fn {v : V} {l : List (List UInt8)} (hv : IsE strE v l) (hl : l.length ≤ maxLen) (f : Nat) (hf : f < 256) (q : List UInt8) : Does Try.prog G0 true 7 [v, .int .u8 f, .str q] (.bool true) := by
  refine Does.intro mixed comp7 ?_
  unfold c7
  simp -implicitDefEqProofs (disch := omega) only [mwx, ne_eq, false_implies, implies_true, forall_eq_or_imp, MW.get, ev, evs, argFr, resK, packV, slHK, partsV, partsS, setR, Int.cast_ofNat_Int, Int.natCast_zero, Int.natCast_one, Nat.reduceLeDiff, reduceIte, Nat.reduceEqDiff, Nat.reduceBEq, reduceCtorEq, Nat.reduceAdd, Nat.reduceMul, Nat.reduceSub, Nat.reduceLT, Int.reduceToNat, Int.reduceLT, Int.reduceLE, Int.reduceEq, Int.reduceAdd, Int.reduceNeg, Int.reduceMul, Int.reduceSub]
  refine Does.call awake_fn (by simp) ?_
  simp -implicitDefEqProofs (disch := omega) only [lenK_isE hv, mwx, ne_eq, false_implies, implies_true, forall_eq_or_imp, MW.get, ev, evs, argFr, resK, packV, slHK, partsV, partsS, setR, Int.cast_ofNat_Int, Int.natCast_zero, Int.natCast_one, Nat.reduceLeDiff, reduceIte, Nat.reduceEqDiff, Nat.reduceBEq, reduceCtorEq, Nat.reduceAdd, Nat.reduceMul, Nat.reduceSub, Nat.reduceLT, Int.reduceToNat, Int.reduceLT, Int.reduceLE, Int.reduceEq, Int.reduceAdd, Int.reduceNeg, Int.reduceMul, Int.reduceSub]
  by_cases hl30 : (30 : Int) < (l.length : Int)
  · simp -implicitDefEqProofs (disch := omega) only [hl30, mwx, ne_eq, false_implies, implies_true, forall_eq_or_imp, MW.get, ev, evs, argFr, resK, packV, slHK, partsV, partsS, setR, Int.cast_ofNat_Int, Int.natCast_zero, Int.natCast_one, Nat.reduceLeDiff, reduceIte, Nat.reduceEqDiff, Nat.reduceBEq, reduceCtorEq, Nat.reduceAdd, Nat.reduceMul, Nat.reduceSub, Nat.reduceLT, Int.reduceToNat, Int.reduceLT, Int.reduceLE, Int.reduceEq, Int.reduceAdd, Int.reduceNeg, Int.reduceMul, Int.reduceSub]
    exact frz_bool rfl
  simp -implicitDefEqProofs (disch := omega) only [hl30, mwx, ne_eq, false_implies, implies_true, forall_eq_or_imp, MW.get, ev, evs, argFr, resK, packV, slHK, partsV, partsS, setR, Int.cast_ofNat_Int, Int.natCast_zero, Int.natCast_one, Nat.reduceLeDiff, reduceIte, Nat.reduceEqDiff, Nat.reduceBEq, reduceCtorEq, Nat.reduceAdd, Nat.reduceMul, Nat.reduceSub, Nat.reduceLT, Int.reduceToNat, Int.reduceLT, Int.reduceLE, Int.reduceEq, Int.reduceAdd, Int.reduceNeg, Int.reduceMul, Int.reduceSub]
  by_cases hq : (100 : Int) < (q.length : Int)
  · simp -implicitDefEqProofs (disch := omega) only [hq, mwx, ne_eq, false_implies, implies_true, forall_eq_or_imp, MW.get, ev, evs, argFr, resK, packV, slHK, partsV, partsS, setR, Int.cast_ofNat_Int, Int.natCast_zero, Int.natCast_one, Nat.reduceLeDiff, reduceIte, Nat.reduceEqDiff, Nat.reduceBEq, reduceCtorEq, Nat.reduceAdd, Nat.reduceMul, Nat.reduceSub, Nat.reduceLT, Int.reduceToNat, Int.reduceLT, Int.reduceLE, Int.reduceEq, Int.reduceAdd, Int.reduceNeg, Int.reduceMul, Int.reduceSub]
    exact frz_bool rfl
  simp -implicitDefEqProofs (disch := omega) only [hq, mwx, ne_eq, false_implies, implies_true, forall_eq_or_imp, MW.get, ev, evs, argFr, resK, packV, slHK, partsV, partsS, setR, Int.cast_ofNat_Int, Int.natCast_zero, Int.natCast_one, Nat.reduceLeDiff, reduceIte, Nat.reduceEqDiff, Nat.reduceBEq, reduceCtorEq, Nat.reduceAdd, Nat.reduceMul, Nat.reduceSub, Nat.reduceLT, Int.reduceToNat, Int.reduceLT, Int.reduceLE, Int.reduceEq, Int.reduceAdd, Int.reduceNeg, Int.reduceMul, Int.reduceSub]
  have hq' : q.length ≤ 1000000 := by omega
  refine Does.call new_fn (by simp) ?_
  simp -implicitDefEqProofs (disch := omega) only [mwx, ne_eq, false_implies, implies_true, forall_eq_or_imp, MW.get, ev, evs, argFr, resK, packV, slHK, partsV, partsS, setR, Int.cast_ofNat_Int, Int.natCast_zero, Int.natCast_one, Nat.reduceLeDiff, reduceIte, Nat.reduceEqDiff, Nat.reduceBEq, reduceCtorEq, Nat.reduceAdd, Nat.reduceMul, Nat.reduceSub, Nat.reduceLT, Int.reduceToNat, Int.reduceLT, Int.reduceLE, Int.reduceEq, Int.reduceAdd, Int.reduceNeg, Int.reduceMul, Int.reduceSub]
  refine Does.call new_fn (by simp) ?_
  simp -implicitDefEqProofs (disch := omega) only [mwx, ne_eq, false_implies, implies_true, forall_eq_or_imp, MW.get, ev, evs, argFr, resK, packV, slHK, partsV, partsS, setR, Int.cast_ofNat_Int, Int.natCast_zero, Int.natCast_one, Nat.reduceLeDiff, reduceIte, Nat.reduceEqDiff, Nat.reduceBEq, reduceCtorEq, Nat.reduceAdd, Nat.reduceMul, Nat.reduceSub, Nat.reduceLT, Int.reduceToNat, Int.reduceLT, Int.reduceLE, Int.reduceEq, Int.reduceAdd, Int.reduceNeg, Int.reduceMul, Int.reduceSub]
  refine xl_loop (fun m st => ∃ i : Nat, m + i = l.length ∧ get st.fr 0 = v ∧ get st.fr 1 = .int .u8 f ∧ get st.fr 2 = .str q ∧ get st.fr 7 = .bool true ∧ get st.fr 8 = .vs (plE.vs (putsT (l.take i))) ∧ get st.fr 9 = .vs (plE.vs (putsT ((rot l f).take i))) ∧ get st.fr 10 = .int .i64 i ∧ ∀ j, j < i → (l.getD j []).length ≤ 100) l.length
    ⟨0, by omega, rfl, rfl, rfl, rfl, rfl, rfl, rfl, by omega⟩ ?_
  rintro J hJ m fr H ⟨i, h1, h2, h3, h4, h5, h6, h7, h8, h9⟩
  simp -implicitDefEqProofs (disch := omega) only [h2, h8, lenK_isE hv, mwx, ne_eq, false_implies, implies_true, forall_eq_or_imp, MW.get, ev, evs, argFr, resK, packV, slHK, partsV, partsS, setR, Int.cast_ofNat_Int, Int.natCast_zero, Int.natCast_one, Nat.reduceLeDiff, reduceIte, Nat.reduceEqDiff, Nat.reduceBEq, reduceCtorEq, Nat.reduceAdd, Nat.reduceMul, Nat.reduceSub, Nat.reduceLT, Int.reduceToNat, Int.reduceLT, Int.reduceLE, Int.reduceEq, Int.reduceAdd, Int.reduceNeg, Int.reduceMul, Int.reduceSub]
  refine xc_dec (fun h10 => ?_) fun h10 => ?_
  · have hi : i < l.length := by omega
    have hi0 : (0 : Int) ≤ (i : Int) := by omega
    have hi1 : (i : Int).toNat < l.length := by omega
    have hmod := Nat.mod_lt (i + f) (show 0 < l.length by omega)
    have hw1 : IntKind.i64.wrap (f : Int) = f := wrap64 (by omega) (by omega)
    have hw2 : IntKind.i64.wrap ((i : Int) + (f : Int)) = (i : Int) + f := wrap64 (by omega) (by omega)
    have hn0 : ¬ ((l.length : Int) = 0) := by omega
    have hm := mod_int i f l.length
    have hk0 : (0 : Int) ≤ (((i + f) % l.length : Nat) : Int) := by omega
    have hk1 : ((((i + f) % l.length : Nat) : Int)).toNat < l.length := by omega
    have ht1 := putsT_take hi
    have ht2 := putsT_take (l := rot l f) (i := i) (by rw [rot_length]; exact hi)
    rw [rot_at hi] at ht2
    obtain ⟨hwA, _, _⟩ := putsT_ok (l := l.take i) (by simp; omega)
    obtain ⟨hwB, _, _⟩ := putsT_ok (l := (rot l f).take i) (by rw [List.length_take, rot_length]; omega)
    have hvA := isE_vs (e := plE) (putsT (l.take i))
    have hvB := isE_vs (e := plE) (putsT ((rot l f).take i))
    simp -implicitDefEqProofs (disch := omega) only [h2, h3, h4, h5, h6, h7, h8, lenK_isE hv, hw1, hw2, hn0, hm, iaK_str hv hi0 hi1, mwx, ne_eq, false_implies, implies_true, forall_eq_or_imp, MW.get, ev, evs, argFr, resK, packV, slHK, partsV, partsS, setR, Int.cast_ofNat_Int, Int.natCast_zero, Int.natCast_one, Nat.reduceLeDiff, reduceIte, Nat.reduceEqDiff, Nat.reduceBEq, reduceCtorEq, Nat.reduceAdd, Nat.reduceMul, Nat.reduceSub, Nat.reduceLT, Int.reduceToNat, Int.reduceLT, Int.reduceLE, Int.reduceEq, Int.reduceAdd, Int.reduceNeg, Int.reduceMul, Int.reduceSub]
    refine xc_dec (fun h11 => ?_) fun h11 => ?_
    · simp -implicitDefEqProofs (disch := omega) only [h5, mwx, ne_eq, false_implies, implies_true, forall_eq_or_imp, MW.get, ev, evs, argFr, resK, packV, slHK, partsV, partsS, setR, Int.cast_ofNat_Int, Int.natCast_zero, Int.natCast_one, Nat.reduceLeDiff, reduceIte, Nat.reduceEqDiff, Nat.reduceBEq, reduceCtorEq, Nat.reduceAdd, Nat.reduceMul, Nat.reduceSub, Nat.reduceLT, Int.reduceToNat, Int.reduceLT, Int.reduceLE, Int.reduceEq, Int.reduceAdd, Int.reduceNeg, Int.reduceMul, Int.reduceSub]
      exact frz_bool rfl
    · simp -implicitDefEqProofs (disch := omega) only [h2, h3, h4, h5, h6, h7, h8, iaK_str hv hi0 hi1, mwx, ne_eq, false_implies, implies_true, forall_eq_or_imp, MW.get, ev, evs, argFr, resK, packV, slHK, partsV, partsS, setR, Int.cast_ofNat_Int, Int.natCast_zero, Int.natCast_one, Nat.reduceLeDiff, reduceIte, Nat.reduceEqDiff, Nat.reduceBEq, reduceCtorEq, Nat.reduceAdd, Nat.reduceMul, Nat.reduceSub, Nat.reduceLT, Int.reduceToNat, Int.reduceLT, Int.reduceLE, Int.reduceEq, Int.reduceAdd, Int.reduceNeg, Int.reduceMul, Int.reduceSub]
      refine Does.call (put_fn hvA hwA (l.getD i []) (l.getD i []).length) (fr3 hvA.free (.str _) (.int _ _)) ?_
      simp -implicitDefEqProofs (disch := omega) only [h2, h3, h4, h5, h6, h7, h8, iaK_str hv hk0 hk1, mwx, ne_eq, false_implies, implies_true, forall_eq_or_imp, MW.get, ev, evs, argFr, resK, packV, slHK, partsV, partsS, setR, Int.cast_ofNat_Int, Int.natCast_zero, Int.natCast_one, Nat.reduceLeDiff, reduceIte, Nat.reduceEqDiff, Nat.reduceBEq, reduceCtorEq, Nat.reduceAdd, Nat.reduceMul, Nat.reduceSub, Nat.reduceLT, Int.reduceToNat, Int.reduceLT, Int.reduceLE, Int.reduceEq, Int.reduceAdd, Int.reduceNeg, Int.reduceMul, Int.reduceSub]
      refine Does.call (put_fn hvB hwB (l.getD ((i + f) % l.length) []) (l.getD ((i + f) % l.length) []).length) (fr3 hvB.free (.str _) (.int _ _)) ?_
      simp -implicitDefEqProofs (disch := omega) only [h2, h3, h4, h5, h6, h7, h8, mwx, ne_eq, false_implies, implies_true, forall_eq_or_imp, MW.get, ev, evs, argFr, resK, packV, slHK, partsV, partsS, setR, Int.cast_ofNat_Int, Int.natCast_zero, Int.natCast_one, Nat.reduceLeDiff, reduceIte, Nat.reduceEqDiff, Nat.reduceBEq, reduceCtorEq, Nat.reduceAdd, Nat.reduceMul, Nat.reduceSub, Nat.reduceLT, Int.reduceToNat, Int.reduceLT, Int.reduceLE, Int.reduceEq, Int.reduceAdd, Int.reduceNeg, Int.reduceMul, Int.reduceSub]
      exact ⟨m - 1, by omega, hJ _ _ ⟨i + 1, by omega, h2, h3, h4, h5, by rw [ht1]; rfl, by rw [ht2]; rfl, rfl, fun j hj => by
        by_cases hji : j = i
        · subst hji; omega
        · exact h9 j (by omega)⟩⟩
  · have e1 : l.take i = l := List.take_of_length_le (by omega)
    have e2 : (rot l f).take i = rot l f := List.take_of_length_le (by rw [rot_length]; omega)
    rw [e1] at h6
    rw [e2] at h7
    obtain ⟨hwA, _, hlA⟩ := putsT_ok (l := l) (by omega)
    obtain ⟨hwB, _, hlB⟩ := putsT_ok (l := rot l f) (by rw [rot_length]; omega)
    have hAB : ∀ k, look (putsT l) k = look (putsT (rot l f)) k := fun k => by rw [hlA, hlB]; simp only [rot_mem]
    obtain ⟨hwX, hwY, hee, hXY⟩ := del_same hwA hwB hAB q
    have hvA := isE_vs (e := plE) (putsT l)
    have hvB := isE_vs (e := plE) (putsT (rot l f))
    have h9' : ∀ j, j < l.length → (l.getD j []).length ≤ 1000000 := fun j hj => by have := h9 j (by omega); omega
    simp -implicitDefEqProofs (disch := omega) only [h2, h3, h4, h5, h6, h7, h8, mwx, ne_eq, false_implies, implies_true, forall_eq_or_imp, MW.get, ev, evs, argFr, resK, packV, slHK, partsV, partsS, setR, Int.cast_ofNat_Int, Int.natCast_zero, Int.natCast_one, Nat.reduceLeDiff, reduceIte, Nat.reduceEqDiff, Nat.reduceBEq, reduceCtorEq, Nat.reduceAdd, Nat.reduceMul, Nat.reduceSub, Nat.reduceLT, Int.reduceToNat, Int.reduceLT, Int.reduceLE, Int.reduceEq, Int.reduceAdd, Int.reduceNeg, Int.reduceMul, Int.reduceSub]
    refine Does.call (del_fn hvA hwA hq') (fr2 hvA.free (.str _)) ?_
    simp -implicitDefEqProofs (disch := omega) only [h2, h3, h4, h5, h6, h7, h8, mwx, ne_eq, false_implies, implies_true, forall_eq_or_imp, MW.get, ev, evs, argFr, resK, packV, slHK, partsV, partsS, setR, Int.cast_ofNat_Int, Int.natCast_zero, Int.natCast_one, Nat.reduceLeDiff, reduceIte, Nat.reduceEqDiff, Nat.reduceBEq, reduceCtorEq, Nat.reduceAdd, Nat.reduceMul, Nat.reduceSub, Nat.reduceLT, Int.reduceToNat, Int.reduceLT, Int.reduceLE, Int.reduceEq, Int.reduceAdd, Int.reduceNeg, Int.reduceMul, Int.reduceSub]
    refine Does.call (del_fn hvB hwB hq') (fr2 hvB.free (.str _)) ?_
    rw [hee]
    generalize (delT (putsT l) q).1 = X at *
    generalize (delT (putsT (rot l f)) q).1 = Y at *
    generalize (delT (putsT (rot l f)) q).2 = ec at *
    have hvX := isE_vs (e := plE) X
    have hvY := isE_vs (e := plE) Y
    simp -implicitDefEqProofs (disch := omega) only [h2, h3, h4, h5, h6, h7, h8, mwx, ne_eq, false_implies, implies_true, forall_eq_or_imp, MW.get, ev, evs, argFr, resK, packV, slHK, partsV, partsS, setR, Int.cast_ofNat_Int, Int.natCast_zero, Int.natCast_one, Nat.reduceLeDiff, reduceIte, Nat.reduceEqDiff, Nat.reduceBEq, reduceCtorEq, Nat.reduceAdd, Nat.reduceMul, Nat.reduceSub, Nat.reduceLT, Int.reduceToNat, Int.reduceLT, Int.reduceLE, Int.reduceEq, Int.reduceAdd, Int.reduceNeg, Int.reduceMul, Int.reduceSub]
    refine xl_loop (fun m st => ∃ i : Nat, m + i = l.length ∧ get st.fr 0 = v ∧ get st.fr 7 = .bool true ∧ get st.fr 16 = .vs (plE.vs X) ∧ get st.fr 17 = .int .i64 ec ∧ get st.fr 18 = .vs (plE.vs Y) ∧ get st.fr 19 = .int .i64 ec ∧ get st.fr 20 = .int .i64 i) l.length
      ⟨0, by omega, h2, h5, rfl, rfl, rfl, rfl, rfl⟩ ?_
    rintro J hJ m fr H ⟨i, h1, h2, h3, h4, h5, h6, h7, h8⟩
    simp -implicitDefEqProofs (disch := omega) only [h2, h3, h4, h5, h6, h7, h8, lenK_isE hv, mwx, ne_eq, false_implies, implies_true, forall_eq_or_imp, MW.get, ev, evs, argFr, resK, packV, slHK, partsV, partsS, setR, Int.cast_ofNat_Int, Int.natCast_zero, Int.natCast_one, Nat.reduceLeDiff, reduceIte, Nat.reduceEqDiff, Nat.reduceBEq, reduceCtorEq, Nat.reduceAdd, Nat.reduceMul, Nat.reduceSub, Nat.reduceLT, Int.reduceToNat, Int.reduceLT, Int.reduceLE, Int.reduceEq, Int.reduceAdd, Int.reduceNeg, Int.reduceMul, Int.reduceSub]
    refine xc_dec (fun h10 => ?_) fun h10 => ?_
    · have hi : i < l.length := by omega
      have hi0 : (0 : Int) ≤ (i : Int) := by omega
      have hi1 : (i : Int).toNat < l.length := by omega
      have hg : getT Y (l.getD i []) = getT X (l.getD i []) := by unfold getT; rw [hXY]
      simp -implicitDefEqProofs (disch := omega) only [h2, h3, h4, h5, h6, h7, h8, iaK_str hv hi0 hi1, mwx, ne_eq, false_implies, implies_true, forall_eq_or_imp, MW.get, ev, evs, argFr, resK, packV, slHK, partsV, partsS, setR, Int.cast_ofNat_Int, Int.natCast_zero, Int.natCast_one, Nat.reduceLeDiff, reduceIte, Nat.reduceEqDiff, Nat.reduceBEq, reduceCtorEq, Nat.reduceAdd, Nat.reduceMul, Nat.reduceSub, Nat.reduceLT, Int.reduceToNat, Int.reduceLT, Int.reduceLE, Int.reduceEq, Int.reduceAdd, Int.reduceNeg, Int.reduceMul, Int.reduceSub]
      refine Does.call (get_fn hvX hwX (h9' i hi)) (fr2 hvX.free (.str _)) ?_
      simp -implicitDefEqProofs (disch := omega) only [h2, h3, h4, h5, h6, h7, h8, iaK_str hv hi0 hi1, mwx, ne_eq, false_implies, implies_true, forall_eq_or_imp, MW.get, ev, evs, argFr, resK, packV, slHK, partsV, partsS, setR, Int.cast_ofNat_Int, Int.natCast_zero, Int.natCast_one, Nat.reduceLeDiff, reduceIte, Nat.reduceEqDiff, Nat.reduceBEq, reduceCtorEq, Nat.reduceAdd, Nat.reduceMul, Nat.reduceSub, Nat.reduceLT, Int.reduceToNat, Int.reduceLT, Int.reduceLE, Int.reduceEq, Int.reduceAdd, Int.reduceNeg, Int.reduceMul, Int.reduceSub]
      refine Does.call (get_fn hvY hwY (h9' i hi)) (fr2 hvY.free (.str _)) ?_
      rw [hg]
      have hee2 : ((getT X (l.getD i [])).1 = (getT X (l.getD i [])).1) = True := by simp
      simp -implicitDefEqProofs (disch := omega) only [h2, h3, h4, h5, h6, h7, h8, hee2, beq_self_eq_true, mwx, ne_eq, false_implies, implies_true, forall_eq_or_imp, MW.get, ev, evs, argFr, resK, packV, slHK, partsV, partsS, setR, Int.cast_ofNat_Int, Int.natCast_zero, Int.natCast_one, Nat.reduceLeDiff, reduceIte, Nat.reduceEqDiff, Nat.reduceBEq, reduceCtorEq, Nat.reduceAdd, Nat.reduceMul, Nat.reduceSub, Nat.reduceLT, Int.reduceToNat, Int.reduceLT, Int.reduceLE, Int.reduceEq, Int.reduceAdd, Int.reduceNeg, Int.reduceMul, Int.reduceSub]
      exact ⟨m - 1, by omega, hJ _ _ ⟨i + 1, by omega, h2, h3, h4, h5, h6, h7, rfl⟩⟩
    · have hee2 : (ec = ec) = True := by simp
      simp -implicitDefEqProofs (disch := omega) only [h2, h3, h4, h5, h6, h7, h8, hee2, mwx, ne_eq, false_implies, implies_true, forall_eq_or_imp, MW.get, ev, evs, argFr, resK, packV, slHK, partsV, partsS, setR, Int.cast_ofNat_Int, Int.natCast_zero, Int.natCast_one, Nat.reduceLeDiff, reduceIte, Nat.reduceEqDiff, Nat.reduceBEq, reduceCtorEq, Nat.reduceAdd, Nat.reduceMul, Nat.reduceSub, Nat.reduceLT, Int.reduceToNat, Int.reduceLT, Int.reduceLE, Int.reduceEq, Int.reduceAdd, Int.reduceNeg, Int.reduceMul, Int.reduceSub]
      obtain ⟨r, g1, g2⟩ := keys_fn hvX hwX
      obtain ⟨r', g1', g2'⟩ := keys_fn hvY hwY
      rw [← keysT_same hwX hwY hXY] at g1'
      refine Does.call g2 (fr1 hvX.free) ?_
      simp -implicitDefEqProofs (disch := omega) only [h2, h3, h4, h5, h6, h7, h8, mwx, ne_eq, false_implies, implies_true, forall_eq_or_imp, MW.get, ev, evs, argFr, resK, packV, slHK, partsV, partsS, setR, Int.cast_ofNat_Int, Int.natCast_zero, Int.natCast_one, Nat.reduceLeDiff, reduceIte, Nat.reduceEqDiff, Nat.reduceBEq, reduceCtorEq, Nat.reduceAdd, Nat.reduceMul, Nat.reduceSub, Nat.reduceLT, Int.reduceToNat, Int.reduceLT, Int.reduceLE, Int.reduceEq, Int.reduceAdd, Int.reduceNeg, Int.reduceMul, Int.reduceSub]
      refine Does.call g2' (fr1 hvY.free) ?_
      simp -implicitDefEqProofs (disch := omega) only [h2, h3, h4, h5, h6, h7, h8, mwx, ne_eq, false_implies, implies_true, forall_eq_or_imp, MW.get, ev, evs, argFr, resK, packV, slHK, partsV, partsS, setR, Int.cast_ofNat_Int, Int.natCast_zero, Int.natCast_one, Nat.reduceLeDiff, reduceIte, Nat.reduceEqDiff, Nat.reduceBEq, reduceCtorEq, Nat.reduceAdd, Nat.reduceMul, Nat.reduceSub, Nat.reduceLT, Int.reduceToNat, Int.reduceLT, Int.reduceLE, Int.reduceEq, Int.reduceAdd, Int.reduceNeg, Int.reduceMul, Int.reduceSub]
      refine Does.call (same7_fn g1 g1' (by rw [keysT_length]; have := hwX.cnt; omega)) (fr2 g1.free g1'.free) ?_
      simp -implicitDefEqProofs (disch := omega) only [mwx, ne_eq, false_implies, implies_true, forall_eq_or_imp, MW.get, ev, evs, argFr, resK, packV, slHK, partsV, partsS, setR, Int.cast_ofNat_Int, Int.natCast_zero, Int.natCast_one, Nat.reduceLeDiff, reduceIte, Nat.reduceEqDiff, Nat.reduceBEq, reduceCtorEq, Nat.reduceAdd, Nat.reduceMul, Nat.reduceSub, Nat.reduceLT, Int.reduceToNat, Int.reduceLT, Int.reduceLE, Int.reduceEq, Int.reduceAdd, Int.reduceNeg, Int.reduceMul, Int.reduceSub]
      exact frz_bool rfl

end Go.Proofs.Ytgilodbgleogmaa

/- Table (chapter 13): TableFull. -/
namespace Go.Proofs.Ytgilodbgleogmaa
open Go Go.MW
set_option linter.unusedSimpArgs false
set_option linter.unusedVariables false
set_option maxRecDepth 8000

/-- The keys that are put. -/
def bs (i : Nat) : List UInt8 := [UInt8.ofNat (97 + i / 10), UInt8.ofNat (48 + i % 10)]
theorem bs_ok (i : Nat) : keyOK (bs i) = true := rfl
theorem u8_of {n : Nat} (h : n < 256) : (UInt8.ofNat n).toNat = n := by simp [UInt8.toNat_ofNat]; omega
theorem bs_inj {i j : Nat} (hi : i < 120) (hj : j < 120) (h : bs i = bs j) : i = j := by
  unfold bs at h
  injection h with h1 h2
  injection h2 with h2 _
  have h3 := congrArg UInt8.toNat h1
  have h4 := congrArg UInt8.toNat h2
  rw [u8_of (by omega), u8_of (by omega)] at h3 h4
  omega

def fullT : Nat → List Pc
  | 0 => t0
  | i + 1 => (putT (fullT i) (bs i) i).1

theorem fullT_ok : ∀ i, i ≤ 96 → WF (fullT i) ∧ full (fullT i) = i ∧ (∀ j, j < i → look (fullT i) (bs j) = some (j : Int)) ∧ ∀ j, i ≤ j → j < 120 → look (fullT i) (bs j) = none
  | 0, _ => ⟨t0_wf, t0_full, fun j hj => by omega, fun j _ _ => t0_look _⟩
  | i + 1, h => by
    obtain ⟨h1, h2, h3, h4⟩ := fullT_ok i (by omega)
    obtain ⟨_, g2, g3, g4⟩ := put_ok h1 (bs_ok i) (.inr (by omega)) i
    refine ⟨g2, ?_, fun j hj => ?_, fun j hj hj' => ?_⟩
    · show full (putT (fullT i) (bs i) i).1 = _
      rw [g4, h4 i (Nat.le_refl _) (by omega), if_pos rfl, h2]
    · show look (putT (fullT i) (bs i) i).1 _ = _
      rw [g3]
      by_cases hji : j = i
      · subst hji; rw [if_pos rfl]
      · rw [if_neg (fun e => hji (bs_inj (by omega) (by omega) e))]; exact h3 j (by omega)
    · show look (putT (fullT i) (bs i) i).1 _ = _
      rw [g3, if_neg (fun e => by have := bs_inj (by omega) (by omega) e; omega)]
      exact h4 j (by omega) hj'

theorem fullT_ge : ∀ d, d ≤ 24 → fullT (96 + d) = fullT 96
  | 0, _ => rfl
  | d + 1, h => by
    have ih := fullT_ge d (by omega)
    obtain ⟨h1, h2, h3, h4⟩ := fullT_ok 96 (Nat.le_refl _)
    show (putT (fullT (96 + d)) (bs (96 + d)) ((96 + d : Nat) : Int)).1 = _
    rw [ih, put_full (bs_ok _) (h4 _ (by omega) (by omega)) (by omega)]

theorem fullT_at {i : Nat} (hi : i ≤ 120) : fullT i = fullT (min i 96) := by
  rcases Nat.le_total i 96 with h | h
  · rw [Nat.min_eq_left h]
  · rw [Nat.min_eq_right h]
    have := fullT_ge (i - 96) (by omega)
    rwa [show 96 + (i - 96) = i by omega] at this
theorem fullT_lo {i : Nat} (hi : i < 96) : (putT (fullT i) (bs i) i).2 = 0 := by
  obtain ⟨h1, h2, h3, h4⟩ := fullT_ok i (by omega)
  exact (put_ok h1 (bs_ok i) (.inr (by omega)) i).1
theorem fullT_hi {i : Nat} (hi : 96 ≤ i) (hi' : i < 120) : putT (fullT i) (bs i) i = (fullT i, 110) := by
  obtain ⟨h1, h2, h3, h4⟩ := fullT_ok 96 (Nat.le_refl _)
  have e := fullT_at (i := i) (by omega)
  rw [Nat.min_eq_right hi] at e
  rw [e]
  exact put_full (bs_ok i) (h4 i hi hi') (by omega) _

theorem bytesK_bs {i : Nat} (hi : i < 120) {K : V → Prop} : bytesK [.int .u8 ((97 + i / 10 : Nat) : Int), .int .u8 ((48 + i % 10 : Nat) : Int)] K = K (.str (bs i)) := by
  have e : [V.int .u8 ((97 + i / 10 : Nat) : Int), .int .u8 ((48 + i % 10 : Nat) : Int)] = (bs i).map u8V := by
    simp only [bs, List.map_cons, List.map_nil, u8V]
    rw [u8_of (by omega), u8_of (by omega)]
  apply propext
  unfold bytesK
  constructor
  · rintro ⟨s, h1, h2⟩
    rw [e] at h1
    have : bs i = s := by
      have hinj : ∀ a b : UInt8, u8V a = u8V b → a = b := fun a b h => by
        unfold u8V at h
        injection h with _ h
        exact UInt8.toNat_inj.1 (by omega)
      clear h2 e
      generalize bs i = l at h1
      induction l generalizing s with
      | nil => cases s with
        | nil => rfl
        | cons a s => cases h1
      | cons b l ih => cases s with
        | nil => cases h1
        | cons a s =>
          simp only [List.map_cons, List.cons.injEq] at h1
          rw [hinj _ _ h1.1, ih s h1.2]
    rw [this]; exact h2
  · intro h; exact ⟨bs i, e, h⟩

theorem fullL_fn (n a : Nat) (hn : n < 256) (ha : a < 256) : Does Try.prog G0 true 5 [.int .u8 n, .int .u8 a] (.bool true) := by
  refine Does.intro mixed comp5 ?_
  unfold c5
  simp -implicitDefEqProofs (disch := omega) only [mwx, ne_eq, false_implies, implies_true, forall_eq_or_imp, MW.get, ev, evs, argFr, resK, packV, slHK, partsV, partsS, setR, Int.cast_ofNat_Int, Int.natCast_zero, Int.natCast_one, Nat.reduceLeDiff, reduceIte, Nat.reduceEqDiff, Nat.reduceBEq, reduceCtorEq, Nat.reduceAdd, Nat.reduceMul, Nat.reduceSub, Nat.reduceLT, Int.reduceToNat, Int.reduceLT, Int.reduceLE, Int.reduceEq, Int.reduceAdd, Int.reduceNeg, Int.reduceMul, Int.reduceSub]
  refine Does.call awake_fn (by simp) ?_
  simp -implicitDefEqProofs (disch := omega) only [mwx, ne_eq, false_implies, implies_true, forall_eq_or_imp, MW.get, ev, evs, argFr, resK, packV, slHK, partsV, partsS, setR, Int.cast_ofNat_Int, Int.natCast_zero, Int.natCast_one, Nat.reduceLeDiff, reduceIte, Nat.reduceEqDiff, Nat.reduceBEq, reduceCtorEq, Nat.reduceAdd, Nat.reduceMul, Nat.reduceSub, Nat.reduceLT, Int.reduceToNat, Int.reduceLT, Int.reduceLE, Int.reduceEq, Int.reduceAdd, Int.reduceNeg, Int.reduceMul, Int.reduceSub]
  refine Does.call new_fn (by simp) ?_
  obtain ⟨N, hN⟩ : ∃ N, N = n % 120 := ⟨_, rfl⟩
  have hN1 : N < 120 := by omega
  have r1 : (n : Int).tmod 120 = (N : Int) := by rw [Int.tmod_eq_emod_of_nonneg (by omega)]; omega
  have r2 : IntKind.i64.wrap (N : Int) = N := wrap64 (by omega) (by omega)
  have r3 : ¬ (120 : Int) = 0 := by decide
  have q3 : ∀ i : Nat, i < 120 → IntKind.u8.wrap (97 + ((i / 10 : Nat) : Int)) = ((97 + i / 10 : Nat) : Int) := fun i hi => by
    rw [wrap_of (by show (0 : Int) ≤ _; omega) (by show _ ≤ (255 : Int); omega)]; omega
  have q4 : ∀ i : Nat, i < 120 → IntKind.u8.wrap (48 + ((i % 10 : Nat) : Int)) = ((48 + i % 10 : Nat) : Int) := fun i hi => by
    rw [wrap_of (by show (0 : Int) ≤ _; omega) (by show _ ≤ (255 : Int); omega)]; omega
  have q1 : ∀ i : Nat, (i : Int).tdiv 10 = ((i / 10 : Nat) : Int) := fun i => by rw [Int.tdiv_eq_ediv_of_nonneg (by omega)]; omega
  have q2 : ∀ i : Nat, (i : Int).tmod 10 = ((i % 10 : Nat) : Int) := fun i => by rw [Int.tmod_eq_emod_of_nonneg (by omega)]; omega
  have q5 : ¬ (10 : Int) = 0 := by decide
  simp -implicitDefEqProofs (disch := omega) only [r1, r2, r3, mwx, ne_eq, false_implies, implies_true, forall_eq_or_imp, MW.get, ev, evs, argFr, resK, packV, slHK, partsV, partsS, setR, Int.cast_ofNat_Int, Int.natCast_zero, Int.natCast_one, Nat.reduceLeDiff, reduceIte, Nat.reduceEqDiff, Nat.reduceBEq, reduceCtorEq, Nat.reduceAdd, Nat.reduceMul, Nat.reduceSub, Nat.reduceLT, Int.reduceToNat, Int.reduceLT, Int.reduceLE, Int.reduceEq, Int.reduceAdd, Int.reduceNeg, Int.reduceMul, Int.reduceSub]
  refine xl_loop (fun m st => ∃ i : Nat, m + i = N ∧ get st.fr 1 = .int .u8 a ∧ get st.fr 5 = .bool true ∧ get st.fr 6 = .vs (plE.vs (fullT i)) ∧ get st.fr 7 = .int .i64 N ∧ get st.fr 8 = .int .i64 i) N ⟨0, by omega, rfl, rfl, rfl, rfl, rfl⟩ ?_
  rintro J hJ m fr H ⟨i, h1, h2, h3, h4, h5, h6⟩
  simp -implicitDefEqProofs (disch := omega) only [h2, h3, h4, h5, h6, mwx, ne_eq, false_implies, implies_true, forall_eq_or_imp, MW.get, ev, evs, argFr, resK, packV, slHK, partsV, partsS, setR, Int.cast_ofNat_Int, Int.natCast_zero, Int.natCast_one, Nat.reduceLeDiff, reduceIte, Nat.reduceEqDiff, Nat.reduceBEq, reduceCtorEq, Nat.reduceAdd, Nat.reduceMul, Nat.reduceSub, Nat.reduceLT, Int.reduceToNat, Int.reduceLT, Int.reduceLE, Int.reduceEq, Int.reduceAdd, Int.reduceNeg, Int.reduceMul, Int.reduceSub]
  have hT : WF (fullT i) := by rw [fullT_at (by omega)]; exact (fullT_ok (min i 96) (by omega)).1
  have hvT := isE_vs (e := plE) (fullT i)
  refine xc_dec (fun h7 => ?_) fun h7 => ?_
  · have hi : i < 120 := by omega
    have q3' := q3 i hi
    have q4' := q4 i hi
    have q1' := q1 i
    have q2' := q2 i
    have hb := @bytesK_bs i hi
    simp -implicitDefEqProofs (disch := omega) only [h2, h3, h4, h5, h6, q1', q2', q3', q4', q5, hb, mwx, ne_eq, false_implies, implies_true, forall_eq_or_imp, MW.get, ev, evs, argFr, resK, packV, slHK, partsV, partsS, setR, Int.cast_ofNat_Int, Int.natCast_zero, Int.natCast_one, Nat.reduceLeDiff, reduceIte, Nat.reduceEqDiff, Nat.reduceBEq, reduceCtorEq, Nat.reduceAdd, Nat.reduceMul, Nat.reduceSub, Nat.reduceLT, Int.reduceToNat, Int.reduceLT, Int.reduceLE, Int.reduceEq, Int.reduceAdd, Int.reduceNeg, Int.reduceMul, Int.reduceSub]
    refine Does.call (put_fn hvT hT (bs i) i) (fr3 hvT.free (.str _) (.int _ _)) ?_
    by_cases h8 : i < 96
    · have e1 := fullT_lo h8
      have e2 : (i : Int) < 96 := by omega
      have e3 : (putT (fullT i) (bs i) i).1 = fullT (i + 1) := rfl
      have e4 : ¬ (96 : Int) ≤ (i : Int) := by omega
      rw [e1, e3]
      simp -implicitDefEqProofs (disch := omega) only [h2, h3, h4, h5, h6, e2, e4, beq_self_eq_true, mwx, ne_eq, false_implies, implies_true, forall_eq_or_imp, MW.get, ev, evs, argFr, resK, packV, slHK, partsV, partsS, setR, Int.cast_ofNat_Int, Int.natCast_zero, Int.natCast_one, Nat.reduceLeDiff, reduceIte, Nat.reduceEqDiff, Nat.reduceBEq, reduceCtorEq, Nat.reduceAdd, Nat.reduceMul, Nat.reduceSub, Nat.reduceLT, Int.reduceToNat, Int.reduceLT, Int.reduceLE, Int.reduceEq, Int.reduceAdd, Int.reduceNeg, Int.reduceMul, Int.reduceSub]
      exact ⟨m - 1, by omega, hJ _ _ ⟨i + 1, by omega, h2, h3, rfl, h5, rfl⟩⟩
    · have e1 := fullT_hi (by omega) hi
      have e2 : ¬ (i : Int) < 96 := by omega
      have e3 : fullT i = fullT (i + 1) := by
        have : fullT (i + 1) = (putT (fullT i) (bs i) i).1 := rfl
        rw [this, e1]
      have e4 : ¬ (110 : Int) = 0 := by decide
      have e5 : (96 : Int) ≤ (i : Int) := by omega
      rw [e1]
      simp -implicitDefEqProofs (disch := omega) only [h2, h3, h4, h5, h6, e2, e4, e5, beq_self_eq_true, mwx, ne_eq, false_implies, implies_true, forall_eq_or_imp, MW.get, ev, evs, argFr, resK, packV, slHK, partsV, partsS, setR, Int.cast_ofNat_Int, Int.natCast_zero, Int.natCast_one, Nat.reduceLeDiff, reduceIte, Nat.reduceEqDiff, Nat.reduceBEq, reduceCtorEq, Nat.reduceAdd, Nat.reduceMul, Nat.reduceSub, Nat.reduceLT, Int.reduceToNat, Int.reduceLT, Int.reduceLE, Int.reduceEq, Int.reduceAdd, Int.reduceNeg, Int.reduceMul, Int.reduceSub]
      refine Does.call (same_fn hvT hvT hT.len) (fr2 hvT.free hvT.free) ?_
      simp -implicitDefEqProofs (disch := omega) only [h2, h3, h4, h5, h6, mwx, ne_eq, false_implies, implies_true, forall_eq_or_imp, MW.get, ev, evs, argFr, resK, packV, slHK, partsV, partsS, setR, Int.cast_ofNat_Int, Int.natCast_zero, Int.natCast_one, Nat.reduceLeDiff, reduceIte, Nat.reduceEqDiff, Nat.reduceBEq, reduceCtorEq, Nat.reduceAdd, Nat.reduceMul, Nat.reduceSub, Nat.reduceLT, Int.reduceToNat, Int.reduceLT, Int.reduceLE, Int.reduceEq, Int.reduceAdd, Int.reduceNeg, Int.reduceMul, Int.reduceSub]
      exact ⟨m - 1, by omega, hJ _ _ ⟨i + 1, by omega, h2, h3, by rw [← e3]; rfl, h5, rfl⟩⟩
  · obtain rfl : i = N := by omega
    by_cases h0 : (i : Int) = 0
    · simp -implicitDefEqProofs (disch := omega) only [h2, h3, h4, h5, h6, h0, mwx, ne_eq, false_implies, implies_true, forall_eq_or_imp, MW.get, ev, evs, argFr, resK, packV, slHK, partsV, partsS, setR, Int.cast_ofNat_Int, Int.natCast_zero, Int.natCast_one, Nat.reduceLeDiff, reduceIte, Nat.reduceEqDiff, Nat.reduceBEq, reduceCtorEq, Nat.reduceAdd, Nat.reduceMul, Nat.reduceSub, Nat.reduceLT, Int.reduceToNat, Int.reduceLT, Int.reduceLE, Int.reduceEq, Int.reduceAdd, Int.reduceNeg, Int.reduceMul, Int.reduceSub]
      exact frz_bool rfl
    obtain ⟨M, hM⟩ : ∃ M, M = min i 96 := ⟨_, rfl⟩
    have hM0 : 0 < M := by omega
    have hM1 : M ≤ 96 := by omega
    have hmin : (if (96 : Int) < (i : Int) then 96 else (i : Int)) = (M : Int) := by split <;> omega
    obtain ⟨k, hk⟩ : ∃ k, k = a % M := ⟨_, rfl⟩
    have hkM : k < M := by rw [hk]; exact Nat.mod_lt _ hM0
    have r4 : (a : Int).tmod (M : Int) = (k : Int) := by rw [Int.tmod_eq_emod_of_nonneg (by omega), hk]; simp
    have r5 : ¬ (M : Int) = 0 := by omega
    have r6 : IntKind.i64.wrap (a : Int) = a := wrap64 (by omega) (by omega)
    have q3' := q3 k (by omega)
    have q4' := q4 k (by omega)
    have q1' := q1 k
    have q2' := q2 k
    have hb := @bytesK_bs k (by omega)
    have hT2 := fullT_at (i := i) (by omega)
    rw [← hM] at hT2
    obtain ⟨g1, g2, g3, g4⟩ := fullT_ok M hM1
    have hlk := g3 k hkM
    rw [← hT2] at g1 g2 hlk
    obtain ⟨p1, p2, p3, p4⟩ := put_ok hT (bs_ok k) (.inl (by rw [hlk]; simp)) 1000
    simp -implicitDefEqProofs (disch := omega) only [h2, h3, h4, h5, h6, h0, hmin, r4, r5, r6, q1', q2', q3', q4', q5, hb, mwx, ne_eq, false_implies, implies_true, forall_eq_or_imp, MW.get, ev, evs, argFr, resK, packV, slHK, partsV, partsS, setR, Int.cast_ofNat_Int, Int.natCast_zero, Int.natCast_one, Nat.reduceLeDiff, reduceIte, Nat.reduceEqDiff, Nat.reduceBEq, reduceCtorEq, Nat.reduceAdd, Nat.reduceMul, Nat.reduceSub, Nat.reduceLT, Int.reduceToNat, Int.reduceLT, Int.reduceLE, Int.reduceEq, Int.reduceAdd, Int.reduceNeg, Int.reduceMul, Int.reduceSub]
    refine Does.call (put_fn hvT hT (bs k) 1000) (fr3 hvT.free (.str _) (.int _ _)) ?_
    rw [p1]
    rw [hlk, if_neg (by simp), Nat.add_zero, g2] at p4
    have p5 := p3 (bs k)
    rw [if_pos rfl] at p5
    generalize (putT (fullT i) (bs k) 1000).1 = U at *
    have hvU := isE_vs (e := plE) U
    have hbk : (bs k).length ≤ 1000000 := by show 2 ≤ 1000000; omega
    have e1 : getT U (bs k) = (1000, true) := by unfold getT; rw [p5]
    have hgb : ∀ a b : Blk, getB (H ++ [a, b]) (H ++ [a]).length = b := fun a b => by
      have := getB_new (H ++ [a]) b
      rwa [List.append_assoc] at this
    simp -implicitDefEqProofs (disch := omega) only [h2, h3, h4, h5, h6, h0, hmin, r4, r5, r6, q1', q2', q3', q4', q5, hb, hgb, mwx, ne_eq, false_implies, implies_true, forall_eq_or_imp, MW.get, ev, evs, argFr, resK, packV, slHK, partsV, partsS, setR, Int.cast_ofNat_Int, Int.natCast_zero, Int.natCast_one, Nat.reduceLeDiff, reduceIte, Nat.reduceEqDiff, Nat.reduceBEq, reduceCtorEq, Nat.reduceAdd, Nat.reduceMul, Nat.reduceSub, Nat.reduceLT, Int.reduceToNat, Int.reduceLT, Int.reduceLE, Int.reduceEq, Int.reduceAdd, Int.reduceNeg, Int.reduceMul, Int.reduceSub]
    refine Does.call (get_fn hvU p2 hbk) (fr2 hvU.free (.str _)) ?_
    rw [e1]
    simp -implicitDefEqProofs (disch := omega) only [h2, h3, h4, h5, h6, mwx, ne_eq, false_implies, implies_true, forall_eq_or_imp, MW.get, ev, evs, argFr, resK, packV, slHK, partsV, partsS, setR, Int.cast_ofNat_Int, Int.natCast_zero, Int.natCast_one, Nat.reduceLeDiff, reduceIte, Nat.reduceEqDiff, Nat.reduceBEq, reduceCtorEq, Nat.reduceAdd, Nat.reduceMul, Nat.reduceSub, Nat.reduceLT, Int.reduceToNat, Int.reduceLT, Int.reduceLE, Int.reduceEq, Int.reduceAdd, Int.reduceNeg, Int.reduceMul, Int.reduceSub]
    obtain ⟨r, hr, hkeys⟩ := keys_fn hvU p2
    have hkl := keysT_length U
    rw [p4] at hkl
    refine Does.call hkeys (fr1 hvU.free) ?_
    have e2 : ((M : Int) = (M : Int)) = True := by simp
    simp -implicitDefEqProofs (disch := omega) only [h2, h3, h4, h5, h6, lenK_isE hr, hkl, hmin, e2, mwx, ne_eq, false_implies, implies_true, forall_eq_or_imp, MW.get, ev, evs, argFr, resK, packV, slHK, partsV, partsS, setR, Int.cast_ofNat_Int, Int.natCast_zero, Int.natCast_one, Nat.reduceLeDiff, reduceIte, Nat.reduceEqDiff, Nat.reduceBEq, reduceCtorEq, Nat.reduceAdd, Nat.reduceMul, Nat.reduceSub, Nat.reduceLT, Int.reduceToNat, Int.reduceLT, Int.reduceLE, Int.reduceEq, Int.reduceAdd, Int.reduceNeg, Int.reduceMul, Int.reduceSub]
    exact frz_bool rfl

end Go.Proofs.Ytgilodbgleogmaa

/- Four arguments; a text. -/
namespace Go.Proofs.Ytgilodbgleogmaa
open Go Go.MW Go.ChangeShapes Go.WideShapes Go.ChangeAt Go.RowKit
set_option linter.unusedVariables false
set_option linter.unusedSimpArgs false

theorem typ_four {P : Program} {M : Nat} {t u s r : TypeId} {Vs : List V} (h : TypAll P M [t, u, s, r] Vs) : ∃ v x y z, Vs = [v, x, y, z] ∧ Typ P M t v ∧ Typ P M u x ∧ Typ P M s y ∧ Typ P M r z := by
  rcases Vs with _ | ⟨v, Vs⟩
  · exact h.elim
  · obtain ⟨x, y, z, rfl, hx, hy, hz⟩ := typ_three h.2
    exact ⟨v, x, y, z, rfl, h.1, hx, hy, hz⟩
theorem typ_string {M : Nat} {v : V} (h : Typ Try.prog M 9 v) : ∃ s, v = .str s ∧ s.length ≤ M := by
  obtain ⟨n, cs, rfl, h⟩ := h
  obtain ⟨s, rfl, hs⟩ := typN_str Try.underlying9 h
  exact ⟨s, by simp [mkV, Try.underlying9], hs⟩


end Go.Proofs.Ytgilodbgleogmaa

/- Lists of texts as arguments. -/
namespace Go.Proofs.Ytgilodbgleogmaa
open Go Go.MW Go.ChangeShapes Go.WideShapes Go.ChangeAt Go.RowKit
set_option linter.unusedVariables false
set_option linter.unusedSimpArgs false

theorem typ_strs {M : Nat} {v : V} (h : Typ Try.prog M 43 v) : ∃ l, IsE strE v l ∧ l.length ≤ M := by
  obtain ⟨l, h1, _, h2⟩ := typ_list (e := strE) (Q := fun _ => True) Try.underlying43 (fun _ _ h => by
    obtain ⟨s, rfl, _⟩ := typN_str Try.underlying9 h
    exact ⟨s, by simp [mkV, Try.underlying9, strE], trivial⟩) h
  exact ⟨l, h1, h2⟩

end Go.Proofs.Ytgilodbgleogmaa

/- Table: the arguments' types. -/
namespace Go.Proofs.Ytgilodbgleogmaa
open Go Go.MW Go.ChangeShapes Go.WideShapes Go.ChangeAt Go.RowKit
set_option linter.unusedVariables false
set_option linter.unusedSimpArgs false

theorem typN_step {M n : Nat} {cs : List V} (h : TypN Try.prog M n 31 cs) : ∃ a, mkV Try.prog 31 cs = stpE.f a ∧ True := by
  obtain ⟨m, h⟩ := typN_fs Try.underlying31 h
  obtain ⟨a, b, rfl, h1, h⟩ := typFs_cons h
  obtain ⟨c, d, rfl, h2, h⟩ := typFs_cons h
  obtain ⟨e, g, rfl, h3, h⟩ := typFs_cons h
  obtain rfl := typFs_nil h
  obtain ⟨x, rfl⟩ := typN_bool Try.underlying4 h1
  obtain ⟨y, rfl, hy⟩ := typN_str Try.underlying9 h2
  obtain ⟨z, rfl, hz⟩ := typN_int Try.underlying3 h3
  exact ⟨(x, y, z), by simp [mkV, Try.underlying31, stpE], trivial⟩
theorem typ_steps {M : Nat} {v : V} (h : Typ Try.prog M 22 v) : ∃ l, IsE stpE v l ∧ l.length ≤ M := by
  obtain ⟨l, h1, _, h2⟩ := typ_list (e := stpE) (Q := fun _ => True) Try.underlying22 (fun _ _ h => typN_step h) h
  exact ⟨l, h1, h2⟩

end Go.Proofs.Ytgilodbgleogmaa

