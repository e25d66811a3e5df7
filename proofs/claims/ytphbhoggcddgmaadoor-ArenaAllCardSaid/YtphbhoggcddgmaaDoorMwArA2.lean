/- Arena: through any acts just the slots are taken that were, and not given back (the walk). -/
import Derived.Test.YtphbhoggcddgmaaDoorMwArA
namespace Go.Proofs.YtphbhoggcddgmaaDoor
open Go Go.MW
set_option linter.unusedSimpArgs false
set_option linter.unusedVariables false

def actE : El (Bool × Int) where
  sz := 2
  f p := .agg [.bool p.1, .int .i64 p.2]
  d := (false, 0)
  im := false
  good p := ⟨rfl, by simp [V.cells, V.one]⟩
  free p j hj := by
    have : j = 0 ∨ j = 1 := by omega
    rcases this with rfl | rfl
    · exact .bool _
    · exact .int _ _
def slotE : El (Int × Int) where
  sz := 2
  f p := .agg [.int .i64 p.1, .int .i64 p.2]
  d := (0, 0)
  im := false
  good p := ⟨rfl, by simp [V.cells, V.one]⟩
  free p j hj := by
    have : j = 0 ∨ j = 1 := by omega
    rcases this with rfl | rfl <;> exact .int _ _
theorem iaK_act {v : V} {l : List (Bool × Int)} (h : IsE actE v l) {H : List Blk} {k : IntKind} {n : Int} {K : V → Prop} (h0 : 0 ≤ n) (hn : n.toNat < l.length) : iaK H 2 v (.int k n) K = K (.vp [.bool (l.getD n.toNat (false, 0)).1, .int .i64 (l.getD n.toNat (false, 0)).2]) :=
  iaK_isE h (e := actE) rfl h0 hn

/-- What is left when one is taken out. -/
theorem vs_erase {α : Type} (e : El α) : ∀ (l : List α) (k : Nat), ([] ++ (e.vs l).take k) ++ (e.vs l).drop (k + 1) = e.vs (l.eraseIdx k)
  | [], k => by simp [El.vs]
  | a :: l, 0 => by simp [El.vs]
  | a :: l, k + 1 => by
    have := vs_erase e l k
    simp only [El.vs, List.nil_append] at this
    simp [El.vs, this]

theorem byts_mono {l : List SC} : 0 ≤ isum (l.map fun p => byts p.2) ∧ isum (l.map fun p => byts p.2) ≤ 64 * l.length := isum_le (fun p => byts_le p.2) l
theorem sc_at {ss : List SC} {i : Nat} (h : i < ss.length) : (slotE.vs (ss.map (·.1))).getD i .junk = .agg [.int .i64 ss[i].1.1, .int .i64 ss[i].1.2] := by
  rw [El.vs_getD (by simpa using h), List.getD_eq_getElem?_getD, List.getElem?_eq_getElem (by simpa using h)]
  simp [slotE]
theorem cl_at {ss : List SC} {i : Nat} (h : i < ss.length) : (intE.vs (ss.map (·.2))).getD i .junk = .int .i64 ss[i].2 := by
  rw [El.vs_getD (by simpa using h), List.getD_eq_getElem?_getD, List.getElem?_eq_getElem (by simpa using h)]
  simp [intE]

set_option maxRecDepth 20000 in
theorem all_ok (s : Nat) (hs : s < 256) {va : V} {acts : List (Bool × Int)} (ha : IsE actE va acts) : Does Tryd.prog G0 true 4 [.int .u8 s, va] (.bool true) := by
  refine Does.intro mixed comp4 ?_
  unfold c4
  simp -implicitDefEqProofs (disch := omega) only [mwx, ne_eq, false_implies, implies_true, forall_eq_or_imp, MW.get, ev, evs, argFr, resK, packV, slHK, partsV, partsS, setR, Int.cast_ofNat_Int, Int.natCast_zero, Int.natCast_one, Nat.reduceLeDiff, reduceIte, Nat.reduceEqDiff, Nat.reduceBEq, reduceCtorEq, Nat.reduceAdd, Nat.reduceMul, Nat.reduceSub, Nat.reduceLT, Int.reduceToNat, Int.reduceLT, Int.reduceLE, Int.reduceEq, Int.reduceAdd, Int.reduceNeg, Int.reduceMul, Int.reduceSub]
  refine Does.call awake_fn fr0 ?_
  have e1 : IntKind.i64.wrap (Int.tmod (s : Int) 21) = ((s % 21 : Nat) : Int) := by
    rw [Int.tmod_eq_emod_of_nonneg (by omega)]
    exact wrap64 (by omega) (by omega)
  have hn : s % 21 < 21 := by omega
  simp -implicitDefEqProofs (disch := omega) only [e1, mwx, ne_eq, false_implies, implies_true, forall_eq_or_imp, MW.get, ev, evs, argFr, resK, packV, slHK, partsV, partsS, setR, Int.cast_ofNat_Int, Int.natCast_zero, Int.natCast_one, Nat.reduceLeDiff, reduceIte, Nat.reduceEqDiff, Nat.reduceBEq, reduceCtorEq, Nat.reduceAdd, Nat.reduceMul, Nat.reduceSub, Nat.reduceLT, Int.reduceToNat, Int.reduceLT, Int.reduceLE, Int.reduceEq, Int.reduceAdd, Int.reduceNeg, Int.reduceMul, Int.reduceSub]
  generalize hq : s % 21 = n at *
  refine Does.call (new_fn n (by omega)) (fr1 (.int _ _)) ?_
  simp -implicitDefEqProofs (disch := omega) only [lenK_isE ha, mwx, ne_eq, false_implies, implies_true, forall_eq_or_imp, MW.get, ev, evs, argFr, resK, packV, slHK, partsV, partsS, setR, Int.cast_ofNat_Int, Int.natCast_zero, Int.natCast_one, Nat.reduceLeDiff, reduceIte, Nat.reduceEqDiff, Nat.reduceBEq, reduceCtorEq, Nat.reduceAdd, Nat.reduceMul, Nat.reduceSub, Nat.reduceLT, Int.reduceToNat, Int.reduceLT, Int.reduceLE, Int.reduceEq, Int.reduceAdd, Int.reduceNeg, Int.reduceMul, Int.reduceSub]
  refine xg_decf (fun h => ?_) fun h => ?_
  · simp -implicitDefEqProofs (disch := omega) only [h, mwx, ne_eq, false_implies, implies_true, forall_eq_or_imp, MW.get, ev, evs, argFr, resK, packV, slHK, partsV, partsS, setR, Int.cast_ofNat_Int, Int.natCast_zero, Int.natCast_one, Nat.reduceLeDiff, reduceIte, Nat.reduceEqDiff, Nat.reduceBEq, reduceCtorEq, Nat.reduceAdd, Nat.reduceMul, Nat.reduceSub, Nat.reduceLT, Int.reduceToNat, Int.reduceLT, Int.reduceLE, Int.reduceEq, Int.reduceAdd, Int.reduceNeg, Int.reduceMul, Int.reduceSub]
    exact frz_bool rfl
  have hlen : acts.length ≤ 100 := by omega
  simp -implicitDefEqProofs (disch := omega) only [h, mwx, ne_eq, false_implies, implies_true, forall_eq_or_imp, MW.get, ev, evs, argFr, resK, packV, slHK, partsV, partsS, setR, Int.cast_ofNat_Int, Int.natCast_zero, Int.natCast_one, Nat.reduceLeDiff, reduceIte, Nat.reduceEqDiff, Nat.reduceBEq, reduceCtorEq, Nat.reduceAdd, Nat.reduceMul, Nat.reduceSub, Nat.reduceLT, Int.reduceToNat, Int.reduceLT, Int.reduceLE, Int.reduceEq, Int.reduceAdd, Int.reduceNeg, Int.reduceMul, Int.reduceSub]
  have inv0 : Inv (List.replicate n (-1, 0)) [] := by
    refine ⟨chk_iff.2 ⟨by simp; omega, fun i hi => ?_⟩, fun p hp => ?_, by simp, by simp, ?_⟩
    · rw [List.length_replicate] at hi
      have : sat (List.replicate n (-1, 0)) i = (-1, 0) := by simp [sat, List.getD_eq_getElem?_getD, hi]
      rw [this]; rfl
    · obtain rfl := List.eq_of_mem_replicate hp
      decide
    · have : ∀ m, isum ((List.replicate m ((-1, 0) : Sg)).map sgTaken) = 0 := by
        intro m
        induction m with
        | zero => rfl
        | succ m ih =>
          have h0 : sgTaken (-1, 0) = 0 := by decide +kernel
          rw [List.replicate_succ, List.map_cons, isum_cons, ih, h0]; rfl
      unfold cnt
      rw [this]
      split <;> rfl
  refine xl_loop (fun k st => ∃ (i : Nat) (l : List Sg) (vl : V) (ss : List SC) (v8 v9 : V), k + i = acts.length ∧ Inv l ss ∧ l.length = n ∧ ss.length ≤ i ∧ IsE segE vl l ∧
      Own2 2 1 st.H v8 (slotE.vs (ss.map (·.1))) v9 (intE.vs (ss.map (·.2))) ∧ get st.fr 0 = .int .u8 s ∧ get st.fr 1 = va ∧ get st.fr 5 = .bool true ∧ get st.fr 6 = vl ∧ get st.fr 8 = v8 ∧ get st.fr 9 = v9 ∧ get st.fr 10 = .int .i64 i) acts.length
    ⟨0, _, _, [], .nils, .nils, by omega, inv0, by simp, by simp, isE_vs _, .nil _ _ _, rfl, rfl, rfl, rfl, rfl, rfl, rfl⟩ ?_
  rintro J hJ k fr H ⟨i, l, vl, ss, v8, v9, k1, inv, k2, k3, iv, ow, h0, h1, h5, h6, h8, h9, h10⟩
  have hsl : (slotE.vs (ss.map (·.1))).length = ss.length := by rw [El.vs_length, List.length_map]
  have hcl : (intE.vs (ss.map (·.2))).length = ss.length := by rw [El.vs_length, List.length_map]
  have hroom : ∀ m b, m ≤ 300 → b ≤ 128 → roomy m b := fun m b h1 h2 => roomy_of (by omega) h2
  simp -implicitDefEqProofs (disch := omega) only [h1, h10, lenK_isE ha, mwx, ne_eq, false_implies, implies_true, forall_eq_or_imp, MW.get, ev, evs, argFr, resK, packV, slHK, partsV, partsS, setR, Int.cast_ofNat_Int, Int.natCast_zero, Int.natCast_one, Nat.reduceLeDiff, reduceIte, Nat.reduceEqDiff, Nat.reduceBEq, reduceCtorEq, Nat.reduceAdd, Nat.reduceMul, Nat.reduceSub, Nat.reduceLT, Int.reduceToNat, Int.reduceLT, Int.reduceLE, Int.reduceEq, Int.reduceAdd, Int.reduceNeg, Int.reduceMul, Int.reduceSub]
  refine xc_dec (fun h11 => ?_) fun h11 => ?_
  · have hi : i < acts.length := by omega
    have hi0 : (0 : Int) ≤ (i : Int) := by omega
    have hi1 : (i : Int).toNat < acts.length := by simpa using hi
    have hw : IntKind.i64.wrap ((i : Int) + 1) = ((i + 1 : Nat) : Int) := wrap64 (n := ((i + 1 : Nat) : Int)) (by omega) (by omega)
    obtain ⟨b, m, hp⟩ : ∃ b m, acts.getD i (false, 0) = (b, m) := ⟨_, _, rfl⟩
    have hia : ∀ {H : List Blk} {K : V → Prop}, iaK H 2 va (.int .i64 (i : Int)) K = K (.vp [.bool b, .int .i64 m]) := by
      intro H K
      rw [iaK_act ha hi0 hi1, Int.toNat_natCast, hp]
    simp -implicitDefEqProofs (disch := omega) only [h1, h10, hia, mwx, ne_eq, false_implies, implies_true, forall_eq_or_imp, MW.get, ev, evs, argFr, resK, packV, slHK, partsV, partsS, setR, Int.cast_ofNat_Int, Int.natCast_zero, Int.natCast_one, Nat.reduceLeDiff, reduceIte, Nat.reduceEqDiff, Nat.reduceBEq, reduceCtorEq, Nat.reduceAdd, Nat.reduceMul, Nat.reduceSub, Nat.reduceLT, Int.reduceToNat, Int.reduceLT, Int.reduceLE, Int.reduceEq, Int.reduceAdd, Int.reduceNeg, Int.reduceMul, Int.reduceSub]
    refine xc_any (fun hb => ?_) fun hb => ?_
    · have hb : b = true := hb
      simp -implicitDefEqProofs (disch := omega) only [h1, h8, h10, hia, lenK_own ow.a, hsl, mwx, ne_eq, false_implies, implies_true, forall_eq_or_imp, MW.get, ev, evs, argFr, resK, packV, slHK, partsV, partsS, setR, Int.cast_ofNat_Int, Int.natCast_zero, Int.natCast_one, Nat.reduceLeDiff, reduceIte, Nat.reduceEqDiff, Nat.reduceBEq, reduceCtorEq, Nat.reduceAdd, Nat.reduceMul, Nat.reduceSub, Nat.reduceLT, Int.reduceToNat, Int.reduceLT, Int.reduceLE, Int.reduceEq, Int.reduceAdd, Int.reduceNeg, Int.reduceMul, Int.reduceSub]
      refine xg_decf (fun h12 => ?_) fun h12 => ?_
      · simp -implicitDefEqProofs (disch := omega) only [h12, h10, hw, mwx, ne_eq, false_implies, implies_true, forall_eq_or_imp, MW.get, ev, evs, argFr, resK, packV, slHK, partsV, partsS, setR, Int.cast_ofNat_Int, Int.natCast_zero, Int.natCast_one, Nat.reduceLeDiff, reduceIte, Nat.reduceEqDiff, Nat.reduceBEq, reduceCtorEq, Nat.reduceAdd, Nat.reduceMul, Nat.reduceSub, Nat.reduceLT, Int.reduceToNat, Int.reduceLT, Int.reduceLE, Int.reduceEq, Int.reduceAdd, Int.reduceNeg, Int.reduceMul, Int.reduceSub]
        exact ⟨k - 1, by omega, hJ _ _ ⟨i + 1, l, vl, ss, v8, v9, by omega, inv, k2, by omega, iv, ow, h0, h1, h5, h6, h8, h9, rfl⟩⟩
      simp -implicitDefEqProofs (disch := omega) only [h12, h8, lenK_own ow.a, hsl, mwx, ne_eq, false_implies, implies_true, forall_eq_or_imp, MW.get, ev, evs, argFr, resK, packV, slHK, partsV, partsS, setR, Int.cast_ofNat_Int, Int.natCast_zero, Int.natCast_one, Nat.reduceLeDiff, reduceIte, Nat.reduceEqDiff, Nat.reduceBEq, reduceCtorEq, Nat.reduceAdd, Nat.reduceMul, Nat.reduceSub, Nat.reduceLT, Int.reduceToNat, Int.reduceLT, Int.reduceLE, Int.reduceEq, Int.reduceAdd, Int.reduceNeg, Int.reduceMul, Int.reduceSub]
      refine xc_dec (fun h13 => ?_) fun h13 => ?_
      · simp -implicitDefEqProofs (disch := omega) only [h10, hw, mwx, ne_eq, false_implies, implies_true, forall_eq_or_imp, MW.get, ev, evs, argFr, resK, packV, slHK, partsV, partsS, setR, Int.cast_ofNat_Int, Int.natCast_zero, Int.natCast_one, Nat.reduceLeDiff, reduceIte, Nat.reduceEqDiff, Nat.reduceBEq, reduceCtorEq, Nat.reduceAdd, Nat.reduceMul, Nat.reduceSub, Nat.reduceLT, Int.reduceToNat, Int.reduceLT, Int.reduceLE, Int.reduceEq, Int.reduceAdd, Int.reduceNeg, Int.reduceMul, Int.reduceSub]
        exact ⟨k - 1, by omega, hJ _ _ ⟨i + 1, l, vl, ss, v8, v9, by omega, inv, k2, by omega, iv, ow, h0, h1, h5, h6, h8, h9, rfl⟩⟩
      obtain ⟨q, rfl⟩ : ∃ q : Nat, m = q := ⟨m.toNat, by omega⟩
      have hq' : q < ss.length := by omega
      have hq0 : (0 : Int) ≤ (q : Int) := by omega
      have hq1 : (q : Int).toNat < (slotE.vs (ss.map (·.1))).length := by rw [hsl]; exact hq'
      have hw1 : IntKind.i64.wrap ((q : Int) + 1) = ((q + 1 : Nat) : Int) := wrap64 (n := ((q + 1 : Nat) : Int)) (by omega) (by omega)
      obtain ⟨f1, f2⟩ := inv.free hq'
      obtain ⟨v', iv', d'⟩ := fre_fn iv inv.ok (by omega) ss[q].1.1 ss[q].1.2
      have f3 := (fre_ok inv.ok inv.chk ss[q].1.1 ss[q].1.2).2.2.1
      rw [f1] at d'
      simp -implicitDefEqProofs (disch := omega) only [h6, h8, own_ia ow.a hq0 hq1, own_ld ow.a (n := q) (by omega) rfl, sc_at hq', mwx, ne_eq, false_implies, implies_true, forall_eq_or_imp, MW.get, ev, evs, argFr, resK, packV, slHK, partsV, partsS, setR, Int.cast_ofNat_Int, Int.natCast_zero, Int.natCast_one, Nat.reduceLeDiff, reduceIte, Nat.reduceEqDiff, Nat.reduceBEq, reduceCtorEq, Nat.reduceAdd, Nat.reduceMul, Nat.reduceSub, Nat.reduceLT, Int.reduceToNat, Int.reduceLT, Int.reduceLE, Int.reduceEq, Int.reduceAdd, Int.reduceNeg, Int.reduceMul, Int.reduceSub]
      refine Does.call d' (fr2 iv.free (slot_free _ _)) ?_
      simp -implicitDefEqProofs (disch := omega) only [h8, mwx, ne_eq, false_implies, implies_true, forall_eq_or_imp, MW.get, ev, evs, argFr, resK, packV, slHK, partsV, partsS, setR, Int.cast_ofNat_Int, Int.natCast_zero, Int.natCast_one, Nat.reduceLeDiff, reduceIte, Nat.reduceEqDiff, Nat.reduceBEq, reduceCtorEq, Nat.reduceAdd, Nat.reduceMul, Nat.reduceSub, Nat.reduceLT, Int.reduceToNat, Int.reduceLT, Int.reduceLE, Int.reduceEq, Int.reduceAdd, Int.reduceNeg, Int.reduceMul, Int.reduceSub]
      have kp1 : Keeps H (H ++ [.row 2 [] false false]) := .app _ _
      have tk : (q : Nat) ≤ (slotE.vs (ss.map (·.1))).length := by omega
      have tk' : q + 1 ≤ (slotE.vs (ss.map (·.1))).length := by omega
      simp -implicitDefEqProofs (disch := omega) only [own_lo ow.a tk kp1, els_lo ow.a tk kp1, mwx, ne_eq, false_implies, implies_true, forall_eq_or_imp, MW.get, ev, evs, argFr, resK, packV, slHK, partsV, partsS, setR, Int.cast_ofNat_Int, Int.natCast_zero, Int.natCast_one, Nat.reduceLeDiff, reduceIte, Nat.reduceEqDiff, Nat.reduceBEq, reduceCtorEq, Nat.reduceAdd, Nat.reduceMul, Nat.reduceSub, Nat.reduceLT, Int.reduceToNat, Int.reduceLT, Int.reduceLE, Int.reduceEq, Int.reduceAdd, Int.reduceNeg, Int.reduceMul, Int.reduceSub]
      refine (Own.hs (xs := []) rfl (getB_new _ _) (.inr rfl)).appS (by simp [Goods]) (by rw [El.vs_take]; exact El.vs_goods _) (hroom _ _ (by simp; omega) (by decide)) fun u1 H1 o1 b1 c1 => ?_
      have kp2 : Keeps H H1 := b1.fresh kp1 fun b hb => Nat.le_of_eq hb
      have c1' : ∀ b, hasB u1 b → H.length ≤ b := fun b hb => by
        rcases c1 b hb with h | h
        · exact Nat.le_of_eq h
        · rw [List.length_append] at h; omega
      simp -implicitDefEqProofs (disch := omega) only [h8, hw1, own_hi ow.a tk' kp2, els_hi ow.a tk' kp2, mwx, ne_eq, false_implies, implies_true, forall_eq_or_imp, MW.get, ev, evs, argFr, resK, packV, slHK, partsV, partsS, setR, Int.cast_ofNat_Int, Int.natCast_zero, Int.natCast_one, Nat.reduceLeDiff, reduceIte, Nat.reduceEqDiff, Nat.reduceBEq, reduceCtorEq, Nat.reduceAdd, Nat.reduceMul, Nat.reduceSub, Nat.reduceLT, Int.reduceToNat, Int.reduceLT, Int.reduceLE, Int.reduceEq, Int.reduceAdd, Int.reduceNeg, Int.reduceMul, Int.reduceSub]
      refine o1.appS (by rw [List.nil_append]; exact by rw [El.vs_take]; exact El.vs_goods _) (by rw [El.vs_drop]; exact El.vs_goods _) (hroom _ _ (by simp; omega) (by decide)) fun u2 H2 o2 b2 c2 => ?_
      have kp3 : Keeps H H2 := b2.fresh kp2 c1'
      have c2' : ∀ b, hasB u2 b → H.length ≤ b := fun b hb => by
        rcases c2 b hb with h | h
        · exact c1' b h
        · have := kp2.1; omega
      rw [vs_erase, ← erase_map] at o2
      have ow2 := (ow.put kp3 o2 c2').symm
      clear o1 b1 c1 c1' kp1 kp2 b2 c2 c2' o2
      have kp1 : Keeps H2 (H2 ++ [.row 1 [] false false]) := .app _ _
      have tk : (q : Nat) ≤ (intE.vs (ss.map (·.2))).length := by omega
      have tk' : q + 1 ≤ (intE.vs (ss.map (·.2))).length := by omega
      simp -implicitDefEqProofs (disch := omega) only [h9, own_lo ow2.a tk kp1, els_lo ow2.a tk kp1, mwx, ne_eq, false_implies, implies_true, forall_eq_or_imp, MW.get, ev, evs, argFr, resK, packV, slHK, partsV, partsS, setR, Int.cast_ofNat_Int, Int.natCast_zero, Int.natCast_one, Nat.reduceLeDiff, reduceIte, Nat.reduceEqDiff, Nat.reduceBEq, reduceCtorEq, Nat.reduceAdd, Nat.reduceMul, Nat.reduceSub, Nat.reduceLT, Int.reduceToNat, Int.reduceLT, Int.reduceLE, Int.reduceEq, Int.reduceAdd, Int.reduceNeg, Int.reduceMul, Int.reduceSub]
      refine (Own.hs (xs := []) rfl (getB_new _ _) (.inr rfl)).appS (by simp [Goods]) (by rw [El.vs_take]; exact El.vs_goods _) (hroom _ _ (by simp; omega) (by decide)) fun u1 H1 o1 b1 c1 => ?_
      have kp2 : Keeps H2 H1 := b1.fresh kp1 fun b hb => Nat.le_of_eq hb
      have c1' : ∀ b, hasB u1 b → H2.length ≤ b := fun b hb => by
        rcases c1 b hb with h | h
        · exact Nat.le_of_eq h
        · rw [List.length_append] at h; omega
      simp -implicitDefEqProofs (disch := omega) only [h9, hw1, own_hi ow2.a tk' kp2, els_hi ow2.a tk' kp2, mwx, ne_eq, false_implies, implies_true, forall_eq_or_imp, MW.get, ev, evs, argFr, resK, packV, slHK, partsV, partsS, setR, Int.cast_ofNat_Int, Int.natCast_zero, Int.natCast_one, Nat.reduceLeDiff, reduceIte, Nat.reduceEqDiff, Nat.reduceBEq, reduceCtorEq, Nat.reduceAdd, Nat.reduceMul, Nat.reduceSub, Nat.reduceLT, Int.reduceToNat, Int.reduceLT, Int.reduceLE, Int.reduceEq, Int.reduceAdd, Int.reduceNeg, Int.reduceMul, Int.reduceSub]
      refine o1.appS (by rw [List.nil_append]; exact by rw [El.vs_take]; exact El.vs_goods _) (by rw [El.vs_drop]; exact El.vs_goods _) (hroom _ _ (by simp; omega) (by decide)) fun u3 H3 o3 b2 c2 => ?_
      have kp3 : Keeps H2 H3 := b2.fresh kp2 c1'
      have c2' : ∀ b, hasB u3 b → H2.length ≤ b := fun b hb => by
        rcases c2 b hb with h | h
        · exact c1' b h
        · have := kp2.1; omega
      rw [vs_erase, ← erase_map] at o3
      have ow3 := (ow2.put kp3 o3 c2').symm
      simp -implicitDefEqProofs (disch := omega) only [h10, hw, mwx, ne_eq, false_implies, implies_true, forall_eq_or_imp, MW.get, ev, evs, argFr, resK, packV, slHK, partsV, partsS, setR, Int.cast_ofNat_Int, Int.natCast_zero, Int.natCast_one, Nat.reduceLeDiff, reduceIte, Nat.reduceEqDiff, Nat.reduceBEq, reduceCtorEq, Nat.reduceAdd, Nat.reduceMul, Nat.reduceSub, Nat.reduceLT, Int.reduceToNat, Int.reduceLT, Int.reduceLE, Int.reduceEq, Int.reduceAdd, Int.reduceNeg, Int.reduceMul, Int.reduceSub]
      have hel : (ss.eraseIdx q).length ≤ ss.length := by rw [List.length_eraseIdx]; split <;> omega
      exact ⟨k - 1, by omega, hJ _ _ ⟨i + 1, _, v', ss.eraseIdx q, u2, u3, by omega, f2, by omega, by omega, iv', ow3, h0, h1, h5, rfl, rfl, rfl, rfl⟩⟩
    · have hb : b = false := hb
      obtain ⟨v', iv', d'⟩ := tak_fn iv inv.ok (by omega) m
      simp -implicitDefEqProofs (disch := omega) only [h1, h6, h10, hia, mwx, ne_eq, false_implies, implies_true, forall_eq_or_imp, MW.get, ev, evs, argFr, resK, packV, slHK, partsV, partsS, setR, Int.cast_ofNat_Int, Int.natCast_zero, Int.natCast_one, Nat.reduceLeDiff, reduceIte, Nat.reduceEqDiff, Nat.reduceBEq, reduceCtorEq, Nat.reduceAdd, Nat.reduceMul, Nat.reduceSub, Nat.reduceLT, Int.reduceToNat, Int.reduceLT, Int.reduceLE, Int.reduceEq, Int.reduceAdd, Int.reduceNeg, Int.reduceMul, Int.reduceSub]
      refine Does.call d' (fr2 iv.free (.int _ _)) ?_
      simp -implicitDefEqProofs (disch := omega) only [mwx, ne_eq, false_implies, implies_true, forall_eq_or_imp, MW.get, ev, evs, argFr, resK, packV, slHK, partsV, partsS, setR, Int.cast_ofNat_Int, Int.natCast_zero, Int.natCast_one, Nat.reduceLeDiff, reduceIte, Nat.reduceEqDiff, Nat.reduceBEq, reduceCtorEq, Nat.reduceAdd, Nat.reduceMul, Nat.reduceSub, Nat.reduceLT, Int.reduceToNat, Int.reduceLT, Int.reduceLE, Int.reduceEq, Int.reduceAdd, Int.reduceNeg, Int.reduceMul, Int.reduceSub]
      refine xc_dec (fun he => ?_) fun he => ?_
      · have inv' := inv.take he
        obtain ⟨_, _, _, _, _, _, hl', _⟩ := back_law inv.ok inv.chk he 0 0
        simp -implicitDefEqProofs (disch := omega) only [h8, h9, List.length_append, getB_plus, getB_plus0, mwx, ne_eq, false_implies, implies_true, forall_eq_or_imp, MW.get, ev, evs, argFr, resK, packV, slHK, partsV, partsS, setR, Int.cast_ofNat_Int, Int.natCast_zero, Int.natCast_one, Nat.reduceLeDiff, reduceIte, Nat.reduceEqDiff, Nat.reduceBEq, reduceCtorEq, Nat.reduceAdd, Nat.reduceMul, Nat.reduceSub, Nat.reduceLT, Int.reduceToNat, Int.reduceLT, Int.reduceLE, Int.reduceEq, Int.reduceAdd, Int.reduceNeg, Int.reduceMul, Int.reduceSub]
        have ow1 := ow.keep (.app H [.row 2 [.agg [.int .i64 (tak l m).2.1.1, .int .i64 (tak l m).2.1.2]] false false, .row 2 [.agg [.int .i64 (tak l m).2.1.1, .int .i64 (tak l m).2.1.2]] false false])
        refine ow1.app (El.vs_goods _) (El.vs_goods (e := slotE) [(tak l m).2.1]) (hroom _ _ (by simp [El.vs_length]; omega) (by decide)) fun u1 H1 ow2 _ => ?_
        simp -implicitDefEqProofs (disch := omega) only [h9, h1, h10, hia, List.length_append, getB_plus, getB_plus0, mwx, ne_eq, false_implies, implies_true, forall_eq_or_imp, MW.get, ev, evs, argFr, resK, packV, slHK, partsV, partsS, setR, Int.cast_ofNat_Int, Int.natCast_zero, Int.natCast_one, Nat.reduceLeDiff, reduceIte, Nat.reduceEqDiff, Nat.reduceBEq, reduceCtorEq, Nat.reduceAdd, Nat.reduceMul, Nat.reduceSub, Nat.reduceLT, Int.reduceToNat, Int.reduceLT, Int.reduceLE, Int.reduceEq, Int.reduceAdd, Int.reduceNeg, Int.reduceMul, Int.reduceSub]
        have ow3 := (ow2.keep (.app H1 [.row 1 [.int .i64 m] false false])).symm
        refine ow3.app (El.vs_goods _) (El.vs_goods (e := intE) [m]) (hroom _ _ (by simp [El.vs_length]; omega) (by decide)) fun u2 H2 ow4 _ => ?_
        simp -implicitDefEqProofs (disch := omega) only [h10, hw, mwx, ne_eq, false_implies, implies_true, forall_eq_or_imp, MW.get, ev, evs, argFr, resK, packV, slHK, partsV, partsS, setR, Int.cast_ofNat_Int, Int.natCast_zero, Int.natCast_one, Nat.reduceLeDiff, reduceIte, Nat.reduceEqDiff, Nat.reduceBEq, reduceCtorEq, Nat.reduceAdd, Nat.reduceMul, Nat.reduceSub, Nat.reduceLT, Int.reduceToNat, Int.reduceLT, Int.reduceLE, Int.reduceEq, Int.reduceAdd, Int.reduceNeg, Int.reduceMul, Int.reduceSub]
        have ow5 := ow4.symm
        have v1 : slotE.vs (ss.map (·.1)) ++ [.agg [.int .i64 (tak l m).2.1.1, .int .i64 (tak l m).2.1.2]] = slotE.vs ((ss ++ [((tak l m).2.1, m)]).map (·.1)) := by simp [El.vs, slotE]
        have v2 : intE.vs (ss.map (·.2)) ++ [.int .i64 m] = intE.vs ((ss ++ [((tak l m).2.1, m)]).map (·.2)) := by simp [El.vs, intE]
        rw [v1, v2] at ow5
        exact ⟨k - 1, by omega, hJ _ _ ⟨i + 1, _, v', ss ++ [((tak l m).2.1, m)], u1, u2, by omega, inv', by omega, by simp; omega, iv', ow5, h0, h1, h5, rfl, rfl, rfl, rfl⟩⟩
      · have hk : (tak l m).1 = l := by
          unfold tak at he ⊢
          split
          · rfl
          · split
            · rfl
            · split
              · rfl
              · rename_i g1 g2 g3
                exact absurd (by simp [g1, g2, g3]) he
        rw [hk] at iv'
        simp -implicitDefEqProofs (disch := omega) only [h10, hw, mwx, ne_eq, false_implies, implies_true, forall_eq_or_imp, MW.get, ev, evs, argFr, resK, packV, slHK, partsV, partsS, setR, Int.cast_ofNat_Int, Int.natCast_zero, Int.natCast_one, Nat.reduceLeDiff, reduceIte, Nat.reduceEqDiff, Nat.reduceBEq, reduceCtorEq, Nat.reduceAdd, Nat.reduceMul, Nat.reduceSub, Nat.reduceLT, Int.reduceToNat, Int.reduceLT, Int.reduceLE, Int.reduceEq, Int.reduceAdd, Int.reduceNeg, Int.reduceMul, Int.reduceSub]
        exact ⟨k - 1, by omega, hJ _ _ ⟨i + 1, l, v', ss, v8, v9, by omega, inv, k2, by omega, iv', ow.keep (.app _ _), h0, h1, h5, rfl, h8, h9, rfl⟩⟩
  · simp -implicitDefEqProofs (disch := omega) only [mwx, ne_eq, false_implies, implies_true, forall_eq_or_imp, MW.get, ev, evs, argFr, resK, packV, slHK, partsV, partsS, setR, Int.cast_ofNat_Int, Int.natCast_zero, Int.natCast_one, Nat.reduceLeDiff, reduceIte, Nat.reduceEqDiff, Nat.reduceBEq, reduceCtorEq, Nat.reduceAdd, Nat.reduceMul, Nat.reduceSub, Nat.reduceLT, Int.reduceToNat, Int.reduceLT, Int.reduceLE, Int.reduceEq, Int.reduceAdd, Int.reduceNeg, Int.reduceMul, Int.reduceSub]
    have hii : i = acts.length := by omega
    have hbm := byts_mono (l := ss)
    refine xl_loop (fun k' st => ∃ i' : Nat, k' + i' = ss.length ∧ i' ≤ ss.length ∧ st.H = H ∧ get st.fr 0 = .int .u8 s ∧ get st.fr 5 = .bool true ∧ get st.fr 6 = vl ∧ get st.fr 8 = v8 ∧ get st.fr 9 = v9 ∧ get st.fr 17 = .int .i64 (isum ((ss.take i').map fun p => byts p.2)) ∧ get st.fr 18 = .int .i64 i') ss.length
      ⟨0, by omega, by omega, rfl, h0, h5, h6, h8, h9, rfl, rfl⟩ ?_
    clear h0 h1 h5 h6 h8 h9 h10 k1 hJ J
    rintro J hJ k' fr H' ⟨i', k1, k1', hH, h0, h5, h6, h8, h9, h17, h18⟩
    obtain rfl : H' = H := hH
    simp -implicitDefEqProofs (disch := omega) only [h8, h18, lenK_own ow.a, hsl, mwx, ne_eq, false_implies, implies_true, forall_eq_or_imp, MW.get, ev, evs, argFr, resK, packV, slHK, partsV, partsS, setR, Int.cast_ofNat_Int, Int.natCast_zero, Int.natCast_one, Nat.reduceLeDiff, reduceIte, Nat.reduceEqDiff, Nat.reduceBEq, reduceCtorEq, Nat.reduceAdd, Nat.reduceMul, Nat.reduceSub, Nat.reduceLT, Int.reduceToNat, Int.reduceLT, Int.reduceLE, Int.reduceEq, Int.reduceAdd, Int.reduceNeg, Int.reduceMul, Int.reduceSub]
    refine xc_dec (fun h19 => ?_) fun h19 => ?_
    · have hi : i' < ss.length := by omega
      have hi0 : (0 : Int) ≤ (i' : Int) := by omega
      have hi1 : (i' : Int).toNat < (slotE.vs (ss.map (·.1))).length := by rw [hsl]; exact hi
      have hi2 : (i' : Int).toNat < (intE.vs (ss.map (·.2))).length := by rw [hcl]; exact hi
      have hw : IntKind.i64.wrap ((i' : Int) + 1) = ((i' + 1 : Nat) : Int) := wrap64 (n := ((i' + 1 : Nat) : Int)) (by omega) (by omega)
      have b1 := byts_mono (l := ss.take i')
      have b2 := byts_le ss[i'].2
      have b3 : (ss.take i').length = i' := by simp; omega
      rw [b3] at b1
      have e1 : isum ((ss.take (i' + 1)).map fun p => byts p.2) = isum ((ss.take i').map fun p => byts p.2) + byts ss[i'].2 := by
        rw [take_succ_at hi (d := ((0, 0), 0)), List.map_append, isum_append, List.getD_eq_getElem?_getD, List.getElem?_eq_getElem hi]
        simp [isum]
      simp -implicitDefEqProofs (disch := omega) only [h17, h9, h18, own_ia ow.b hi0 hi2, own_ld1 ow.b (n := i') (by omega), cl_at hi, mwx, ne_eq, false_implies, implies_true, forall_eq_or_imp, MW.get, ev, evs, argFr, resK, packV, slHK, partsV, partsS, setR, Int.cast_ofNat_Int, Int.natCast_zero, Int.natCast_one, Nat.reduceLeDiff, reduceIte, Nat.reduceEqDiff, Nat.reduceBEq, reduceCtorEq, Nat.reduceAdd, Nat.reduceMul, Nat.reduceSub, Nat.reduceLT, Int.reduceToNat, Int.reduceLT, Int.reduceLE, Int.reduceEq, Int.reduceAdd, Int.reduceNeg, Int.reduceMul, Int.reduceSub]
      refine Does.call (bytes_ref _) (fr1 (.int _ _)) ?_
      simp -implicitDefEqProofs (disch := omega) only [mwx, ne_eq, false_implies, implies_true, forall_eq_or_imp, MW.get, ev, evs, argFr, resK, packV, slHK, partsV, partsS, setR, Int.cast_ofNat_Int, Int.natCast_zero, Int.natCast_one, Nat.reduceLeDiff, reduceIte, Nat.reduceEqDiff, Nat.reduceBEq, reduceCtorEq, Nat.reduceAdd, Nat.reduceMul, Nat.reduceSub, Nat.reduceLT, Int.reduceToNat, Int.reduceLT, Int.reduceLE, Int.reduceEq, Int.reduceAdd, Int.reduceNeg, Int.reduceMul, Int.reduceSub]
      rw [← e1]
      obtain ⟨g1, g2⟩ := inv.has _ (List.getElem_mem hi)
      refine xl_loop (fun k2 st => ∃ m : Nat, k2 + m = i' ∧ st.H = H' ∧ get st.fr 0 = .int .u8 s ∧ get st.fr 5 = .bool true ∧ get st.fr 6 = vl ∧ get st.fr 8 = v8 ∧ get st.fr 9 = v9 ∧ get st.fr 17 = .int .i64 (isum ((ss.take (i' + 1)).map fun p => byts p.2)) ∧ get st.fr 18 = .int .i64 i' ∧ get st.fr 19 = .int .i64 m) i'
        ⟨0, by omega, rfl, h0, h5, h6, h8, h9, rfl, h18, rfl⟩ ?_
      clear h0 h5 h6 h8 h9 h17 h18
      rintro J2 hJ2 k2 fr H3 ⟨m, k3, hH, h0, h5, h6, h8, h9, h17, h18, h19⟩
      obtain rfl : H3 = _ := hH
      simp -implicitDefEqProofs (disch := omega) only [h18, h19, mwx, ne_eq, false_implies, implies_true, forall_eq_or_imp, MW.get, ev, evs, argFr, resK, packV, slHK, partsV, partsS, setR, Int.cast_ofNat_Int, Int.natCast_zero, Int.natCast_one, Nat.reduceLeDiff, reduceIte, Nat.reduceEqDiff, Nat.reduceBEq, reduceCtorEq, Nat.reduceAdd, Nat.reduceMul, Nat.reduceSub, Nat.reduceLT, Int.reduceToNat, Int.reduceLT, Int.reduceLE, Int.reduceEq, Int.reduceAdd, Int.reduceNeg, Int.reduceMul, Int.reduceSub]
      refine xc_dec (fun h20 => ?_) fun h20 => ?_
      · have hm : m < ss.length := by omega
        have hm0 : (0 : Int) ≤ (m : Int) := by omega
        have hm1 : (m : Int).toNat < (slotE.vs (ss.map (·.1))).length := by rw [hsl]; exact hm
        have hw2 : IntKind.i64.wrap ((m : Int) + 1) = ((m + 1 : Nat) : Int) := wrap64 (n := ((m + 1 : Nat) : Int)) (by omega) (by omega)
        have hne : (decide (ss[m].1.1 = ss[i'].1.1) && decide (ss[m].1.2 = ss[i'].1.2)) = false := by
          rw [Bool.and_eq_false_iff, decide_eq_false_iff_not, decide_eq_false_iff_not]
          by_cases e1 : ss[m].1.1 = ss[i'].1.1
          · right
            intro e2
            have e3 : (ss.map (·.1))[m]'(by simpa using hm) = (ss.map (·.1))[i']'(by simpa using hi) := by
              simp only [List.getElem_map]
              exact Prod.ext e1 e2
            have := (List.getElem_inj inv.nodup).1 e3
            omega
          · exact .inl e1
        simp -implicitDefEqProofs (disch := omega) only [h8, h18, h19, own_ia ow.a hi0 hi1, own_ia ow.a hm0 hm1, own_ld ow.a (n := i') (by omega) rfl, own_ld ow.a (n := m) (by omega) rfl, sc_at hi, sc_at hm, hne, Bool.and_true, hw2, mwx, ne_eq, false_implies, implies_true, forall_eq_or_imp, MW.get, ev, evs, argFr, resK, packV, slHK, partsV, partsS, setR, Int.cast_ofNat_Int, Int.natCast_zero, Int.natCast_one, Nat.reduceLeDiff, reduceIte, Nat.reduceEqDiff, Nat.reduceBEq, reduceCtorEq, Nat.reduceAdd, Nat.reduceMul, Nat.reduceSub, Nat.reduceLT, Int.reduceToNat, Int.reduceLT, Int.reduceLE, Int.reduceEq, Int.reduceAdd, Int.reduceNeg, Int.reduceMul, Int.reduceSub]
        exact ⟨k2 - 1, by omega, hJ2 _ _ ⟨m + 1, by omega, rfl, h0, h5, h6, h8, h9, h17, h18, rfl⟩⟩
      · simp -implicitDefEqProofs (disch := omega) only [h6, h8, h18, own_ia ow.a hi0 hi1, own_ld ow.a (n := i') (by omega) rfl, sc_at hi, mwx, ne_eq, false_implies, implies_true, forall_eq_or_imp, MW.get, ev, evs, argFr, resK, packV, slHK, partsV, partsS, setR, Int.cast_ofNat_Int, Int.natCast_zero, Int.natCast_one, Nat.reduceLeDiff, reduceIte, Nat.reduceEqDiff, Nat.reduceBEq, reduceCtorEq, Nat.reduceAdd, Nat.reduceMul, Nat.reduceSub, Nat.reduceLT, Int.reduceToNat, Int.reduceLT, Int.reduceLE, Int.reduceEq, Int.reduceAdd, Int.reduceNeg, Int.reduceMul, Int.reduceSub]
        refine Does.call (has_fn iv inv.ok _ _) (fr2 iv.free (slot_free _ _)) ?_
        simp -implicitDefEqProofs (disch := omega) only [g1, h18, hw, mwx, ne_eq, false_implies, implies_true, forall_eq_or_imp, MW.get, ev, evs, argFr, resK, packV, slHK, partsV, partsS, setR, Int.cast_ofNat_Int, Int.natCast_zero, Int.natCast_one, Nat.reduceLeDiff, reduceIte, Nat.reduceEqDiff, Nat.reduceBEq, reduceCtorEq, Nat.reduceAdd, Nat.reduceMul, Nat.reduceSub, Nat.reduceLT, Int.reduceToNat, Int.reduceLT, Int.reduceLE, Int.reduceEq, Int.reduceAdd, Int.reduceNeg, Int.reduceMul, Int.reduceSub]
        exact ⟨k' - 1, by omega, hJ _ _ ⟨i' + 1, by omega, by omega, rfl, h0, h5, h6, h8, h9, h17, rfl⟩⟩
    · have e2 : ss.take i' = ss := List.take_of_length_le (by omega)
      rw [e2, ← inv.sum] at h17
      have hge := held_ge inv.chk
      have hw4 : IntKind.i64.wrap ((512 : Int) * n) = 512 * n := wrap64 (by omega) (by omega)
      simp -implicitDefEqProofs (disch := omega) only [h5, h6, mwx, ne_eq, false_implies, implies_true, forall_eq_or_imp, MW.get, ev, evs, argFr, resK, packV, slHK, partsV, partsS, setR, Int.cast_ofNat_Int, Int.natCast_zero, Int.natCast_one, Nat.reduceLeDiff, reduceIte, Nat.reduceEqDiff, Nat.reduceBEq, reduceCtorEq, Nat.reduceAdd, Nat.reduceMul, Nat.reduceSub, Nat.reduceLT, Int.reduceToNat, Int.reduceLT, Int.reduceLE, Int.reduceEq, Int.reduceAdd, Int.reduceNeg, Int.reduceMul, Int.reduceSub]
      refine Does.call (chk_fn iv inv.ok) (fr1 iv.free) ?_
      simp -implicitDefEqProofs (disch := omega) only [inv.chk, h6, mwx, ne_eq, false_implies, implies_true, forall_eq_or_imp, MW.get, ev, evs, argFr, resK, packV, slHK, partsV, partsS, setR, Int.cast_ofNat_Int, Int.natCast_zero, Int.natCast_one, Nat.reduceLeDiff, reduceIte, Nat.reduceEqDiff, Nat.reduceBEq, reduceCtorEq, Nat.reduceAdd, Nat.reduceMul, Nat.reduceSub, Nat.reduceLT, Int.reduceToNat, Int.reduceLT, Int.reduceLE, Int.reduceEq, Int.reduceAdd, Int.reduceNeg, Int.reduceMul, Int.reduceSub]
      refine Does.call (taken_fn iv inv.ok) (fr1 iv.free) ?_
      simp -implicitDefEqProofs (disch := omega) only [h17, h6, mwx, ne_eq, false_implies, implies_true, forall_eq_or_imp, MW.get, ev, evs, argFr, resK, packV, slHK, partsV, partsS, setR, Int.cast_ofNat_Int, Int.natCast_zero, Int.natCast_one, Nat.reduceLeDiff, reduceIte, Nat.reduceEqDiff, Nat.reduceBEq, reduceCtorEq, Nat.reduceAdd, Nat.reduceMul, Nat.reduceSub, Nat.reduceLT, Int.reduceToNat, Int.reduceLT, Int.reduceLE, Int.reduceEq, Int.reduceAdd, Int.reduceNeg, Int.reduceMul, Int.reduceSub]
      refine Does.call (held_fn iv inv.ok) (fr1 iv.free) ?_
      simp -implicitDefEqProofs (disch := omega) only [h17, h6, hge.1, mwx, ne_eq, false_implies, implies_true, forall_eq_or_imp, MW.get, ev, evs, argFr, resK, packV, slHK, partsV, partsS, setR, Int.cast_ofNat_Int, Int.natCast_zero, Int.natCast_one, Nat.reduceLeDiff, reduceIte, Nat.reduceEqDiff, Nat.reduceBEq, reduceCtorEq, Nat.reduceAdd, Nat.reduceMul, Nat.reduceSub, Nat.reduceLT, Int.reduceToNat, Int.reduceLT, Int.reduceLE, Int.reduceEq, Int.reduceAdd, Int.reduceNeg, Int.reduceMul, Int.reduceSub]
      refine Does.call (held_fn iv inv.ok) (fr1 iv.free) ?_
      simp -implicitDefEqProofs (disch := omega) only [h0, e1, hw4, mwx, ne_eq, false_implies, implies_true, forall_eq_or_imp, MW.get, ev, evs, argFr, resK, packV, slHK, partsV, partsS, setR, Int.cast_ofNat_Int, Int.natCast_zero, Int.natCast_one, Nat.reduceLeDiff, reduceIte, Nat.reduceEqDiff, Nat.reduceBEq, reduceCtorEq, Nat.reduceAdd, Nat.reduceMul, Nat.reduceSub, Nat.reduceLT, Int.reduceToNat, Int.reduceLT, Int.reduceLE, Int.reduceEq, Int.reduceAdd, Int.reduceNeg, Int.reduceMul, Int.reduceSub]
      have hle : cnt sgHeld l ≤ 512 * n := by omega
      simp -implicitDefEqProofs (disch := omega) only [hle, mwx, ne_eq, false_implies, implies_true, forall_eq_or_imp, MW.get, ev, evs, argFr, resK, packV, slHK, partsV, partsS, setR, Int.cast_ofNat_Int, Int.natCast_zero, Int.natCast_one, Nat.reduceLeDiff, reduceIte, Nat.reduceEqDiff, Nat.reduceBEq, reduceCtorEq, Nat.reduceAdd, Nat.reduceMul, Nat.reduceSub, Nat.reduceLT, Int.reduceToNat, Int.reduceLT, Int.reduceLE, Int.reduceEq, Int.reduceAdd, Int.reduceNeg, Int.reduceMul, Int.reduceSub]
      exact frz_bool rfl

end Go.Proofs.YtphbhoggcddgmaaDoor
