import Derived.Test.YtlcbogafgdofgaaDoorMwB9
/- Store: in what order two objects are dropped (the walk). -/
namespace Go.Proofs.YtlcbogafgdofgaaDoor
open Go Go.MW
set_option linter.unusedSimpArgs false
set_option linter.unusedVariables false
set_option maxRecDepth 20000

theorem own_callF2 {α : Type} {e : El α} {sz : Nat} (he1 : e.sz = sz) {H : List Blk} {v : V} {xs : List α} (h : Own sz H v (e.vs xs)) : ∃ w, IsE e w xs ∧ ∀ {im : Bool} {f : Nat} {a r : V} {K : V → List Blk → Prop}, Does Tryd.prog G0 im f [a, w] r → Free true a → (∀ H', Mod (fun x => hasB v x) H H' → K r H') → callK Tryd.prog G0 false f [a, v] H K := by
  rcases h with ⟨rfl, hx⟩ | ⟨b, cap, opn, rfl, hb, hc⟩
  · refine ⟨.nils, .inl ⟨rfl, El.vs_eq_nil.1 hx⟩, fun hd ha hk => Does.call hd (fr2 ha .nils) (hk H ⟨Nat.le_refl _, fun _ _ _ => rfl⟩)⟩
  · refine ⟨.vs (e.vs xs), isE_vs xs, fun {im f a r K} hd ha hk => ?_⟩
    have h1 := Does.callF (G := G0) (P := Tryd.prog) (pre := [a]) (post := []) (b := b) (n := (e.vs xs).length) (i := 0) (len := (e.vs xs).length) (sz := sz) (cap := cap) (xs := e.vs xs) (opn := opn) (H := H) (K := K) (r := r) (im := im) (f := f) (by rw [List.drop_zero, List.take_length]; exact hd) (by intro x hx; rw [List.mem_singleton] at hx; subst hx; exact ha) (fun x hx => nomatch hx) hb rfl (by omega) ?_ ?_
    · exact h1
    · rw [List.drop_zero, List.take_length]
      intro y hy j hj
      obtain ⟨i, hi, rfl⟩ := List.getElem_of_mem hy
      have := El.vs_free (e := e) (im := true) xs (fun _ => rfl) i j hi
      rw [List.getD_eq_getElem?_getD, List.getElem?_eq_getElem hi] at this
      exact this hj
    · exact hk _ ⟨by simp, fun q hq hn => getB_set_ne _ fun e => hn e⟩

theorem put_step {S : SB} (hw : W S) (hk : PK S.1) (hl : S.1.length = 8) {N : Int} (hN : N ≤ 10) (hb : ∀ c, slN c ≠ 0 → NU S.1 c ≤ N) {d : List UInt8} (hd : d.length ≤ 300) :
    W (putS S.1 S.2 d).1.1 ∧ PK (putS S.1 S.2 d).1.1.1 ∧ (putS S.1 S.2 d).1.1.1.length = 8 ∧ (∀ c, slN c ≠ 0 → NU (putS S.1 S.2 d).1.1.1 c ≤ N + 5) ∧ ((putS S.1 S.2 d).2 = 0 ↔ d ≠ []) := by
  by_cases h : d = []
  · have he := putS_none (S := S) h
    have h1 := putS_err hw he
    rw [h1]
    exact ⟨hw, hk, hl, fun c hc => by have := hb c hc; show NU S.1 c ≤ _; omega, fun h' => absurd h' he, fun h' => absurd h h'⟩
  · have hd' : 1 ≤ d.length := by
      rcases Nat.eq_zero_or_pos d.length with h' | h'
      · exact absurd (List.length_eq_zero_iff.1 h') h
      · exact h'
    obtain ⟨a1, a2, a3⟩ := putS_few hw hk hl ⟨hd', hd⟩ fun c hc => by have := hb c hc; omega
    obtain ⟨_, _, p⟩ := putS_law hw a1
    exact ⟨p.w, a2, by rw [p.len]; exact hl, fun c hc => by have := a3 c hc; have := hb c hc; omega, fun _ => h, fun _ => a1⟩

theorem order_fn (a b c : List UInt8) : Does Tryd.prog G0 true 5 [.str a, .str b, .str c] (.bool true) := by
  refine Does.intro mixed comp5 ?_
  unfold c5
  simp -implicitDefEqProofs (disch := omega) only [mwx, ne_eq, false_implies, implies_true, forall_eq_or_imp, MW.get, ev, evs, argFr, resK, packV, slHK, partsV, partsS, setR, Int.cast_ofNat_Int, Int.natCast_zero, Int.natCast_one, Nat.reduceLeDiff, reduceIte, Nat.reduceEqDiff, Nat.reduceBEq, reduceCtorEq, Nat.reduceAdd, Nat.reduceMul, Nat.reduceSub, Nat.reduceLT, Int.reduceToNat, Int.reduceLT, Int.reduceLE, Int.reduceEq, Int.reduceAdd, Int.reduceNeg, Int.reduceMul, Int.reduceSub]
  refine Does.call awake_fn fr0 ?_
  simp -implicitDefEqProofs (disch := omega) only [mwx, ne_eq, false_implies, implies_true, forall_eq_or_imp, MW.get, ev, evs, argFr, resK, packV, slHK, partsV, partsS, setR, Int.cast_ofNat_Int, Int.natCast_zero, Int.natCast_one, Nat.reduceLeDiff, reduceIte, Nat.reduceEqDiff, Nat.reduceBEq, reduceCtorEq, Nat.reduceAdd, Nat.reduceMul, Nat.reduceSub, Nat.reduceLT, Int.reduceToNat, Int.reduceLT, Int.reduceLE, Int.reduceEq, Int.reduceAdd, Int.reduceNeg, Int.reduceMul, Int.reduceSub]
  refine xg_decf (fun ha => ?_) fun ha => ?_
  · simp -implicitDefEqProofs (disch := omega) only [ha, mwx, ne_eq, false_implies, implies_true, forall_eq_or_imp, MW.get, ev, evs, argFr, resK, packV, slHK, partsV, partsS, setR, Int.cast_ofNat_Int, Int.natCast_zero, Int.natCast_one, Nat.reduceLeDiff, reduceIte, Nat.reduceEqDiff, Nat.reduceBEq, reduceCtorEq, Nat.reduceAdd, Nat.reduceMul, Nat.reduceSub, Nat.reduceLT, Int.reduceToNat, Int.reduceLT, Int.reduceLE, Int.reduceEq, Int.reduceAdd, Int.reduceNeg, Int.reduceMul, Int.reduceSub]
    exact frz_bool rfl
  simp -implicitDefEqProofs (disch := omega) only [ha, mwx, ne_eq, false_implies, implies_true, forall_eq_or_imp, MW.get, ev, evs, argFr, resK, packV, slHK, partsV, partsS, setR, Int.cast_ofNat_Int, Int.natCast_zero, Int.natCast_one, Nat.reduceLeDiff, reduceIte, Nat.reduceEqDiff, Nat.reduceBEq, reduceCtorEq, Nat.reduceAdd, Nat.reduceMul, Nat.reduceSub, Nat.reduceLT, Int.reduceToNat, Int.reduceLT, Int.reduceLE, Int.reduceEq, Int.reduceAdd, Int.reduceNeg, Int.reduceMul, Int.reduceSub]
  refine xg_decf (fun hb => ?_) fun hb => ?_
  · simp -implicitDefEqProofs (disch := omega) only [hb, mwx, ne_eq, false_implies, implies_true, forall_eq_or_imp, MW.get, ev, evs, argFr, resK, packV, slHK, partsV, partsS, setR, Int.cast_ofNat_Int, Int.natCast_zero, Int.natCast_one, Nat.reduceLeDiff, reduceIte, Nat.reduceEqDiff, Nat.reduceBEq, reduceCtorEq, Nat.reduceAdd, Nat.reduceMul, Nat.reduceSub, Nat.reduceLT, Int.reduceToNat, Int.reduceLT, Int.reduceLE, Int.reduceEq, Int.reduceAdd, Int.reduceNeg, Int.reduceMul, Int.reduceSub]
    exact frz_bool rfl
  simp -implicitDefEqProofs (disch := omega) only [hb, mwx, ne_eq, false_implies, implies_true, forall_eq_or_imp, MW.get, ev, evs, argFr, resK, packV, slHK, partsV, partsS, setR, Int.cast_ofNat_Int, Int.natCast_zero, Int.natCast_one, Nat.reduceLeDiff, reduceIte, Nat.reduceEqDiff, Nat.reduceBEq, reduceCtorEq, Nat.reduceAdd, Nat.reduceMul, Nat.reduceSub, Nat.reduceLT, Int.reduceToNat, Int.reduceLT, Int.reduceLE, Int.reduceEq, Int.reduceAdd, Int.reduceNeg, Int.reduceMul, Int.reduceSub]
  refine xc_dec (fun hc => ?_) fun hc => ?_
  · simp -implicitDefEqProofs (disch := omega) only [mwx, ne_eq, false_implies, implies_true, forall_eq_or_imp, MW.get, ev, evs, argFr, resK, packV, slHK, partsV, partsS, setR, Int.cast_ofNat_Int, Int.natCast_zero, Int.natCast_one, Nat.reduceLeDiff, reduceIte, Nat.reduceEqDiff, Nat.reduceBEq, reduceCtorEq, Nat.reduceAdd, Nat.reduceMul, Nat.reduceSub, Nat.reduceLT, Int.reduceToNat, Int.reduceLT, Int.reduceLE, Int.reduceEq, Int.reduceAdd, Int.reduceNeg, Int.reduceMul, Int.reduceSub]
    exact frz_bool rfl
  have inv0 : SInv (List.replicate 8 (-1, 0), List.replicate (8 * 512) 0) [] := SInv.new 8 (by decide)
  have pk0 := PK_new 8
  simp -implicitDefEqProofs (disch := omega) only [mwx, ne_eq, false_implies, implies_true, forall_eq_or_imp, MW.get, ev, evs, argFr, resK, packV, slHK, partsV, partsS, setR, Int.cast_ofNat_Int, Int.natCast_zero, Int.natCast_one, Nat.reduceLeDiff, reduceIte, Nat.reduceEqDiff, Nat.reduceBEq, reduceCtorEq, Nat.reduceAdd, Nat.reduceMul, Nat.reduceSub, Nat.reduceLT, Int.reduceToNat, Int.reduceLT, Int.reduceLE, Int.reduceEq, Int.reduceAdd, Int.reduceNeg, Int.reduceMul, Int.reduceSub]
  refine Does.call (newS_fn 8 (by decide)) (fr1 (.int _ _)) ?_
  have n0 := newS_fn 8 (by decide)
  generalize hS : ((List.replicate 8 (-1, 0), List.replicate (8 * 512) 0) : SB) = S0 at inv0
  have e1 : (List.replicate 8 (-1, 0) : List Sg) = S0.1 := by rw [← hS]
  have e2 : (List.replicate (8 * 512) 0 : List UInt8) = S0.2 := by rw [← hS]
  have e3 : S0.1.length = 8 := by rw [← e1]; rfl
  rw [e1] at pk0
  rw [e1, e2]
  clear hS e1 e2 n0
  have hb0 := inv0.w.b
  obtain ⟨W1, K1, L1, N1, E1⟩ := put_step inv0.w pk0.1 e3 (N := 0) (by omega) (fun c hc => by rw [pk0.2 c hc]; omega) (d := a) (by omega)
  obtain ⟨W2, K2, L2, N2, E2⟩ := put_step W1 K1 L1 (N := 5) (by omega) (fun c hc => by have := N1 c hc; omega) (d := b) (by omega)
  obtain ⟨W3, K3, L3, N3, E3⟩ := put_step W2 K2 L2 (N := 10) (by omega) (fun c hc => by have := N2 c hc; omega) (d := c) (by omega)
  have B1 := W1.b
  have B2 := W2.b
  have B3 := W3.b
  obtain ⟨v1, w1, i1, k1, d1⟩ := put_fn (isE_vs (e := segE) S0.1) inv0.w.ok (by omega) (b := S0.2) (by omega) (d := a) (by omega)
  obtain ⟨v2, w2, i2, k2, d2⟩ := put_fn i1 W1.ok (by omega) (b := (putS S0.1 S0.2 a).1.1.2) (by omega) (d := b) (by omega)
  obtain ⟨v3, w3, i3, k3, d3⟩ := put_fn i2 W2.ok (by omega) (b := (putS (putS S0.1 S0.2 a).1.1.1 (putS S0.1 S0.2 a).1.1.2 b).1.1.2) (by omega) (d := c) (by omega)
  have o1 := (isE_one i1).2.2
  have o2 := (isE_one i2).2.2
  have o3 := (isE_one i3).2.2
  simp -implicitDefEqProofs (disch := omega) only [mwx, ne_eq, false_implies, implies_true, forall_eq_or_imp, MW.get, ev, evs, argFr, resK, packV, slHK, partsV, partsS, setR, Int.cast_ofNat_Int, Int.natCast_zero, Int.natCast_one, Nat.reduceLeDiff, reduceIte, Nat.reduceEqDiff, Nat.reduceBEq, reduceCtorEq, Nat.reduceAdd, Nat.reduceMul, Nat.reduceSub, Nat.reduceLT, Int.reduceToNat, Int.reduceLT, Int.reduceLE, Int.reduceEq, Int.reduceAdd, Int.reduceNeg, Int.reduceMul, Int.reduceSub]
  refine Does.call d1 (fr2 (store_free (isE_vs _) _) (.str _)) ?_
  simp -implicitDefEqProofs (disch := omega) only [o1, mwx, ne_eq, false_implies, implies_true, forall_eq_or_imp, MW.get, ev, evs, argFr, resK, packV, slHK, partsV, partsS, setR, Int.cast_ofNat_Int, Int.natCast_zero, Int.natCast_one, Nat.reduceLeDiff, reduceIte, Nat.reduceEqDiff, Nat.reduceBEq, reduceCtorEq, Nat.reduceAdd, Nat.reduceMul, Nat.reduceSub, Nat.reduceLT, Int.reduceToNat, Int.reduceLT, Int.reduceLE, Int.reduceEq, Int.reduceAdd, Int.reduceNeg, Int.reduceMul, Int.reduceSub]
  refine Does.call d2 (fr2 (store_free i1 _) (.str _)) ?_
  simp -implicitDefEqProofs (disch := omega) only [o2, mwx, ne_eq, false_implies, implies_true, forall_eq_or_imp, MW.get, ev, evs, argFr, resK, packV, slHK, partsV, partsS, setR, Int.cast_ofNat_Int, Int.natCast_zero, Int.natCast_one, Nat.reduceLeDiff, reduceIte, Nat.reduceEqDiff, Nat.reduceBEq, reduceCtorEq, Nat.reduceAdd, Nat.reduceMul, Nat.reduceSub, Nat.reduceLT, Int.reduceToNat, Int.reduceLT, Int.reduceLE, Int.reduceEq, Int.reduceAdd, Int.reduceNeg, Int.reduceMul, Int.reduceSub]
  refine Does.call d3 (fr2 (store_free i2 _) (.str _)) ?_
  simp -implicitDefEqProofs (disch := omega) only [o3, mwx, ne_eq, false_implies, implies_true, forall_eq_or_imp, MW.get, ev, evs, argFr, resK, packV, slHK, partsV, partsS, setR, Int.cast_ofNat_Int, Int.natCast_zero, Int.natCast_one, Nat.reduceLeDiff, reduceIte, Nat.reduceEqDiff, Nat.reduceBEq, reduceCtorEq, Nat.reduceAdd, Nat.reduceMul, Nat.reduceSub, Nat.reduceLT, Int.reduceToNat, Int.reduceLT, Int.reduceLE, Int.reduceEq, Int.reduceAdd, Int.reduceNeg, Int.reduceMul, Int.reduceSub]
  have nn : ∀ s : List UInt8, s ≠ [] → (s == []) = false := fun s h => by cases s <;> simp_all
  have ny : ∀ s : List UInt8, ¬ s ≠ [] → (s == []) = true := fun s h => by cases s <;> simp_all
  refine xg_dec (fun g1 => ?_) fun g1 => ?_
  rotate_left
  · have q1 := ny a fun h => g1 (E1.2 h)
    simp -implicitDefEqProofs (disch := omega) only [g1, q1, mwx, ne_eq, false_implies, implies_true, forall_eq_or_imp, MW.get, ev, evs, argFr, resK, packV, slHK, partsV, partsS, setR, Int.cast_ofNat_Int, Int.natCast_zero, Int.natCast_one, Nat.reduceLeDiff, reduceIte, Nat.reduceEqDiff, Nat.reduceBEq, reduceCtorEq, Nat.reduceAdd, Nat.reduceMul, Nat.reduceSub, Nat.reduceLT, Int.reduceToNat, Int.reduceLT, Int.reduceLE, Int.reduceEq, Int.reduceAdd, Int.reduceNeg, Int.reduceMul, Int.reduceSub]
    exact frz_bool rfl
  have q1 := nn a (E1.1 g1)
  simp -implicitDefEqProofs (disch := omega) only [g1, mwx, ne_eq, false_implies, implies_true, forall_eq_or_imp, MW.get, ev, evs, argFr, resK, packV, slHK, partsV, partsS, setR, Int.cast_ofNat_Int, Int.natCast_zero, Int.natCast_one, Nat.reduceLeDiff, reduceIte, Nat.reduceEqDiff, Nat.reduceBEq, reduceCtorEq, Nat.reduceAdd, Nat.reduceMul, Nat.reduceSub, Nat.reduceLT, Int.reduceToNat, Int.reduceLT, Int.reduceLE, Int.reduceEq, Int.reduceAdd, Int.reduceNeg, Int.reduceMul, Int.reduceSub]
  refine xg_dec (fun g2 => ?_) fun g2 => ?_
  rotate_left
  · have q2 := ny b fun h => g2 (E2.2 h)
    simp -implicitDefEqProofs (disch := omega) only [g2, q1, q2, mwx, ne_eq, false_implies, implies_true, forall_eq_or_imp, MW.get, ev, evs, argFr, resK, packV, slHK, partsV, partsS, setR, Int.cast_ofNat_Int, Int.natCast_zero, Int.natCast_one, Nat.reduceLeDiff, reduceIte, Nat.reduceEqDiff, Nat.reduceBEq, reduceCtorEq, Nat.reduceAdd, Nat.reduceMul, Nat.reduceSub, Nat.reduceLT, Int.reduceToNat, Int.reduceLT, Int.reduceLE, Int.reduceEq, Int.reduceAdd, Int.reduceNeg, Int.reduceMul, Int.reduceSub]
    exact frz_bool rfl
  have q2 := nn b (E2.1 g2)
  simp -implicitDefEqProofs (disch := omega) only [g2, mwx, ne_eq, false_implies, implies_true, forall_eq_or_imp, MW.get, ev, evs, argFr, resK, packV, slHK, partsV, partsS, setR, Int.cast_ofNat_Int, Int.natCast_zero, Int.natCast_one, Nat.reduceLeDiff, reduceIte, Nat.reduceEqDiff, Nat.reduceBEq, reduceCtorEq, Nat.reduceAdd, Nat.reduceMul, Nat.reduceSub, Nat.reduceLT, Int.reduceToNat, Int.reduceLT, Int.reduceLE, Int.reduceEq, Int.reduceAdd, Int.reduceNeg, Int.reduceMul, Int.reduceSub]
  refine xc_dec (fun g3 => ?_) fun g3 => ?_
  rotate_left
  · have q3 := ny c fun h => g3 (E3.2 h)
    simp -implicitDefEqProofs (disch := omega) only [q1, q2, q3, mwx, ne_eq, false_implies, implies_true, forall_eq_or_imp, MW.get, ev, evs, argFr, resK, packV, slHK, partsV, partsS, setR, Int.cast_ofNat_Int, Int.natCast_zero, Int.natCast_one, Nat.reduceLeDiff, reduceIte, Nat.reduceEqDiff, Nat.reduceBEq, reduceCtorEq, Nat.reduceAdd, Nat.reduceMul, Nat.reduceSub, Nat.reduceLT, Int.reduceToNat, Int.reduceLT, Int.reduceLE, Int.reduceEq, Int.reduceAdd, Int.reduceNeg, Int.reduceMul, Int.reduceSub]
    exact frz_bool rfl
  obtain ⟨pa, pa', p1⟩ := putS_law inv0.w g1
  have inv1 := inv0.put ⟨pa, pa'⟩ p1
  obtain ⟨pb, pb', p2⟩ := putS_law W1 g2
  have inv2 := inv1.put ⟨pb, pb'⟩ p2
  obtain ⟨pc, pc', p3⟩ := putS_law W2 g3
  have inv3 := inv2.put ⟨pc, pc'⟩ p3
  clear d1 d2 d3 E1 E2 E3 N1 N2 N3 p1 p2 p3 inv1 inv2 i1 i2 K1 K2 K3 W1 W2 B1 B2 L1 L2 o1 o2
  generalize (putS (putS (putS S0.1 S0.2 a).1.1.1 (putS S0.1 S0.2 a).1.1.2 b).1.1.1 (putS (putS S0.1 S0.2 a).1.1.1 (putS S0.1 S0.2 a).1.1.2 b).1.1.2 c).1.1 = S at *
  generalize (putS (putS (putS S0.1 S0.2 a).1.1.1 (putS S0.1 S0.2 a).1.1.2 b).1.1.1 (putS (putS S0.1 S0.2 a).1.1.1 (putS S0.1 S0.2 a).1.1.2 b).1.1.2 c).1.2 = m at *
  generalize (putS (putS S0.1 S0.2 a).1.1.1 (putS S0.1 S0.2 a).1.1.2 b).1.2 = l at *
  generalize (putS S0.1 S0.2 a).1.2 = k at *
  obtain ⟨X, Y, Z, ex, ey, exz, eyz, ez, WX, WY, WZ, lx, ly, lz, eg, nk, nl, nm⟩ := order_law (S := S) (k := k) (l := l) (m := m) (a := a) (b := b) (c := c) (by simpa using inv3)
  have bX := WX.b
  have bY := WY.b
  have bZ := WZ.b
  obtain ⟨x1, j1, f1⟩ := drop_fn i3 W3.ok (by omega) (b := S.2) (by omega) k1 (by omega)
  rw [ex] at j1 f1
  simp only at j1 f1
  obtain ⟨x2, j2, f2⟩ := drop_fn j1 WX.ok (by omega) (b := X.2) (by omega) k3 (by omega)
  rw [exz] at j2 f2
  simp only at j2 f2
  obtain ⟨y1, j3, f3⟩ := drop_fn i3 W3.ok (by omega) (b := S.2) (by omega) k3 (by omega)
  rw [ey] at j3 f3
  simp only at j3 f3
  obtain ⟨y2, j4, f4⟩ := drop_fn j3 WY.ok (by omega) (b := Y.2) (by omega) k1 (by omega)
  rw [eyz] at j4 f4
  simp only at j4 f4
  have o4 := (isE_one j1).2.2
  have o5 := (isE_one j2).2.2
  have o6 := (isE_one j3).2.2
  have o7 := (isE_one j4).2.2
  simp -implicitDefEqProofs (disch := omega) only [mwx, ne_eq, false_implies, implies_true, forall_eq_or_imp, MW.get, ev, evs, argFr, resK, packV, slHK, partsV, partsS, setR, Int.cast_ofNat_Int, Int.natCast_zero, Int.natCast_one, Nat.reduceLeDiff, reduceIte, Nat.reduceEqDiff, Nat.reduceBEq, reduceCtorEq, Nat.reduceAdd, Nat.reduceMul, Nat.reduceSub, Nat.reduceLT, Int.reduceToNat, Int.reduceLT, Int.reduceLE, Int.reduceEq, Int.reduceAdd, Int.reduceNeg, Int.reduceMul, Int.reduceSub]
  refine Does.call f1 (fr2 (store_free i3 _) k1.free) ?_
  simp -implicitDefEqProofs (disch := omega) only [o4, mwx, ne_eq, false_implies, implies_true, forall_eq_or_imp, MW.get, ev, evs, argFr, resK, packV, slHK, partsV, partsS, setR, Int.cast_ofNat_Int, Int.natCast_zero, Int.natCast_one, Nat.reduceLeDiff, reduceIte, Nat.reduceEqDiff, Nat.reduceBEq, reduceCtorEq, Nat.reduceAdd, Nat.reduceMul, Nat.reduceSub, Nat.reduceLT, Int.reduceToNat, Int.reduceLT, Int.reduceLE, Int.reduceEq, Int.reduceAdd, Int.reduceNeg, Int.reduceMul, Int.reduceSub]
  refine Does.call f2 (fr2 (store_free j1 _) k3.free) ?_
  simp -implicitDefEqProofs (disch := omega) only [o5, mwx, ne_eq, false_implies, implies_true, forall_eq_or_imp, MW.get, ev, evs, argFr, resK, packV, slHK, partsV, partsS, setR, Int.cast_ofNat_Int, Int.natCast_zero, Int.natCast_one, Nat.reduceLeDiff, reduceIte, Nat.reduceEqDiff, Nat.reduceBEq, reduceCtorEq, Nat.reduceAdd, Nat.reduceMul, Nat.reduceSub, Nat.reduceLT, Int.reduceToNat, Int.reduceLT, Int.reduceLE, Int.reduceEq, Int.reduceAdd, Int.reduceNeg, Int.reduceMul, Int.reduceSub]
  refine Does.call f3 (fr2 (store_free i3 _) k3.free) ?_
  simp -implicitDefEqProofs (disch := omega) only [o6, mwx, ne_eq, false_implies, implies_true, forall_eq_or_imp, MW.get, ev, evs, argFr, resK, packV, slHK, partsV, partsS, setR, Int.cast_ofNat_Int, Int.natCast_zero, Int.natCast_one, Nat.reduceLeDiff, reduceIte, Nat.reduceEqDiff, Nat.reduceBEq, reduceCtorEq, Nat.reduceAdd, Nat.reduceMul, Nat.reduceSub, Nat.reduceLT, Int.reduceToNat, Int.reduceLT, Int.reduceLE, Int.reduceEq, Int.reduceAdd, Int.reduceNeg, Int.reduceMul, Int.reduceSub]
  refine Does.call f4 (fr2 (store_free j3 _) k1.free) ?_
  simp -implicitDefEqProofs (disch := omega) only [o7, elemsK_isE k3, mwx, ne_eq, false_implies, implies_true, forall_eq_or_imp, MW.get, ev, evs, argFr, resK, packV, slHK, partsV, partsS, setR, Int.cast_ofNat_Int, Int.natCast_zero, Int.natCast_one, Nat.reduceLeDiff, reduceIte, Nat.reduceEqDiff, Nat.reduceBEq, reduceCtorEq, Nat.reduceAdd, Nat.reduceMul, Nat.reduceSub, Nat.reduceLT, Int.reduceToNat, Int.reduceLT, Int.reduceLE, Int.reduceEq, Int.reduceAdd, Int.reduceNeg, Int.reduceMul, Int.reduceSub]
  have hroom : ∀ m b, m ≤ 300 → b ≤ 128 → roomy m b := fun m b h1 h2 => roomy_of (by omega) h2
  generalize hH : [Blk.row 2 [V.agg [v3, V.str S.2]] false false, Blk.row 2 [V.agg [x2, V.str Z.2]] false false, Blk.row 2 [V.agg [y2, V.str Z.2]] false false, Blk.row 2 [V.agg [V.nils, V.str []]] false false] = H0
  have hH4 : [Blk.row 2 [V.agg [v3, V.str S.2]] false false, Blk.row 2 [V.agg [x2, V.str Z.2]] false false, Blk.row 2 [V.agg [y2, V.str Z.2]] false false, Blk.row 2 [V.agg [V.nils, V.str []]] false false, Blk.row 2 [] false false] = H0 ++ [Blk.row 2 [] false false] := by rw [← hH]; rfl
  rw [hH4]
  have l4 : H0.length = 4 := by rw [← hH]; rfl
  have q0 : getB H0 0 = .row 2 [.agg [v3, .str S.2]] false false := by rw [← hH]; rfl
  have q1' : getB H0 1 = .row 2 [.agg [x2, .str Z.2]] false false := by rw [← hH]; rfl
  have q2' : getB H0 2 = .row 2 [.agg [y2, .str Z.2]] false false := by rw [← hH]; rfl
  have q3' : getB H0 3 = .row 2 [.agg [.nils, .str []]] false false := by rw [← hH]; rfl
  clear hH hH4
  have kp1 : Keeps H0 (H0 ++ [.row 2 [] false false]) := .app _ _
  refine (Own.hs (sz := 2) (xs := []) rfl (by rw [← l4]; exact getB_new _ _) (.inr rfl)).appS (by simp [Goods]) (El.vs_goods (e := slotE) m) (hroom _ _ (by rw [El.vs_length]; simp; omega) (by decide)) fun u1 H1 o8 b1 c1 => ?_
  have c1' : ∀ b, hasB u1 b → H0.length ≤ b := fun b hb => by
    rcases c1 b hb with h | h
    · have : 4 = b := h
      omega
    · rw [List.length_append] at h; omega
  have kp2 : Keeps H0 H1 := b1.fresh kp1 fun b hb => by have : 4 = b := hb; omega
  rw [List.nil_append] at o8
  simp -implicitDefEqProofs (disch := omega) only [elemsK_isE k1, mwx, ne_eq, false_implies, implies_true, forall_eq_or_imp, MW.get, ev, evs, argFr, resK, packV, slHK, partsV, partsS, setR, Int.cast_ofNat_Int, Int.natCast_zero, Int.natCast_one, Nat.reduceLeDiff, reduceIte, Nat.reduceEqDiff, Nat.reduceBEq, reduceCtorEq, Nat.reduceAdd, Nat.reduceMul, Nat.reduceSub, Nat.reduceLT, Int.reduceToNat, Int.reduceLT, Int.reduceLE, Int.reduceEq, Int.reduceAdd, Int.reduceNeg, Int.reduceMul, Int.reduceSub]
  refine o8.appS (El.vs_goods (e := slotE) m) (El.vs_goods (e := slotE) k) (hroom _ _ (by rw [El.vs_length, El.vs_length]; omega) (by decide)) fun u2 H2 o9 b2 c2 => ?_
  have c2' : ∀ b, hasB u2 b → H0.length ≤ b := fun b hb => by
    rcases c2 b hb with h | h
    · exact c1' b h
    · have := kp2.1; omega
  have kp3 : Keeps H0 H2 := b2.fresh kp2 c1'
  rw [El.vs_append] at o9
  obtain ⟨wz, hwz, hcall⟩ := own_callF2 (e := slotE) rfl o9
  obtain ⟨z1, j5, f5⟩ := drop_fn i3 W3.ok (by omega) (b := S.2) (by omega) hwz (by rw [List.length_append]; omega)
  rw [ez] at j5 f5
  simp only at j5 f5
  have o10 := (isE_one j5).2.2
  have g6 := get_fn j2 WZ.ok (by omega) (b := Z.2) (by omega) k2 (by omega) b.length
  rw [eg] at g6
  simp -implicitDefEqProofs (disch := omega) only [mwx, ne_eq, false_implies, implies_true, forall_eq_or_imp, MW.get, ev, evs, argFr, resK, packV, slHK, partsV, partsS, setR, Int.cast_ofNat_Int, Int.natCast_zero, Int.natCast_one, Nat.reduceLeDiff, reduceIte, Nat.reduceEqDiff, Nat.reduceBEq, reduceCtorEq, Nat.reduceAdd, Nat.reduceMul, Nat.reduceSub, Nat.reduceLT, Int.reduceToNat, Int.reduceLT, Int.reduceLE, Int.reduceEq, Int.reduceAdd, Int.reduceNeg, Int.reduceMul, Int.reduceSub]
  refine hcall f5 (store_free i3 _) fun H3 hM => ?_
  have hlow : ∀ q, q < 4 → getB H3 q = getB H0 q := fun q hq => by
    rw [hM.2 q (by have := kp3.1; omega) (fun h => by have := c2' q h; omega), kp3.2 q (by omega)]
  have r1 : getB H3 1 = .row 2 [.agg [x2, .str Z.2]] false false := by rw [hlow 1 (by omega), q1']
  have r2 : getB H3 2 = .row 2 [.agg [y2, .str Z.2]] false false := by rw [hlow 2 (by omega), q2']
  have r3 : getB H3 3 = .row 2 [.agg [.nils, .str []]] false false := by rw [hlow 3 (by omega), q3']
  have t1 : getB (H3.set 3 (.row 2 [.agg [z1, .str Z.2]] false false)) 1 = .row 2 [.agg [x2, .str Z.2]] false false := by rw [getB_set_ne _ (by decide), r1]
  have t2 : getB (H3.set 3 (.row 2 [.agg [z1, .str Z.2]] false false)) 2 = .row 2 [.agg [y2, .str Z.2]] false false := by rw [getB_set_ne _ (by decide), r2]
  have t3 : getB (H3.set 3 (.row 2 [.agg [z1, .str Z.2]] false false)) 3 = .row 2 [.agg [z1, .str Z.2]] false false := getB_set _ (getB_lt' r3)
  simp -implicitDefEqProofs (disch := omega) only [r3, o10, t1, t2, t3, mwx, ne_eq, false_implies, implies_true, forall_eq_or_imp, MW.get, ev, evs, argFr, resK, packV, slHK, partsV, partsS, setR, Int.cast_ofNat_Int, Int.natCast_zero, Int.natCast_one, Nat.reduceLeDiff, reduceIte, Nat.reduceEqDiff, Nat.reduceBEq, reduceCtorEq, Nat.reduceAdd, Nat.reduceMul, Nat.reduceSub, Nat.reduceLT, Int.reduceToNat, Int.reduceLT, Int.reduceLE, Int.reduceEq, Int.reduceAdd, Int.reduceNeg, Int.reduceMul, Int.reduceSub]
  refine Does.call g6 (fr3 (store_free j2 _) k2.free (.int _ _)) ?_
  have hZ : decide (Z.1 = Z.1 ∧ Z.2 = Z.2) = true := by simp
  have hbb : (b == b) = true := by simp
  simp -implicitDefEqProofs (disch := omega) only [t1, t2, t3, mwx, ne_eq, false_implies, implies_true, forall_eq_or_imp, MW.get, ev, evs, argFr, resK, packV, slHK, partsV, partsS, setR, Int.cast_ofNat_Int, Int.natCast_zero, Int.natCast_one, Nat.reduceLeDiff, reduceIte, Nat.reduceEqDiff, Nat.reduceBEq, reduceCtorEq, Nat.reduceAdd, Nat.reduceMul, Nat.reduceSub, Nat.reduceLT, Int.reduceToNat, Int.reduceLT, Int.reduceLE, Int.reduceEq, Int.reduceAdd, Int.reduceNeg, Int.reduceMul, Int.reduceSub]
  refine Does.call (same12 j2 j4 (by omega) Z.2 Z.2) (fr2 (store_free j2 _) (store_free j4 _)) ?_
  simp -implicitDefEqProofs (disch := omega) only [hZ, t1, t2, t3, mwx, ne_eq, false_implies, implies_true, forall_eq_or_imp, MW.get, ev, evs, argFr, resK, packV, slHK, partsV, partsS, setR, Int.cast_ofNat_Int, Int.natCast_zero, Int.natCast_one, Nat.reduceLeDiff, reduceIte, Nat.reduceEqDiff, Nat.reduceBEq, reduceCtorEq, Nat.reduceAdd, Nat.reduceMul, Nat.reduceSub, Nat.reduceLT, Int.reduceToNat, Int.reduceLT, Int.reduceLE, Int.reduceEq, Int.reduceAdd, Int.reduceNeg, Int.reduceMul, Int.reduceSub]
  refine Does.call (same12 j2 j5 (by omega) Z.2 Z.2) (fr2 (store_free j2 _) (store_free j5 _)) ?_
  simp -implicitDefEqProofs (disch := omega) only [hZ, hbb, mwx, ne_eq, false_implies, implies_true, forall_eq_or_imp, MW.get, ev, evs, argFr, resK, packV, slHK, partsV, partsS, setR, Int.cast_ofNat_Int, Int.natCast_zero, Int.natCast_one, Nat.reduceLeDiff, reduceIte, Nat.reduceEqDiff, Nat.reduceBEq, reduceCtorEq, Nat.reduceAdd, Nat.reduceMul, Nat.reduceSub, Nat.reduceLT, Int.reduceToNat, Int.reduceLT, Int.reduceLE, Int.reduceEq, Int.reduceAdd, Int.reduceNeg, Int.reduceMul, Int.reduceSub]
  exact frz_bool rfl

end Go.Proofs.YtlcbogafgdofgaaDoor

/- Store: more types of arguments. -/
namespace Go.Proofs.YtlcbogafgdofgaaDoor
open Go Go.MW Go.ChangeShapes Go.WideShapes Go.ChangeAt Go.RowKit
set_option linter.unusedVariables false
set_option linter.unusedSimpArgs false

theorem typ_strs {M : Nat} {v : V} (h : Typ Tryd.prog M 44 v) : ∃ l, IsE strE v l ∧ l.length ≤ M := by
  obtain ⟨l, h1, _, h2⟩ := typ_list (e := strE) (Q := fun _ => True) Tryd.underlying44 (fun _ _ h => by
    obtain ⟨s, rfl, _⟩ := typN_str Tryd.underlying9 h
    exact ⟨s, by simp [mkV, Tryd.underlying9, strE], trivial⟩) h
  exact ⟨l, h1, h2⟩
theorem typ_bytes {M : Nat} {v : V} (h : Typ Tryd.prog M 45 v) : ∃ l, IsE u8E v l ∧ l.length ≤ M := by
  obtain ⟨l, h1, _, h2⟩ := typ_list (e := u8E) (Q := fun _ => True) Tryd.underlying45 (fun _ _ h => by
    obtain ⟨m, rfl, hm⟩ := typN_int Tryd.underlying5 h
    obtain ⟨n, rfl, hn⟩ := u8_nat hm
    refine ⟨UInt8.ofNat n, ?_, trivial⟩
    have : (UInt8.ofNat n).toNat = n := by simp [UInt8.toNat_ofNat]; omega
    simp [mkV, Tryd.underlying5, u8E, this]) h
  exact ⟨l, h1, h2⟩

end Go.Proofs.YtlcbogafgdofgaaDoor

