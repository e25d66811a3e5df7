import Derived.Test.YtlcbogafgdofgaaDoorRows
import Derived.ProofKit
import Derived.LaidMore
import Derived.OpenShut
import Derived.Stop.Joined
import Derived.Test.YtlcbogafgdofgaaDoorMwB7
/- Store (chapter 12): all laid anew. -/
namespace Go.Proofs.YtlcbogafgdofgaaDoor
open Go Go.MW
set_option linter.unusedSimpArgs false
set_option linter.unusedVariables false
set_option maxRecDepth 8000

/-- One object laid anew; all. -/
def packC (l0 : List Sg) (b0 : List UInt8) : List (Int × Int) → SB → SB × List (Int × Int)
  | [], S => (S, [])
  | x :: xs, S =>
    ((packC l0 b0 xs ((tak S.1 (sat l0 x.1.toNat).1).1, takB S.1 S.2 (sat l0 x.1.toNat).1 (rdS l0 b0 x))).1,
      (tak S.1 (sat l0 x.1.toNat).1).2.1 :: (packC l0 b0 xs ((tak S.1 (sat l0 x.1.toNat).1).1, takB S.1 S.2 (sat l0 x.1.toNat).1 (rdS l0 b0 x))).2)
def packL (l0 : List Sg) (b0 : List UInt8) : List (List (Int × Int)) → SB → SB × List (List (Int × Int))
  | [], S => (S, [])
  | c :: cs, S => ((packL l0 b0 cs (packC l0 b0 c S).1).1, (packC l0 b0 c S).2 :: (packL l0 b0 cs (packC l0 b0 c S).1).2)
def packS (l : List Sg) (b : List UInt8) (cs : List (List (Int × Int))) : (SB × List (List (Int × Int))) × Int :=
  if (dropS l b cs.flatten).2 = 0 ∧ ¬ 0 < cnt sgTaken (dropS l b cs.flatten).1.1 then (packL l b cs (dropS l b cs.flatten).1, 0) else (((l, b), []), 120)

theorem dropL_inv : ∀ (xs : List (Int × Int)) (l : List Sg) (b : List UInt8), SegOK l → chk l = true → b.length = l.length * 512 → SegOK (dropL xs l b).1.1 ∧ chk (dropL xs l b).1.1 = true ∧ (dropL xs l b).1.1.length = l.length ∧ (dropL xs l b).1.2.length = b.length
  | [], l, b, h1, h2, h3 => ⟨h1, h2, rfl, rfl⟩
  | x :: xs, l, b, h1, h2, h3 => by
    unfold dropL
    split
    · rename_i hx
      obtain ⟨g1, g2, g3, _⟩ := fre_ok h1 h2 x.1 x.2
      have hc := clrX_length h1 h3 hx
      obtain ⟨k1, k2, k3, k4⟩ := dropL_inv xs (fre l x.1 x.2).1 (clrX l b x) g2 g1 (by omega)
      exact ⟨k1, k2, by omega, by omega⟩
    · exact ⟨h1, h2, rfl, rfl⟩
/-- What is dropped was there. -/
theorem dropL_has : ∀ (xs : List (Int × Int)) (l : List Sg) (b : List UInt8), SegOK l → chk l = true → (dropL xs l b).2 = 0 → ∀ x ∈ xs, hasX l x = true
  | [], _, _, _, _, _, x, hx => by cases hx
  | y :: xs, l, b, h1, h2, h3, x, hx => by
    unfold dropL at h3
    split at h3
    · rename_i hy
      rcases List.mem_cons.1 hx with rfl | hx
      · exact hy
      · obtain ⟨g1, g2, _⟩ := fre_ok h1 h2 y.1 y.2
        have := dropL_has xs _ _ g2 g1 h3 x hx
        unfold hasX at this ⊢
        by_cases hxy : y.1 = x.1 ∧ y.2 = x.2
        · obtain rfl : y = x := Prod.ext hxy.1 hxy.2
          exact hy
        · rw [fre_has h1 h2 _ _ _ _ hxy] at this
          exact this
    · cases h3

theorem packC_cons_state {l0 : List Sg} {b0 : List UInt8} {x : Int × Int} {xs : List (Int × Int)} {S : SB} : packC l0 b0 (x :: xs) S =
    ((packC l0 b0 xs ((tak S.1 (sat l0 x.1.toNat).1).1, takB S.1 S.2 (sat l0 x.1.toNat).1 (rdS l0 b0 x))).1,
      (tak S.1 (sat l0 x.1.toNat).1).2.1 :: (packC l0 b0 xs ((tak S.1 (sat l0 x.1.toNat).1).1, takB S.1 S.2 (sat l0 x.1.toNat).1 (rdS l0 b0 x))).2) := rfl

/-- Blocks that may have changed. -/
def Mod (S : Nat → Prop) (H H' : List Blk) : Prop := H.length ≤ H'.length ∧ ∀ c, c < H.length → ¬ S c → getB H' c = getB H c
theorem Mod.trans {S : Nat → Prop} {H H' H'' : List Blk} (h : Mod S H H') (k : Mod S H' H'') : Mod S H H'' := ⟨Nat.le_trans h.1 k.1, fun c hc hs => by rw [k.2 c (Nat.lt_of_lt_of_le hc h.1) hs, h.2 c hc hs]⟩
theorem Mod.own {S : Nat → Prop} {H H' : List Blk} (h : Mod S H H') {sz : Nat} {o : V} {xs : List V} (ho : Own sz H o xs) (hs : ∀ c, hasB o c → ¬ S c) : Own sz H' o xs := by
  rcases ho with ho | ⟨c, cap, opn, rfl, hc, h3⟩
  · exact .inl ho
  · exact .inr ⟨c, cap, opn, rfl, by rw [h.2 c (getB_lt' hc) (hs c rfl)]; exact hc, h3⟩
theorem Keeps.mod {H H' : List Blk} (h : Keeps H H') (S : Nat → Prop) : Mod S H H' := ⟨h.1, fun c hc _ => h.2 c hc⟩
theorem Aside.mod {bd br : Nat} {H H' : List Blk} (h : Aside bd br H H') {S : Nat → Prop} (h1 : S bd) (h2 : S br) : Mod S H H' := ⟨h.1, fun c hc hs => h.2 c hc (fun e => hs (e ▸ h1)) (fun e => hs (e ▸ h2))⟩
theorem KeepsBut.mod {u : V} {H H' : List Blk} (h : KeepsBut u H H') {S : Nat → Prop} (hs : ∀ c, hasB u c → S c) : Mod S H H' := ⟨h.1, fun c hc hn => h.2 c hc fun hu => hn (hs c hu)⟩

/-- What is packed so far. -/
structure PInv (H : List Blk) (bd br : Nat) (v : V) (b : List UInt8) (o : V) (es : List V) (xss : List (List (Int × Int))) : Prop where
  b0 : getB H 0 = .row 2 [.agg [v, .str b]] false false
  b1 : getB H 1 = .row 2 [.agg [.nils, .str []]] false false
  d : 2 ≤ bd ∧ 2 ≤ br
  own : Own 1 H o es
  ol : es.length = xss.length
  on : ∀ c, hasB o c → c ≠ bd ∧ c ≠ br ∧ 2 ≤ c
  g : Goods 1 es
  e : ∀ k, k < es.length → Own 2 H (es.getD k .junk) (slotE.vs (xss.getD k [])) ∧ (∀ c, hasB (es.getD k .junk) c → c ≠ bd ∧ c ≠ br ∧ 2 ≤ c ∧ ¬ hasB o c)
theorem PInv.mod {H H' : List Blk} {bd br : Nat} {v : V} {b : List UInt8} {o : V} {es : List V} {xss : List (List (Int × Int))} (h : PInv H bd br v b o es xss) {S : Nat → Prop} (m : Mod S H H') (h0 : ∀ c, c < 2 → ¬ S c) (ho : ∀ c, hasB o c → ¬ S c)
    (he : ∀ k, k < es.length → ∀ c, hasB (es.getD k .junk) c → ¬ S c) : PInv H' bd br v b o es xss :=
  ⟨by rw [m.2 0 (getB_lt' h.b0) (h0 0 (by omega))]; exact h.b0, by rw [m.2 1 (getB_lt' h.b1) (h0 1 (by omega))]; exact h.b1, h.d, m.own h.own ho, h.ol, h.on, h.g, fun k hk => ⟨m.own (h.e k hk).1 (he k hk), (h.e k hk).2⟩⟩
theorem Desk.mod {H H' : List Blk} {bd br : Nat} {v : V} {b : List UInt8} (h : Desk H bd br v b) {S : Nat → Prop} (k : Mod S H H') (h1 : ¬ S bd) (h2 : ¬ S br) : Desk H' bd br v b :=
  ⟨h.ne, by rw [k.2 _ (getB_lt' h.d) h1]; exact h.d, by rw [k.2 _ (getB_lt' h.r) h2]; exact h.r⟩
theorem own_one {sz : Nat} {H : List Blk} {o : V} {xs : List V} (h : Own sz H o xs) : MW.Good 1 o := by
  rcases h with ⟨rfl, _⟩ | ⟨c, cap, opn, rfl, _, _⟩ <;> exact ⟨rfl, by simp [V.cells, V.one]⟩
theorem own_cells {sz : Nat} {H : List Blk} {o : V} {xs : List V} (h : Own sz H o xs) : V.solid o = true ∧ V.cells o = [o] := by
  rcases h with ⟨rfl, _⟩ | ⟨c, cap, opn, rfl, _, _⟩ <;> exact ⟨rfl, rfl⟩

/-- All of them, as one sees them. -/
theorem frz_es {H : List Blk} {o : V} {es : List V} {xss : List (List (Int × Int))} (hown : Own 1 H o es) (hol : es.length = xss.length) (he : ∀ k, k < es.length → Own 2 H (es.getD k .junk) (slotE.vs (xss.getD k []))) : ∃ (w : V) (ds : List Ch), ds.map (·.xs) = xss ∧ IsE chE w ds ∧ Frz true H o w := by
  have hall : ∀ (es : List V) (xss : List (List (Int × Int))), es.length = xss.length → (∀ k, k < es.length → Own 2 H (es.getD k .junk) (slotE.vs (xss.getD k []))) → ∃ ds : List Ch, ds.map (·.xs) = xss ∧ ∀ k, k < es.length → Frz true H (es.getD k .junk) (ds.getD k chE.d).v := by
    intro es
    induction es with
    | nil => intro xss hl _; exact ⟨[], by rw [List.length_nil] at hl; exact (List.length_eq_zero_iff.1 hl.symm).symm, fun k hk => by simp at hk⟩
    | cons e es ih =>
      intro xss hl hk
      rcases xss with _ | ⟨xs, xss⟩
      · simp at hl
      · obtain ⟨ds, h1, h2⟩ := ih xss (by simpa using hl) fun k hk' => by simpa using hk (k + 1) (by simpa using hk')
        obtain ⟨v', h3, h4⟩ := (hk 0 (by simp)).isE (im := true) (e := slotE) rfl (by decide)
        refine ⟨⟨v', xs, h3⟩ :: ds, by simp [h1], fun k hk' => ?_⟩
        cases k with
        | zero => exact h4
        | succ k => simpa using h2 k (by simpa using hk')
  obtain ⟨ds, h1, h2⟩ := hall es xss hol he
  have hdl : ds.length = es.length := by rw [hol, ← h1, List.length_map]
  rcases hown with ⟨rfl, h3⟩ | ⟨c, cap, opn, rfl, hc, _⟩
  · subst h3
    obtain rfl : ds = [] := List.length_eq_zero_iff.1 (by rw [hdl]; rfl)
    exact ⟨.nils, [], h1, isE_nil, .free .nils⟩
  · refine ⟨.vs (chE.vs ds), ds, h1, isE_vs _, .hs hc rfl (by omega) (by rw [El.vs_length, hdl]) (fun k hk => ?_) fun k j hk hj => ?_⟩
    · rw [El.vs_getD (by omega)]; exact (chE.good _).1
    · obtain rfl : j = 0 := by omega
      rw [Nat.zero_add, El.vs_getD (by omega)]
      have e1 := (own_cells (he k hk)).2
      have e2 : (chE.f (ds.getD k chE.d)).cells = [(ds.getD k chE.d).v] := by
        show ((ds.getD k chE.d).v).cells = _
        rcases (ds.getD k chE.d).h with ⟨h, _⟩ | h <;> rw [h] <;> rfl
      rw [e1, e2]
      exact h2 k hk

set_option maxHeartbeats 1000000 in
theorem pack_fn {v : V} {l : List Sg} (hv : IsE segE v l) (hl : SegOK l) (hn : l.length < 1099511627776) {b : List UInt8} (hbn : b.length < 2 ^ 62) {w : V} {cs : List Ch} (hw : IsE chE w cs) (hx : cs.length < 2 ^ 40) (hf : (cs.flatMap (·.xs)).length < 2 ^ 40) :
    ∃ x : V × V, (IsE segE x.1 (packS l b (cs.map (·.xs))).1.1.1 ∧ ∃ ds : List Ch, ds.map (·.xs) = (packS l b (cs.map (·.xs))).1.2 ∧ IsE chE x.2 ds) ∧
      Does Tryd.prog G0 true 21 [.agg [v, .str b], w] (.tup [.agg [x.1, .str (packS l b (cs.map (·.xs))).1.1.2], x.2, .int .i64 (packS l b (cs.map (·.xs))).2]) := by
  obtain ⟨vo, hvo, down⟩ := own_fn hv (by omega) b
  have hgd : (∀ c ∈ [vo, .str b], c.one = true) = True := eq_true (by
    intro c hc
    simp only [List.mem_cons, List.not_mem_nil, or_false] at hc
    rcases hc with rfl | rfl
    · exact (isE_one hvo).2.2
    · rfl)
  have hfl : (cs.map (·.xs)).flatten = cs.flatMap (·.xs) := by rw [List.flatMap_def]
  obtain ⟨wc, hwc, dcat⟩ := concat_fn hw hx (by omega)
  obtain ⟨vd, hvd, ddrop⟩ := drop_fn hv hl hn hbn hwc hf
  refine Does.ofX ?_
  refine SimX.intro mixed comp21 ?_
  unfold c21
  simp -implicitDefEqProofs (disch := omega) only [mwx, ne_eq, false_implies, implies_true, forall_eq_or_imp, MW.get, ev, evs, argFr, resK, packV, slHK, partsV, partsS, setR, Int.cast_ofNat_Int, Int.natCast_zero, Int.natCast_one, Nat.reduceLeDiff, reduceIte, Nat.reduceEqDiff, Nat.reduceBEq, reduceCtorEq, Nat.reduceAdd, Nat.reduceMul, Nat.reduceSub, Nat.reduceLT, Int.reduceToNat, Int.reduceLT, Int.reduceLE, Int.reduceEq, Int.reduceAdd, Int.reduceNeg, Int.reduceMul, Int.reduceSub]
  refine Does.call dcat (fr1 hw.free) ?_
  simp -implicitDefEqProofs (disch := omega) only [mwx, ne_eq, false_implies, implies_true, forall_eq_or_imp, MW.get, ev, evs, argFr, resK, packV, slHK, partsV, partsS, setR, Int.cast_ofNat_Int, Int.natCast_zero, Int.natCast_one, Nat.reduceLeDiff, reduceIte, Nat.reduceEqDiff, Nat.reduceBEq, reduceCtorEq, Nat.reduceAdd, Nat.reduceMul, Nat.reduceSub, Nat.reduceLT, Int.reduceToNat, Int.reduceLT, Int.reduceLE, Int.reduceEq, Int.reduceAdd, Int.reduceNeg, Int.reduceMul, Int.reduceSub]
  refine Does.call ddrop (fr2 (store_free hv b) hwc.free) ?_
  have hp : packS l b (cs.map (·.xs)) = if (dropS l b (cs.flatMap (·.xs))).2 = 0 ∧ ¬ 0 < cnt sgTaken (dropS l b (cs.flatMap (·.xs))).1.1 then (packL l b (cs.map (·.xs)) (dropS l b (cs.flatMap (·.xs))).1, 0) else (((l, b), []), 120) := by
    unfold packS; rw [hfl]
  generalize hD : dropS l b (cs.flatMap (·.xs)) = D at *
  obtain ⟨⟨l1, b1⟩, e⟩ := D
  have bad : packS l b (cs.map (·.xs)) = (((l, b), []), 120) → ∃ x : V × V, (IsE segE x.1 (packS l b (cs.map (·.xs))).1.1.1 ∧ ∃ ds : List Ch, ds.map (·.xs) = (packS l b (cs.map (·.xs))).1.2 ∧ IsE chE x.2 ds) ∧
      ∀ H : List Blk, Frz true H (.tup [.agg [vo, .str b], .nils, .int .i64 120]) (.tup [.agg [x.1, .str (packS l b (cs.map (·.xs))).1.1.2], x.2, .int .i64 (packS l b (cs.map (·.xs))).2]) := by
    intro h
    rw [h]
    exact ⟨(vo, .nils), ⟨hvo, [], rfl, isE_nil⟩, fun H => frz_tup3 (frz_store hvo hvo.free b) (.free .nils) (frz_int rfl)⟩
  simp -implicitDefEqProofs (disch := omega) only [(isE_one hvd).2.2, (isE_one hvd).1, (isE_one hvd).2.1, mwx, ne_eq, false_implies, implies_true, forall_eq_or_imp, MW.get, ev, evs, argFr, resK, packV, slHK, partsV, partsS, setR, Int.cast_ofNat_Int, Int.natCast_zero, Int.natCast_one, Nat.reduceLeDiff, reduceIte, Nat.reduceEqDiff, Nat.reduceBEq, reduceCtorEq, Nat.reduceAdd, Nat.reduceMul, Nat.reduceSub, Nat.reduceLT, Int.reduceToNat, Int.reduceLT, Int.reduceLE, Int.reduceEq, Int.reduceAdd, Int.reduceNeg, Int.reduceMul, Int.reduceSub]
  refine xg_dec (fun he => ?_) fun he => ?_
  rotate_left
  · simp -implicitDefEqProofs (disch := omega) only [he, mwx, ne_eq, false_implies, implies_true, forall_eq_or_imp, MW.get, ev, evs, argFr, resK, packV, slHK, partsV, partsS, setR, Int.cast_ofNat_Int, Int.natCast_zero, Int.natCast_one, Nat.reduceLeDiff, reduceIte, Nat.reduceEqDiff, Nat.reduceBEq, reduceCtorEq, Nat.reduceAdd, Nat.reduceMul, Nat.reduceSub, Nat.reduceLT, Int.reduceToNat, Int.reduceLT, Int.reduceLE, Int.reduceEq, Int.reduceAdd, Int.reduceNeg, Int.reduceMul, Int.reduceSub]
    refine Does.call down (fr1 (store_free hv b)) ?_
    simp -implicitDefEqProofs (disch := omega) only [hgd, (isE_one hvo).2.2, mwx, ne_eq, false_implies, implies_true, forall_eq_or_imp, MW.get, ev, evs, argFr, resK, packV, slHK, partsV, partsS, setR, Int.cast_ofNat_Int, Int.natCast_zero, Int.natCast_one, Nat.reduceLeDiff, reduceIte, Nat.reduceEqDiff, Nat.reduceBEq, reduceCtorEq, Nat.reduceAdd, Nat.reduceMul, Nat.reduceSub, Nat.reduceLT, Int.reduceToNat, Int.reduceLT, Int.reduceLE, Int.reduceEq, Int.reduceAdd, Int.reduceNeg, Int.reduceMul, Int.reduceSub]
    obtain ⟨x, h1, h2⟩ := bad (by rw [hp, if_neg (fun h => he h.1)])
    exact ⟨x, h1, h2 _⟩
  have hcS : chkS l b = true := by
    refine Classical.byContradiction fun hno => ?_
    have : dropS l b (cs.flatMap (·.xs)) = ((l, b), 120) := by unfold dropS; rw [if_pos (by simpa using hno)]
    rw [hD] at this
    have h2 := congrArg (·.2) this
    simp only at h2
    omega
  obtain ⟨hc1, hb, hz⟩ := chkS_of hcS
  have hDL : dropL (cs.flatMap (·.xs)) l b = ((l1, b1), e) := by
    have h2 := hD
    unfold dropS at h2
    rw [if_neg (by simp [hcS])] at h2
    split at h2
    · exact h2
    · have h3 := congrArg (·.2) h2
      simp only at h3
      omega
  obtain ⟨i1, i2, i3, i4⟩ := dropL_inv (cs.flatMap (·.xs)) l b hl hc1 hb
  have ihas := dropL_has (cs.flatMap (·.xs)) l b hl hc1 (by rw [hDL]; exact he)
  rw [hDL] at i1 i2 i3 i4
  simp only at i1 i2 i3 i4 hp hvd
  simp -implicitDefEqProofs (disch := omega) only [he, mwx, ne_eq, false_implies, implies_true, forall_eq_or_imp, MW.get, ev, evs, argFr, resK, packV, slHK, partsV, partsS, setR, Int.cast_ofNat_Int, Int.natCast_zero, Int.natCast_one, Nat.reduceLeDiff, reduceIte, Nat.reduceEqDiff, Nat.reduceBEq, reduceCtorEq, Nat.reduceAdd, Nat.reduceMul, Nat.reduceSub, Nat.reduceLT, Int.reduceToNat, Int.reduceLT, Int.reduceLE, Int.reduceEq, Int.reduceAdd, Int.reduceNeg, Int.reduceMul, Int.reduceSub]
  refine Does.call (taken_fn hvd i1) (fr1 hvd.free) ?_
  simp -implicitDefEqProofs (disch := omega) only [mwx, ne_eq, false_implies, implies_true, forall_eq_or_imp, MW.get, ev, evs, argFr, resK, packV, slHK, partsV, partsS, setR, Int.cast_ofNat_Int, Int.natCast_zero, Int.natCast_one, Nat.reduceLeDiff, reduceIte, Nat.reduceEqDiff, Nat.reduceBEq, reduceCtorEq, Nat.reduceAdd, Nat.reduceMul, Nat.reduceSub, Nat.reduceLT, Int.reduceToNat, Int.reduceLT, Int.reduceLE, Int.reduceEq, Int.reduceAdd, Int.reduceNeg, Int.reduceMul, Int.reduceSub]
  refine xc_dec (fun ht => ?_) fun ht => ?_
  · simp -implicitDefEqProofs (disch := omega) only [mwx, ne_eq, false_implies, implies_true, forall_eq_or_imp, MW.get, ev, evs, argFr, resK, packV, slHK, partsV, partsS, setR, Int.cast_ofNat_Int, Int.natCast_zero, Int.natCast_one, Nat.reduceLeDiff, reduceIte, Nat.reduceEqDiff, Nat.reduceBEq, reduceCtorEq, Nat.reduceAdd, Nat.reduceMul, Nat.reduceSub, Nat.reduceLT, Int.reduceToNat, Int.reduceLT, Int.reduceLE, Int.reduceEq, Int.reduceAdd, Int.reduceNeg, Int.reduceMul, Int.reduceSub]
    refine Does.call down (fr1 (store_free hv b)) ?_
    simp -implicitDefEqProofs (disch := omega) only [hgd, (isE_one hvo).2.2, mwx, ne_eq, false_implies, implies_true, forall_eq_or_imp, MW.get, ev, evs, argFr, resK, packV, slHK, partsV, partsS, setR, Int.cast_ofNat_Int, Int.natCast_zero, Int.natCast_one, Nat.reduceLeDiff, reduceIte, Nat.reduceEqDiff, Nat.reduceBEq, reduceCtorEq, Nat.reduceAdd, Nat.reduceMul, Nat.reduceSub, Nat.reduceLT, Int.reduceToNat, Int.reduceLT, Int.reduceLE, Int.reduceEq, Int.reduceAdd, Int.reduceNeg, Int.reduceMul, Int.reduceSub]
    obtain ⟨x, h1, h2⟩ := bad (by rw [hp, if_neg (fun h => h.2 ht)])
    exact ⟨x, h1, h2 _⟩
  rw [if_pos ⟨he, ht⟩] at hp
  have hn2 := chk_len hc1
  simp -implicitDefEqProofs (disch := omega) only [mwx, ne_eq, false_implies, implies_true, forall_eq_or_imp, MW.get, ev, evs, argFr, resK, packV, slHK, partsV, partsS, setR, Int.cast_ofNat_Int, Int.natCast_zero, Int.natCast_one, Nat.reduceLeDiff, reduceIte, Nat.reduceEqDiff, Nat.reduceBEq, reduceCtorEq, Nat.reduceAdd, Nat.reduceMul, Nat.reduceSub, Nat.reduceLT, Int.reduceToNat, Int.reduceLT, Int.reduceLE, Int.reduceEq, Int.reduceAdd, Int.reduceNeg, Int.reduceMul, Int.reduceSub]
  refine (of_sim hvd (by omega) b1 _).call fun r H1 hr => ?_
  obtain ⟨bd, br, vp, rfl, hvp, hDk, hk, hbd, hbr⟩ := hr
  simp only [List.length_cons, List.length_nil, Nat.zero_add] at hbd hbr
  simp -implicitDefEqProofs (disch := omega) only [lenK_isE hw, mwx, ne_eq, false_implies, implies_true, forall_eq_or_imp, MW.get, ev, evs, argFr, resK, packV, slHK, partsV, partsS, setR, Int.cast_ofNat_Int, Int.natCast_zero, Int.natCast_one, Nat.reduceLeDiff, reduceIte, Nat.reduceEqDiff, Nat.reduceBEq, reduceCtorEq, Nat.reduceAdd, Nat.reduceMul, Nat.reduceSub, Nat.reduceLT, Int.reduceToNat, Int.reduceLT, Int.reduceLE, Int.reduceEq, Int.reduceAdd, Int.reduceNeg, Int.reduceMul, Int.reduceSub]
  refine xl_loop (fun k st => ∃ (i : Nat) (li : List Sg) (bi : List UInt8) (vi o : V) (es : List V) (xss : List (List (Int × Int))), k + i = cs.length ∧ IsE segE vi li ∧ SegOK li ∧ chk li = true ∧ li.length = l.length ∧ bi.length = b.length ∧ es.length = i ∧ Desk st.H bd br vi bi ∧ PInv st.H bd br v b o es xss ∧
      packL l b (cs.map (·.xs)) (l1, b1) = ((packL l b ((cs.drop i).map (·.xs)) (li, bi)).1, xss ++ (packL l b ((cs.drop i).map (·.xs)) (li, bi)).2) ∧
      get st.fr 2 = .ptr 0 1 0 0 ∧ get st.fr 4 = .ptr 1 1 0 0 ∧ get st.fr 9 = .ptr bd 1 0 0 ∧ get st.fr 10 = o ∧ get st.fr 39 = w ∧ get st.fr 40 = .int .i64 cs.length ∧ get st.fr 41 = .int .i64 i) cs.length
    ⟨0, l1, b1, vp, .nils, [], [], by omega, hvp, i1, i2, i3, i4, rfl, hDk, ⟨by rw [hk.2 0 (by simp)]; rfl, by rw [hk.2 1 (by simp)]; rfl, by omega, .nil _ _, rfl, fun c h => h.elim, by simp [Goods], fun k hk => by simp at hk⟩, by simp, rfl, rfl, rfl, rfl, rfl, rfl, rfl⟩ ?_
  rintro J hJ k fr H ⟨i, li, bi, vi, o, es, xss, k1, iv, hli, hci, hll, hbl, hel, hDi, hPI, hpk, h2, h4, h9, h10, h39, h40, h41⟩
  simp -implicitDefEqProofs (disch := omega) only [h40, h41, mwx, ne_eq, false_implies, implies_true, forall_eq_or_imp, MW.get, ev, evs, argFr, resK, packV, slHK, partsV, partsS, setR, Int.cast_ofNat_Int, Int.natCast_zero, Int.natCast_one, Nat.reduceLeDiff, reduceIte, Nat.reduceEqDiff, Nat.reduceBEq, reduceCtorEq, Nat.reduceAdd, Nat.reduceMul, Nat.reduceSub, Nat.reduceLT, Int.reduceToNat, Int.reduceLT, Int.reduceLE, Int.reduceEq, Int.reduceAdd, Int.reduceNeg, Int.reduceMul, Int.reduceSub]
  refine xc_dec (fun h12 => ?_) fun h12 => ?_
  · have hi : i < cs.length := by omega
    have hi0 : (0 : Int) ≤ (i : Int) := by omega
    have hi1 : (i : Int).toNat < cs.length := by simpa using hi
    have hw1 : IntKind.i64.wrap ((i : Int) + 1) = ((i + 1 : Nat) : Int) := wrap64 (n := ((i + 1 : Nat) : Int)) (by omega) (by omega)
    have hdr : cs.drop i = cs.getD i chE.d :: cs.drop (i + 1) := by
      rw [List.drop_eq_getElem_cons hi, List.getD_eq_getElem?_getD, List.getElem?_eq_getElem hi]; rfl
    have hmem : cs.getD i chE.d ∈ cs := by
      rw [List.getD_eq_getElem?_getD, List.getElem?_eq_getElem hi]; exact List.getElem_mem _
    rw [hdr] at hpk
    simp only [List.map_cons, packL] at hpk
    generalize hc : cs.getD i chE.d = c at *
    have hcc : c.v.cells = [c.v] := by rcases c.h with ⟨h, _⟩ | h <;> rw [h] <;> rfl
    have hia : ∀ {H : List Blk} {K : V → Prop}, iaK H 1 w (.int .i64 (i : Int)) K = K (.vp [c.v]) := by
      intro H K
      rw [iaK_ch hw hi0 hi1, Int.toNat_natCast, hc, hcc]
    have hcl : c.xs.length ≤ (cs.flatMap (·.xs)).length := by
      have hall : ∀ (l : List Ch), c ∈ l → c.xs.length ≤ (l.flatMap (·.xs)).length := by
        intro l
        induction l with
        | nil => intro h; cases h
        | cons a l ih =>
          intro h
          rw [List.flatMap_cons, List.length_append]
          rcases List.mem_cons.1 h with rfl | h
          · omega
          · have := ih h; omega
      exact hall cs hmem
    simp -implicitDefEqProofs (disch := omega) only [h39, h41, hia, lenK_isE c.h, mwx, ne_eq, false_implies, implies_true, forall_eq_or_imp, MW.get, ev, evs, argFr, resK, packV, slHK, partsV, partsS, setR, Int.cast_ofNat_Int, Int.natCast_zero, Int.natCast_one, Nat.reduceLeDiff, reduceIte, Nat.reduceEqDiff, Nat.reduceBEq, reduceCtorEq, Nat.reduceAdd, Nat.reduceMul, Nat.reduceSub, Nat.reduceLT, Int.reduceToNat, Int.reduceLT, Int.reduceLE, Int.reduceEq, Int.reduceAdd, Int.reduceNeg, Int.reduceMul, Int.reduceSub]
    refine xl_loop (fun k' st => ∃ (j : Nat) (lj : List Sg) (bj : List UInt8) (vj o2 : V) (ys : List (Int × Int)), k' + j = c.xs.length ∧ IsE segE vj lj ∧ SegOK lj ∧ chk lj = true ∧ lj.length = l.length ∧ bj.length = b.length ∧ Desk st.H bd br vj bj ∧ PInv st.H bd br v b o es xss ∧
        Own 2 st.H o2 (slotE.vs ys) ∧ ys.length = j ∧ (∀ x, hasB o2 x → x ≠ bd ∧ x ≠ br ∧ 2 ≤ x ∧ ¬ hasB o x ∧ ∀ k, k < es.length → ¬ hasB (es.getD k .junk) x) ∧
        packC l b c.xs (li, bi) = ((packC l b (c.xs.drop j) (lj, bj)).1, ys ++ (packC l b (c.xs.drop j) (lj, bj)).2) ∧
        get st.fr 2 = .ptr 0 1 0 0 ∧ get st.fr 4 = .ptr 1 1 0 0 ∧ get st.fr 9 = .ptr bd 1 0 0 ∧ get st.fr 10 = o ∧ get st.fr 39 = w ∧ get st.fr 40 = .int .i64 cs.length ∧ get st.fr 41 = .int .i64 i ∧ get st.fr 13 = o2 ∧ get st.fr 45 = c.v ∧ get st.fr 46 = .int .i64 c.xs.length ∧ get st.fr 47 = .int .i64 j) c.xs.length
      ⟨0, li, bi, vi, .nils, [], by omega, iv, hli, hci, hll, hbl, hDi, hPI, .nil _ _, rfl, fun x h => h.elim, by simp, h2, h4, h9, h10, h39, h40, h41, rfl, rfl, rfl, rfl⟩ ?_
    clear h2 h4 h9 h10 h39 h40 h41
    rintro J2 hJ2 k' fr H ⟨j, lj, bj, vj, o2, ys, k2, ivj, hlj, hcj, hllj, hblj, hDj, hPJ, hO2, hyl, hsep, hpc, h2, h4, h9, h10, h39, h40, h41, h13, h45, h46, h47⟩
    simp -implicitDefEqProofs (disch := omega) only [h46, h47, mwx, ne_eq, false_implies, implies_true, forall_eq_or_imp, MW.get, ev, evs, argFr, resK, packV, slHK, partsV, partsS, setR, Int.cast_ofNat_Int, Int.natCast_zero, Int.natCast_one, Nat.reduceLeDiff, reduceIte, Nat.reduceEqDiff, Nat.reduceBEq, reduceCtorEq, Nat.reduceAdd, Nat.reduceMul, Nat.reduceSub, Nat.reduceLT, Int.reduceToNat, Int.reduceLT, Int.reduceLE, Int.reduceEq, Int.reduceAdd, Int.reduceNeg, Int.reduceMul, Int.reduceSub]
    refine xc_dec (fun h14 => ?_) fun h14 => ?_
    · have hj : j < c.xs.length := by omega
      have hj0 : (0 : Int) ≤ (j : Int) := by omega
      have hj1 : (j : Int).toNat < c.xs.length := by simpa using hj
      have hw2 : IntKind.i64.wrap ((j : Int) + 1) = ((j + 1 : Nat) : Int) := wrap64 (n := ((j + 1 : Nat) : Int)) (by omega) (by omega)
      have hdj : c.xs.drop j = c.xs.getD j (0, 0) :: c.xs.drop (j + 1) := by
        rw [List.drop_eq_getElem_cons hj, List.getD_eq_getElem?_getD, List.getElem?_eq_getElem hj]; rfl
      have hmj : c.xs.getD j (0, 0) ∈ c.xs := by
        rw [List.getD_eq_getElem?_getD, List.getElem?_eq_getElem hj]; exact List.getElem_mem _
      rw [hdj] at hpc
      simp only [packC] at hpc
      generalize hxj : c.xs.getD j (0, 0) = x at *
      have hja : ∀ {H : List Blk} {K : V → Prop}, iaK H 2 c.v (.int .i64 (j : Int)) K = K (.vp [.int .i64 x.1, .int .i64 x.2]) := by
        intro H K
        rw [iaK_slot c.h hj0 hj1, Int.toNat_natCast, hxj]
      have hxh : hasX l x = true := ihas x (List.mem_flatMap.2 ⟨c, hmem, hmj⟩)
      obtain ⟨s, a, rfl, hs, ha, ha64, hbit⟩ := has_slot hl hxh
      obtain ⟨r1, r2, r3⟩ := rd_length hb hs ha
      have hs0 : (0 : Int) ≤ (s : Int) := by omega
      have hs1 : (s : Int).toNat < l.length := by simpa using hs
      have hsp := span_fn hv (s := s) (a := a) hs (by omega) (by omega)
      have kb0 : ∀ T : List Blk, getB (H ++ T) 0 = .row 2 [.agg [v, .str b]] false false := fun T => getB_app hPJ.b0
      simp -implicitDefEqProofs (disch := omega) only [h2, h45, h47, hja, kb0, mwx, ne_eq, false_implies, implies_true, forall_eq_or_imp, MW.get, ev, evs, argFr, resK, packV, slHK, partsV, partsS, setR, Int.cast_ofNat_Int, Int.natCast_zero, Int.natCast_one, Nat.reduceLeDiff, reduceIte, Nat.reduceEqDiff, Nat.reduceBEq, reduceCtorEq, Nat.reduceAdd, Nat.reduceMul, Nat.reduceSub, Nat.reduceLT, Int.reduceToNat, Int.reduceLT, Int.reduceLE, Int.reduceEq, Int.reduceAdd, Int.reduceNeg, Int.reduceMul, Int.reduceSub]
      refine Does.call hsp (fr2 hv.free (slot_free _ _)) ?_
      have w1 : IntKind.i64.wrap (((s * 512 + a * bN (sat l s).1 : Nat) : Int) + (bN (sat l s).1 : Int)) = ((s * 512 + a * bN (sat l s).1 + bN (sat l s).1 : Nat) : Int) := wrap64 (n := ((s * 512 + a * bN (sat l s).1 + bN (sat l s).1 : Nat) : Int)) (by omega) (by omega)
      have hle2 : s * 512 + a * bN (sat l s).1 ≤ s * 512 + a * bN (sat l s).1 + bN (sat l s).1 := by omega
      have hrd : (b.drop (s * 512 + a * bN (sat l s).1)).take (s * 512 + a * bN (sat l s).1 + bN (sat l s).1 - (s * 512 + a * bN (sat l s).1)) = rdS l b ((s : Int), (a : Int)) := by
        rw [rdS, r2, Int.toNat_natCast]; congr 1; omega
      have hcls : (l.getD s (0, 0)).1 = (sat l s).1 := rfl
      simp -implicitDefEqProofs (disch := omega) only [h2, h9, kb0, getB_plus, getB_plus0, List.length_append, iaK_sg hv hs0 hs1, w1, r3, hle2, hrd, hcls, mwx, ne_eq, false_implies, implies_true, forall_eq_or_imp, MW.get, ev, evs, argFr, resK, packV, slHK, partsV, partsS, setR, Int.cast_ofNat_Int, Int.natCast_zero, Int.natCast_one, Nat.reduceLeDiff, reduceIte, Nat.reduceEqDiff, Nat.reduceBEq, reduceCtorEq, Nat.reduceAdd, Nat.reduceMul, Nat.reduceSub, Nat.reduceLT, Int.reduceToNat, Int.reduceLT, Int.reduceLE, Int.reduceEq, Int.reduceAdd, Int.reduceNeg, Int.reduceMul, Int.reduceSub]
      have hbd' : bd < H.length := getB_lt' hDj.d
      have hbr' : br < H.length := getB_lt' hDj.r
      have hD2 := hDj.keep (.app H [.row 2 [.agg [.int .i64 (s : Int), .int .i64 (a : Int)]] false false, .row 2 [.agg [.int .i64 0, .int .i64 0]] false false])
      refine (take_sim hD2 ivj hlj hcj (by omega) (sat l s).1 (rdS l b ((s : Int), (a : Int))) (by omega)).call fun r H' hr => ?_
      obtain ⟨v'', iv', rfl, hD', hA⟩ := hr
      have hAl : H.length + 2 ≤ H'.length := by have := hA.1; simpa using this
      have k18 : getB H' (H.length + 1) = .row 2 [.agg [.int .i64 0, .int .i64 0]] false false := by
        rw [hA.2 (H.length + 1) (by simp) (by omega) (by omega), getB_plus]; rfl
      have hlt : H.length + 1 < H'.length := by omega
      have k19 : ∀ (X : Blk) (T : List Blk), getB (H'.set (H.length + 1) X ++ T) (H.length + 1) = X := fun X T => by rw [getB_app' (by simpa using hlt), getB_set _ hlt]
      obtain ⟨t1, t2, t3⟩ := tak_len hlj hcj (c := (sat l s).1)
      have htB := takB_length (b := bj) hlj hcj (by omega) (show (rdS l b ((s : Int), (a : Int))).length ≤ bN (sat l s).1 by omega)
      have hM : ∀ (X : Blk) (T : List Blk), Mod (fun x => x = bd ∨ x = br) H (H'.set (H.length + 1) X ++ T) := fun X T => ⟨by simp; omega, fun q hq hn => by
        rw [getB_app' (by simp; omega), getB_set_ne _ (by omega), hA.2 q (by simp; omega) (fun e => hn (.inl e)) (fun e => hn (.inr e)), getB_app' hq]⟩
      have hset := fun (X : Blk) => getB_set (H := H') (b := H.length + 1) X hlt
      simp -implicitDefEqProofs (disch := omega) only [h13, k18, k19, hset, mwx, ne_eq, false_implies, implies_true, forall_eq_or_imp, MW.get, ev, evs, argFr, resK, packV, slHK, partsV, partsS, setR, Int.cast_ofNat_Int, Int.natCast_zero, Int.natCast_one, Nat.reduceLeDiff, reduceIte, Nat.reduceEqDiff, Nat.reduceBEq, reduceCtorEq, Nat.reduceAdd, Nat.reduceMul, Nat.reduceSub, Nat.reduceLT, Int.reduceToNat, Int.reduceLT, Int.reduceLE, Int.reduceEq, Int.reduceAdd, Int.reduceNeg, Int.reduceMul, Int.reduceSub]
      have hO3 : ∀ (X : Blk) (T : List Blk), Own 2 (H'.set (H.length + 1) X ++ T) o2 (slotE.vs ys) := fun X T => (hM X T).own hO2 fun q hq => by
        obtain ⟨e1, e2, _⟩ := hsep q hq
        omega
      refine (hO3 _ _).appS (El.vs_goods _) (El.vs_goods (e := slotE) [(tak lj (sat l s).1).2.1]) (roomy_of (by simp [El.vs_length]; omega) (by decide)) fun o3 H5 hO5 hK hN => ?_
      simp -implicitDefEqProofs (disch := omega) only [h47, hw2, mwx, ne_eq, false_implies, implies_true, forall_eq_or_imp, MW.get, ev, evs, argFr, resK, packV, slHK, partsV, partsS, setR, Int.cast_ofNat_Int, Int.natCast_zero, Int.natCast_one, Nat.reduceLeDiff, reduceIte, Nat.reduceEqDiff, Nat.reduceBEq, reduceCtorEq, Nat.reduceAdd, Nat.reduceMul, Nat.reduceSub, Nat.reduceLT, Int.reduceToNat, Int.reduceLT, Int.reduceLE, Int.reduceEq, Int.reduceAdd, Int.reduceNeg, Int.reduceMul, Int.reduceSub]
      have hM5 : Mod (fun x => x = bd ∨ x = br ∨ hasB o2 x) H H5 :=
        Mod.trans ⟨(hM _ _).1, fun q hq hn => (hM _ _).2 q hq (fun h => hn (h.imp id .inl))⟩ (KeepsBut.mod hK fun q hq => .inr (.inr hq))
      have hM6 : Mod (fun x => x = H.length + 1 ∨ hasB o2 x) H' H5 :=
        Mod.trans (H' := H'.set (H.length + 1) _ ++ _) ⟨by simp, fun q hq hn => by rw [getB_app' (by simpa using hq), getB_set_ne _ (fun e => hn (.inl e.symm))]⟩ (KeepsBut.mod hK fun q hq => .inr hq)
      have hnew : ∀ x, hasB o3 x → hasB o2 x ∨ H.length + 2 ≤ x := fun x hx => by
        rcases hN x hx with h | h
        · exact .inl h
        · right; simp at h; omega
      refine ⟨k' - 1, by omega, hJ2 _ _ ⟨j + 1, _, _, v'', o3, ys ++ [(tak lj (sat l s).1).2.1], by omega, iv', t1, t2, by omega, by omega, hD'.mod hM6 ?_ ?_, hPJ.mod hM5 ?_ ?_ ?_, ?_, by simp; omega, ?_, ?_, h2, h4, h9, h10, h39, h40, h41, rfl, h45, h46, rfl⟩⟩
      · rintro (h | h)
        · omega
        · exact (hsep bd h).1 rfl
      · rintro (h | h)
        · omega
        · exact (hsep br h).2.1 rfl
      · intro q hq h
        have := hPJ.d
        rcases h with h | h | h
        · omega
        · omega
        · have := (hsep q h).2.2.1; omega
      · intro q hq h
        obtain ⟨e1, e2, e3⟩ := hPJ.on q hq
        rcases h with h | h | h
        · exact e1 h
        · exact e2 h
        · exact (hsep q h).2.2.2.1 hq
      · intro n hn q hq h
        obtain ⟨e1, e2, e3, e4⟩ := (hPJ.e n hn).2 q hq
        rcases h with h | h | h
        · exact e1 h
        · exact e2 h
        · exact (hsep q h).2.2.2.2 n hn hq
      · show Own 2 H5 o3 (slotE.vs (ys ++ [(tak lj (sat l s).1).2.1]))
        rw [← El.vs_append]
        exact hO5
      · intro x hx
        rcases hnew x hx with h | h
        · exact hsep x h
        · have hd := hPJ.d
          refine ⟨by omega, by omega, by omega, fun hq => ?_, fun n hn hq => ?_⟩
          · have : x < H.length := hPJ.own.lt hq; omega
          · have : x < H.length := (hPJ.e n hn).1.lt hq; omega
      · rw [hpc]; simp
    · have hdj : c.xs.drop j = [] := List.drop_of_length_le (by omega)
      rw [hdj] at hpc
      simp only [packC, List.append_nil] at hpc
      rw [hpc] at hpk
      simp only at hpk
      have g1 := own_cells hO2
      have g2 : Goods 1 [o2] = True := eq_true fun y hy => by rw [List.mem_singleton.1 hy]; exact own_one hO2
      simp -implicitDefEqProofs (disch := omega) only [h10, h13, g1.1, g1.2, mwx, ne_eq, false_implies, implies_true, forall_eq_or_imp, MW.get, ev, evs, argFr, resK, packV, slHK, partsV, partsS, setR, Int.cast_ofNat_Int, Int.natCast_zero, Int.natCast_one, Nat.reduceLeDiff, reduceIte, Nat.reduceEqDiff, Nat.reduceBEq, reduceCtorEq, Nat.reduceAdd, Nat.reduceMul, Nat.reduceSub, Nat.reduceLT, Int.reduceToNat, Int.reduceLT, Int.reduceLE, Int.reduceEq, Int.reduceAdd, Int.reduceNeg, Int.reduceMul, Int.reduceSub]
      refine (hPJ.own.keep (.app H _)).appS hPJ.g (by rw [g2]; trivial) (roomy_of (by simp; omega) (by decide)) fun o3 H5 hO5 hK hN => ?_
      simp -implicitDefEqProofs (disch := omega) only [h41, hw1, mwx, ne_eq, false_implies, implies_true, forall_eq_or_imp, MW.get, ev, evs, argFr, resK, packV, slHK, partsV, partsS, setR, Int.cast_ofNat_Int, Int.natCast_zero, Int.natCast_one, Nat.reduceLeDiff, reduceIte, Nat.reduceEqDiff, Nat.reduceBEq, reduceCtorEq, Nat.reduceAdd, Nat.reduceMul, Nat.reduceSub, Nat.reduceLT, Int.reduceToNat, Int.reduceLT, Int.reduceLE, Int.reduceEq, Int.reduceAdd, Int.reduceNeg, Int.reduceMul, Int.reduceSub]
      have hM5 : Mod (fun x => hasB o x) H H5 := Mod.trans (Keeps.mod (Keeps.app H _) _) (KeepsBut.mod hK fun q hq => hq)
      have hnew : ∀ x, hasB o3 x → hasB o x ∨ H.length + 1 ≤ x := fun x hx => by
        rcases hN x hx with h | h
        · exact .inl h
        · right; simp at h; omega
      have hd := hPJ.d
      have hbd' : bd < H.length := getB_lt' hDj.d
      have hbr' : br < H.length := getB_lt' hDj.r
      refine ⟨k - 1, by omega, hJ _ _ ⟨i + 1, lj, bj, vj, o3, es ++ [o2], xss ++ [ys], by omega, ivj, hlj, hcj, hllj, hblj, by simp; omega, hDj.mod hM5 (fun h => (hPJ.on _ h).1 rfl) (fun h => (hPJ.on _ h).2.1 rfl), ⟨?_, ?_, hd, hO5, ?_, ?_, ?_, ?_⟩, ?_, h2, h4, h9, rfl, h39, h40, rfl⟩⟩
      · show getB H5 0 = _
        rw [hM5.2 0 (getB_lt' hPJ.b0) (fun h => by have := (hPJ.on _ h).2.2; omega)]; exact hPJ.b0
      · show getB H5 1 = _
        rw [hM5.2 1 (getB_lt' hPJ.b1) (fun h => by have := (hPJ.on _ h).2.2; omega)]; exact hPJ.b1
      · simp [hPJ.ol]
      · intro x hx
        rcases hnew x hx with h | h
        · exact hPJ.on x h
        · omega
      · intro y hy
        rcases List.mem_append.1 hy with hy | hy
        · exact hPJ.g y hy
        · rw [List.mem_singleton.1 hy]; exact own_one hO2
      · intro n hn
        rcases Nat.lt_or_ge n es.length with h | h
        · have e1 : (es ++ [o2]).getD n .junk = es.getD n .junk := by simp [List.getD_eq_getElem?_getD, List.getElem?_append_left h]
          have e2 : (xss ++ [ys]).getD n [] = xss.getD n [] := by simp [List.getD_eq_getElem?_getD, List.getElem?_append_left (show n < xss.length by rw [← hPJ.ol]; exact h)]
          rw [e1, e2]
          obtain ⟨q1, q2⟩ := hPJ.e n h
          refine ⟨hM5.own q1 fun x hx => (q2 x hx).2.2.2, fun x hx => ?_⟩
          obtain ⟨p1, p2, p3, p4⟩ := q2 x hx
          refine ⟨p1, p2, p3, fun hq => ?_⟩
          rcases hnew x hq with h' | h'
          · exact p4 h'
          · have : x < H.length := q1.lt hx; omega
        · obtain rfl : n = es.length := by simp at hn; omega
          have e1 : (es ++ [o2]).getD es.length .junk = o2 := by simp [List.getD_eq_getElem?_getD]
          have e2 : (xss ++ [ys]).getD es.length [] = ys := by rw [hPJ.ol]; simp [List.getD_eq_getElem?_getD]
          rw [e1, e2]
          refine ⟨hM5.own hO2 fun x hx => (hsep x hx).2.2.2.1, fun x hx => ?_⟩
          obtain ⟨p1, p2, p3, p4, _⟩ := hsep x hx
          refine ⟨p1, p2, p3, fun hq => ?_⟩
          rcases hnew x hq with h' | h'
          · exact p4 h'
          · have : x < H.length := hO2.lt hx; omega
      · rw [hpk]; simp
  · have hdr : cs.drop i = [] := List.drop_of_length_le (by omega)
    rw [hdr] at hpk
    simp only [List.map_nil, packL, List.append_nil] at hpk
    rw [hpk] at hp
    simp -implicitDefEqProofs (disch := omega) only [h9, mwx, ne_eq, false_implies, implies_true, forall_eq_or_imp, MW.get, ev, evs, argFr, resK, packV, slHK, partsV, partsS, setR, Int.cast_ofNat_Int, Int.natCast_zero, Int.natCast_one, Nat.reduceLeDiff, reduceIte, Nat.reduceEqDiff, Nat.reduceBEq, reduceCtorEq, Nat.reduceAdd, Nat.reduceMul, Nat.reduceSub, Nat.reduceLT, Int.reduceToNat, Int.reduceLT, Int.reduceLE, Int.reduceEq, Int.reduceAdd, Int.reduceNeg, Int.reduceMul, Int.reduceSub]
    refine (store_sim hDi (isE_one iv)).call fun r H' hr => ?_
    obtain ⟨rfl, hk2⟩ := hr
    have b1' : getB H' 1 = .row 2 [.agg [.nils, .str []]] false false := by rw [hk2.2 1 (getB_lt' hPI.b1)]; exact hPI.b1
    have hgd2 : (∀ c ∈ [vi, .str bi], c.one = true) = True := eq_true (by
      intro c hc
      simp only [List.mem_cons, List.not_mem_nil, or_false] at hc
      rcases hc with rfl | rfl
      · exact (isE_one iv).2.2
      · rfl)
    have hlt := getB_lt' b1'
    simp -implicitDefEqProofs (disch := omega) only [h4, h10, b1', hgd2, (isE_one iv).2.2, getB_set _ hlt, mwx, ne_eq, false_implies, implies_true, forall_eq_or_imp, MW.get, ev, evs, argFr, resK, packV, slHK, partsV, partsS, setR, Int.cast_ofNat_Int, Int.natCast_zero, Int.natCast_one, Nat.reduceLeDiff, reduceIte, Nat.reduceEqDiff, Nat.reduceBEq, reduceCtorEq, Nat.reduceAdd, Nat.reduceMul, Nat.reduceSub, Nat.reduceLT, Int.reduceToNat, Int.reduceLT, Int.reduceLE, Int.reduceEq, Int.reduceAdd, Int.reduceNeg, Int.reduceMul, Int.reduceSub]
    rw [hp]
    have hM : Mod (fun x => x = 1) H (H'.set 1 (.row 2 [.agg [vi, .str bi]] false false)) := ⟨by simpa using hk2.1, fun q hq hn => by rw [getB_set_ne _ (fun e => hn e.symm), hk2.2 q hq]⟩
    obtain ⟨w', ds, g1, g2, g3⟩ := frz_es (hM.own hPI.own fun x hx => by have := (hPI.on x hx).2.2; omega) hPI.ol fun n hn => hM.own (hPI.e n hn).1 fun x hx => by have := ((hPI.e n hn).2 x hx).2.2.1; omega
    exact ⟨(vi, w'), ⟨iv, ds, g1, g2⟩, frz_tup3 (frz_store iv iv.free bi) g3 (frz_int rfl)⟩

end Go.Proofs.YtlcbogafgdofgaaDoor

/- Store: what is put, got and dropped, in plain words. -/
namespace Go.Proofs.YtlcbogafgdofgaaDoor
open Go Go.MW
set_option linter.unusedSimpArgs false
set_option linter.unusedVariables false
set_option maxRecDepth 8000

/-- A slot more. -/
structure Adds (l l1 : List Sg) (j q : Nat) (c : Int) : Prop where
  hj : j < l.length
  hq : q < slN c
  len : l1.length = l.length
  c1 : (sat l1 j).1 = c
  s1 : ∀ i, (sat l1 j).2.testBit i = ((sat l j).2.testBit i || decide (q = i))
  s0 : (sat l j).1 = c ∨ ((sat l j).1 = -1 ∧ (sat l j).2 = 0)
  nb : (sat l j).2.testBit q = false
  ne : ∀ i, i ≠ j → sat l1 i = sat l i

theorem slN_bN {c : Int} {q : Nat} (h : q < slN c) : slN c * bN c = 512 ∧ 0 < bN c ∧ q * bN c + bN c ≤ 512 := by
  have h1 := bN_slN c
  have h3 : (q + 1) * bN c ≤ slN c * bN c := Nat.mul_le_mul_right _ h
  rw [Nat.add_mul, Nat.one_mul] at h3
  rcases h1 with h1 | ⟨h1, _⟩
  · refine ⟨h1, ?_, by omega⟩
    rcases Nat.eq_zero_or_pos (bN c) with h4 | h4
    · rw [h4] at h1; simp at h1
    · exact h4
  · omega
theorem in_slot {j q w p : Nat} (hw : 0 < w) (h : q * w + w ≤ 512) : (p / 512 = j ∧ p % 512 / w = q) ↔ (j * 512 + q * w ≤ p ∧ p < j * 512 + q * w + w) := by
  constructor
  · rintro ⟨rfl, rfl⟩
    have h1 := Nat.div_mul_le_self (p % 512) w
    have h2 := Nat.lt_div_mul_add (a := p % 512) hw
    omega
  · rintro ⟨h1, h2⟩
    have e1 : p / 512 = j := by omega
    refine ⟨e1, ?_⟩
    have e2 : p % 512 = p - j * 512 := by omega
    rw [e2]
    refine Nat.div_eq_of_lt_le (by omega) ?_
    rw [Nat.add_mul, Nat.one_mul]; omega

theorem Adds.taken {l l1 : List Sg} {j q : Nat} {c : Int} (h : Adds l l1 j q c) (p : Nat) : takenAt l1 p = (takenAt l p || decide (j * 512 + q * bN c ≤ p ∧ p < j * 512 + q * bN c + bN c)) := by
  obtain ⟨w1, w2, w3⟩ := slN_bN h.hq
  by_cases e : p / 512 = j
  · unfold takenAt
    rw [e, h.c1, h.s1]
    rw [Bool.eq_iff_iff]
    simp only [Bool.or_eq_true, decide_eq_true_eq]
    rw [← in_slot w2 w3]
    rcases h.s0 with s | ⟨s, s'⟩
    · rw [s]
      simp only [e, true_and]
      exact or_congr_right ⟨Eq.symm, Eq.symm⟩
    · rw [s']
      simp only [Nat.zero_testBit, e, true_and]
      exact or_congr_right ⟨Eq.symm, Eq.symm⟩
  · have : ¬ (j * 512 + q * bN c ≤ p ∧ p < j * 512 + q * bN c + bN c) := by rw [← in_slot w2 w3]; exact fun k => e k.1
    unfold takenAt
    rw [h.ne _ e]
    simp [this]
theorem Adds.untaken {l l1 : List Sg} {j q : Nat} {c : Int} (h : Adds l l1 j q c) {p : Nat} (hp : j * 512 + q * bN c ≤ p ∧ p < j * 512 + q * bN c + bN c) : takenAt l p = false := by
  obtain ⟨w1, w2, w3⟩ := slN_bN h.hq
  obtain ⟨e1, e2⟩ := (in_slot w2 w3).2 hp
  unfold takenAt
  rw [e1]
  rcases h.s0 with s | ⟨s, s'⟩
  · rw [s, e2]; exact h.nb
  · rw [s']; simp
theorem Adds.cls {l l1 : List Sg} {j q : Nat} {c : Int} (h : Adds l l1 j q c) {i : Nat} (hi : (sat l i).2 ≠ 0) : (sat l1 i).1 = (sat l i).1 := by
  by_cases e : i = j
  · subst e
    rw [h.c1]
    rcases h.s0 with s | ⟨s, s'⟩
    · exact s.symm
    · exact absurd s' hi
  · rw [h.ne _ e]
theorem Adds.eq {l l1 : List Sg} {j q : Nat} {c : Int} (h : Adds l l1 j q c) : l1 = l.set j (sat l1 j) := by
  refine List.ext_getElem (by simp [h.len]) fun i h1 h2 => ?_
  have e : ∀ (m : List Sg) (h : i < m.length), m[i] = sat m i := fun m h => (sat_eq h).symm
  rw [e l1 h1, e _ h2]
  by_cases k : i = j
  · subst k; rw [sat_set h.hj]
  · rw [sat_set_ne (Ne.symm k), h.ne _ k]
theorem Adds.pop {l l1 : List Sg} {j q : Nat} {c : Int} (h : Adds l l1 j q c) : pc 64 (sat l1 j).2 = pc 64 (sat l j).2 + 1 :=
  pc_bits 64 _ _ q (Nat.lt_of_lt_of_le h.hq (slN_le c)) h.nb (by rw [h.s1]; simp) fun i hi => by rw [h.s1]; simp [Ne.symm hi]
theorem Adds.count {l l1 : List Sg} {j q : Nat} {c : Int} (h : Adds l l1 j q c) (hc : chk l = true) (hc1 : chk l1 = true) : cnt sgTaken l1 = cnt sgTaken l + byts c := by
  have h2 := hc1
  simp only [cnt, hc, hc1, if_true]
  rw [h.eq, isum_set l j _ h.hj]
  have hnew : sgTaken (sat l1 j) = (pc 64 (sat l j).2 : Int) * byts c + byts c := by
    unfold sgTaken
    rw [h.pop, h.c1, Int.natCast_succ, Int.add_mul, Int.one_mul]
  have hold : sgTaken (sat l j) = (pc 64 (sat l j).2 : Int) * byts c := by
    unfold sgTaken
    rcases h.s0 with h1 | ⟨_, h2⟩
    · rw [h1]
    · rw [h2]; simp [show pc 64 0 = 0 by decide]
  rw [hnew, hold]
  omega

theorem tak_adds {l : List Sg} {c : Int} (hl : SegOK l) (hc : chk l = true) (h : (tak l c).2.2 = 0) : ∃ j q : Nat, (tak l c).2.1 = ((j : Int), (q : Int)) ∧ Adds l (tak l c).1 j q c := by
  obtain ⟨j, q, hj, hq, h0, ht, hb, hlow, hlt, hor⟩ := tak_ok hl hc h
  refine ⟨j, q, by rw [ht], ?_⟩
  rw [ht]
  refine ⟨hj, hq, by simp, by rw [sat_set hj], fun i => by rw [sat_set hj, or_bit], ?_, hb, fun i hi => sat_set_ne (Ne.symm hi) _⟩
  rcases hor with ⟨h1, _⟩ | ⟨h1, h2, _⟩
  · exact .inl h1
  · exact .inr ⟨h1, h2⟩
theorem fre_adds {l : List Sg} (hl : SegOK l) (hc : chk l = true) {x : Int × Int} (h : hasX l x = true) : ∃ j q : Nat, x = ((j : Int), (q : Int)) ∧ Adds (fre l x.1 x.2).1 l j q (sat l j).1 := by
  obtain ⟨j', q', hx, hj', hq', _, hb'⟩ := has_slot hl h
  obtain ⟨j, q, e1, e2, hj, hq, hbit, hf, _⟩ := fre_spec hl hc h
  obtain rfl : j' = j := by rw [hx] at e1; exact Int.ofNat.inj e1
  obtain rfl : q' = q := by rw [hx] at e2; exact Int.ofNat.inj e2
  refine ⟨j', q', hx, ?_⟩
  rw [hf]
  have hu := hl.at hj
  refine ⟨by simpa using hj, hq', by simp, rfl, fun i => ?_, ?_, ?_, fun i hi => (sat_set_ne (Ne.symm hi) _).symm⟩
  · rw [sat_set hj]
    show _ = ((clr1 _ _).testBit i || _)
    rw [clr1_bit hu hq]
    by_cases e : q' = i
    · subst e; rw [hbit]; simp
    · simp [e, Ne.symm e]
  · rw [sat_set hj]
    generalize sat l j' = s
    simp only [fre1]
    by_cases e : clr1 s.2 q' = 0
    · exact .inr ⟨by simp [e], by simp [e]⟩
    · exact .inl (by simp [e])
  · rw [sat_set hj]
    show (clr1 _ _).testBit _ = _
    rw [clr1_bit hu hq]
    simp

end Go.Proofs.YtlcbogafgdofgaaDoor

/- Store: one slot taken, one given back: what changes. -/
namespace Go.Proofs.YtlcbogafgdofgaaDoor
open Go Go.MW
set_option linter.unusedSimpArgs false
set_option linter.unusedVariables false
set_option maxRecDepth 8000

/-- A store that is well. -/
structure W (S : SB) : Prop where
  ok : SegOK S.1
  c : chk S.1 = true
  b : S.2.length = S.1.length * 512
  z : ∀ p, takenAt S.1 p = false → S.2.getD p 0 = 0
theorem W.chk {S : SB} (h : W S) : chkS S.1 S.2 = true := by
  have := (zok_iff h.b).2 h.z
  simp [chkS, h.c, h.b, this]
theorem W_of {l : List Sg} {b : List UInt8} (hl : SegOK l) (h : chkS l b = true) : W (l, b) := by
  obtain ⟨h1, h2, h3⟩ := chkS_of h
  exact ⟨hl, h1, h2, (zok_iff h2).1 h3⟩

def clX (l : List Sg) (x : Int × Int) : Int := (sat l x.1.toNat).1
def freS (S : SB) (x : Int × Int) : SB := ((fre S.1 x.1 x.2).1, clrX S.1 S.2 x)
def takS (S : SB) (c : Int) (d : List UInt8) : SB := ((tak S.1 c).1, takB S.1 S.2 c d)

theorem rd_getD {l : List Sg} {b : List UInt8} {x : Int × Int} (k : Nat) : (rdS l b x).getD k 0 = if k < bN (clX l x) then b.getD (beg l x + k) 0 else 0 := by
  unfold rdS clX
  split
  · rename_i h
    rw [List.getD_eq_getElem?_getD, List.getD_eq_getElem?_getD, List.getElem?_take_of_lt h, List.getElem?_drop]
  · rename_i h
    exact getD_big (by rw [List.length_take]; omega)

/-- Where a slot that is there lies, and that it is taken there. -/
theorem has_in {S : SB} (hw : W S) {x : Int × Int} (h : hasX S.1 x = true) {k : Nat} (hk : k < bN (clX S.1 x)) : takenAt S.1 (beg S.1 x + k) = true ∧ beg S.1 x + k < S.2.length ∧ (beg S.1 x + k) / 512 = x.1.toNat := by
  obtain ⟨i, a, rfl, hi, ha, _, hb⟩ := has_slot hw.ok h
  obtain ⟨r1, r2, r3⟩ := rd_length hw.b hi ha
  have e : (a + 1) * bN (sat S.1 i).1 = a * bN (sat S.1 i).1 + bN (sat S.1 i).1 := by rw [Nat.add_mul, Nat.one_mul]
  have hk' : k < bN (sat S.1 i).1 := hk
  obtain ⟨g1, g2, g3⟩ := slot_at (l := S.1) (i := i) (a := a) (p := beg S.1 ((i : Int), (a : Int)) + k) ha (by rw [r2, e]; omega)
  refine ⟨?_, by omega, by simpa using g1⟩
  unfold takenAt
  rw [g1, g2]; exact hb

theorem rd_len {S : SB} (hw : W S) {x : Int × Int} (h : hasX S.1 x = true) : (rdS S.1 S.2 x).length = bN (clX S.1 x) := by
  obtain ⟨i, a, rfl, hi, ha, _, hb⟩ := has_slot hw.ok h
  exact (rd_length hw.b hi ha).1
theorem has_ne0 {S : SB} (hw : W S) {x : Int × Int} (h : hasX S.1 x = true) : (sat S.1 x.1.toNat).2 ≠ 0 := by
  obtain ⟨i, a, rfl, hi, ha, _, hb⟩ := has_slot hw.ok h
  intro e
  rw [Int.toNat_natCast] at e
  rw [e] at hb
  simp at hb

/-- What is between, and what is not. -/
theorem rd_same {S S' : SB} (hw : W S) (hw' : W S') {j q : Nat} {c : Int} (h : Adds S.1 S'.1 j q c) (hb : ∀ p, ¬ (j * 512 + q * bN c ≤ p ∧ p < j * 512 + q * bN c + bN c) → S'.2.getD p 0 = S.2.getD p 0) {y : Int × Int} (hy : hasX S.1 y = true) (hy' : hasX S'.1 y = true) :
    rdS S'.1 S'.2 y = rdS S.1 S.2 y ∧ clX S'.1 y = clX S.1 y ∧ beg S'.1 y = beg S.1 y := by
  have e1 : clX S'.1 y = clX S.1 y := h.cls (has_ne0 hw hy)
  have e2 : beg S'.1 y = beg S.1 y := by
    show _ + _ * bN (clX S'.1 y) = _ + _ * bN (clX S.1 y)
    rw [e1]
  refine ⟨getD_ext (by rw [rd_len hw' hy', rd_len hw hy, e1]) fun k hk => ?_, e1, e2⟩
  rw [rd_len hw' hy', e1] at hk
  rw [rd_getD, rd_getD, e1, e2, if_pos hk, if_pos hk]
  refine hb _ fun hin => ?_
  have := (has_in hw hy hk).1
  rw [h.untaken hin] at this
  cases this

structure TakL (S : SB) (c : Int) (d : List UInt8) (x : Int × Int) (S' : SB) : Prop where
  w : W S'
  len : S'.1.length = S.1.length
  no : hasX S.1 x = false
  has : hasX S'.1 x = true
  oth : ∀ y, y ≠ x → hasX S'.1 y = hasX S.1 y
  cl : clX S'.1 x = c
  rd : rdS S'.1 S'.2 x = d ++ List.replicate (bN c - d.length) 0
  rdo : ∀ y, hasX S.1 y = true → rdS S'.1 S'.2 y = rdS S.1 S.2 y ∧ clX S'.1 y = clX S.1 y
  back : freS S' x = S
  cnt : cnt sgTaken S'.1 = cnt sgTaken S.1 + byts c

theorem tak_law {S : SB} (hw : W S) {c : Int} {d : List UInt8} (h : (tak S.1 c).2.2 = 0) (hd : d.length ≤ bN c) : TakL S c d (tak S.1 c).2.1 (takS S c d) := by
  obtain ⟨j, q, hx, ha⟩ := tak_adds hw.ok hw.c h
  obtain ⟨w1, w2, w3⟩ := slN_bN ha.hq
  obtain ⟨n1, n2, n3, _, n4, n5, n6, _⟩ := back_law hw.ok hw.c h 0 0
  have hoth : ∀ y, y ≠ (tak S.1 c).2.1 → hasX (tak S.1 c).1 y = hasX S.1 y := fun y hy => by
    obtain ⟨_, _, _, h4, _⟩ := back_law hw.ok hw.c h y.1 y.2
    rcases h4 with ⟨e1, e2⟩ | h4
    · exact absurd (Prod.ext e1 e2) hy
    · exact h4.symm
  have hin : (j + 1) * 512 ≤ S.1.length * 512 := Nat.mul_le_mul_right _ ha.hj
  have htB : takB S.1 S.2 c d = wrB S.2 (j * 512 + q * bN c) d := by
    unfold takB
    rw [if_pos h, hx]
    rfl
  have hfit : j * 512 + q * bN c + d.length ≤ S.2.length := by rw [hw.b]; omega
  have hlB : (takB S.1 S.2 c d).length = S.2.length := by rw [htB]; exact wrB_length hfit
  have hgB : ∀ p, (takB S.1 S.2 c d).getD p 0 = if j * 512 + q * bN c ≤ p ∧ p < j * 512 + q * bN c + d.length then d.getD (p - (j * 512 + q * bN c)) 0 else S.2.getD p 0 := fun p => by rw [htB]; exact wrB_getD hfit p
  have hW : W (takS S c d) := by
    refine ⟨n5, n4, ?_, fun p hp => ?_⟩
    · show (takB S.1 S.2 c d).length = (tak S.1 c).1.length * 512
      rw [hlB, n6, hw.b]
    · have hp' : takenAt (tak S.1 c).1 p = false := hp
      rw [ha.taken, Bool.or_eq_false_iff, decide_eq_false_iff_not] at hp'
      show (takB S.1 S.2 c d).getD p 0 = 0
      rw [hgB, if_neg (by omega)]
      exact hw.z p hp'.1
  have hcl : clX (tak S.1 c).1 (tak S.1 c).2.1 = c := by rw [hx]; exact ha.c1
  have hbg : beg (tak S.1 c).1 (tak S.1 c).2.1 = j * 512 + q * bN c := by
    show _ + _ * bN (clX (tak S.1 c).1 (tak S.1 c).2.1) = _
    rw [hcl, hx]; rfl
  refine ⟨hW, n6, n1, n2, hoth, hcl, ?_, fun y hy => ?_, ?_, ha.count hw.c n4⟩
  · refine getD_ext (by rw [rd_len hW n2]; show bN (clX (tak S.1 c).1 _) = _; rw [hcl]; simp; omega) fun k hk => ?_
    rw [rd_len hW n2] at hk
    have hk' : k < bN c := by rw [← hcl]; exact hk
    show (rdS (tak S.1 c).1 (takB S.1 S.2 c d) _).getD k 0 = _
    rw [rd_getD, hcl, if_pos hk', hbg, hgB]
    by_cases e : k < d.length
    · rw [if_pos (by omega)]
      rw [List.getD_eq_getElem?_getD, List.getD_eq_getElem?_getD, List.getElem?_append_left e]
      congr 2
      omega
    · rw [if_neg (by omega), hw.z _ (ha.untaken (by omega))]
      rw [List.getD_eq_getElem?_getD, List.getElem?_append_right (by omega)]
      rw [List.getElem?_replicate]
      split <;> rfl
  · have hne : y ≠ (tak S.1 c).2.1 := by rintro rfl; have : hasX S.1 (tak S.1 c).2.1 = false := n1; rw [hy] at this; cases this
    have := rd_same hw hW ha (fun p hp => by show (takB S.1 S.2 c d).getD p 0 = _; rw [hgB, if_neg (by omega)]) hy (by rw [← hy]; exact hoth y hne)
    exact ⟨this.1, this.2.1⟩
  · refine Prod.ext (by show (fre (tak S.1 c).1 _ _).1 = S.1; rw [n3]) ?_
    show clrX (tak S.1 c).1 (takB S.1 S.2 c d) _ = S.2
    unfold clrX
    rw [show (sat (tak S.1 c).1 (tak S.1 c).2.1.1.toNat).1 = c from hcl, hbg]
    have hf2 : j * 512 + q * bN c + (List.replicate (bN c) (0 : UInt8)).length ≤ (takB S.1 S.2 c d).length := by rw [hlB, hw.b, List.length_replicate]; omega
    refine getD_ext (by rw [wrB_length hf2, hlB]) fun p _ => ?_
    rw [wrB_getD hf2, hgB, List.length_replicate]
    split
    · rename_i hp
      rw [hw.z p (ha.untaken hp)]
      rw [List.getD_eq_getElem?_getD, List.getElem?_replicate]
      split <;> rfl
    · rw [if_neg (by omega)]

structure FreL (S : SB) (x : Int × Int) : Prop where
  w : W (freS S x)
  len : (freS S x).1.length = S.1.length
  gone : hasX (freS S x).1 x = false
  oth : ∀ y, y ≠ x → hasX (freS S x).1 y = hasX S.1 y
  rdo : ∀ y, y ≠ x → hasX S.1 y = true → rdS (freS S x).1 (freS S x).2 y = rdS S.1 S.2 y ∧ clX (freS S x).1 y = clX S.1 y ∧ beg (freS S x).1 y = beg S.1 y
  cnt : cnt sgTaken S.1 = cnt sgTaken (freS S x).1 + byts (clX S.1 x)

theorem clrX_getD {S : SB} (hw : W S) {x : Int × Int} (h : hasX S.1 x = true) (p : Nat) : (clrX S.1 S.2 x).getD p 0 = if beg S.1 x ≤ p ∧ p < beg S.1 x + bN (clX S.1 x) then 0 else S.2.getD p 0 := by
  obtain ⟨i, a, rfl, hi, ha, _, hb⟩ := has_slot hw.ok h
  obtain ⟨r1, r2, r3⟩ := rd_length hw.b hi ha
  unfold clrX
  rw [wrB_getD (by rw [List.length_replicate, r2]; exact r3), List.length_replicate]
  show (if beg S.1 _ ≤ p ∧ p < beg S.1 _ + bN (clX S.1 _) then _ else _) = _
  split
  · rw [List.getD_eq_getElem?_getD, List.getElem?_replicate]
    split <;> rfl
  · rfl

theorem fre_law {S : SB} (hw : W S) {x : Int × Int} (h : hasX S.1 x = true) : FreL S x := by
  obtain ⟨j, q, hx, ha⟩ := fre_adds hw.ok hw.c h
  obtain ⟨w1, w2, w3⟩ := slN_bN ha.hq
  obtain ⟨n1, n2, n3, _⟩ := fre_ok hw.ok hw.c x.1 x.2
  have hcl : clX S.1 x = (sat S.1 j).1 := by rw [hx]; rfl
  have hbg : beg S.1 x = j * 512 + q * bN (sat S.1 j).1 := by
    show _ + _ * bN (clX S.1 x) = _
    rw [hcl, hx]; rfl
  have hW : W (freS S x) := by
    refine ⟨n2, n1, ?_, fun p hp => ?_⟩
    · show (clrX S.1 S.2 x).length = (fre S.1 x.1 x.2).1.length * 512
      rw [clrX_length hw.ok hw.b h, n3, hw.b]
    · show (clrX S.1 S.2 x).getD p 0 = 0
      rw [clrX_getD hw h, hcl, hbg]
      split
      · rfl
      · rename_i hn
        refine hw.z p ?_
        rw [ha.taken, show takenAt (fre S.1 x.1 x.2).1 p = false from hp]
        simpa using hn
  have hoth : ∀ y, y ≠ x → hasX (fre S.1 x.1 x.2).1 y = hasX S.1 y := fun y hy => fre_has hw.ok hw.c x.1 x.2 y.1 y.2 fun ⟨e1, e2⟩ => hy (Prod.ext e1.symm e2.symm)
  refine ⟨hW, n3, fre_gone hw.ok hw.c x.1 x.2, hoth, fun y hy hh => ?_, by rw [hcl]; exact ha.count n1 hw.c⟩
  have := rd_same hW hw ha (fun p hp => by show _ = (clrX S.1 S.2 x).getD p 0; rw [clrX_getD hw h, hcl, hbg, if_neg hp]) (y := y) (by rw [← hh]; exact hoth y hy) hh
  exact ⟨this.1.symm, this.2.1.symm, this.2.2.symm⟩

/-- Two slots given back, in either order. -/
theorem fre_comm {S : SB} (hw : W S) {x y : Int × Int} (hx : hasX S.1 x = true) (hy : hasX S.1 y = true) (hne : x ≠ y) : freS (freS S x) y = freS (freS S y) x := by
  have fx := fre_law hw hx
  have fy := fre_law hw hy
  have hy' : hasX (freS S x).1 y = true := by rw [fx.oth y (Ne.symm hne), hy]
  have hx' : hasX (freS S y).1 x = true := by rw [fy.oth x hne, hx]
  refine Prod.ext (turns_law hw.ok hw.c fun ⟨e1, e2⟩ => hne (Prod.ext e1 e2)).1 ?_
  show clrX (freS S x).1 (freS S x).2 y = clrX (freS S y).1 (freS S y).2 x
  have l1 : (clrX (freS S x).1 (freS S x).2 y).length = S.2.length := by
    rw [clrX_length fx.w.ok fx.w.b hy']
    exact clrX_length hw.ok hw.b hx
  have l2 : (clrX (freS S y).1 (freS S y).2 x).length = S.2.length := by
    rw [clrX_length fy.w.ok fy.w.b hx']
    exact clrX_length hw.ok hw.b hy
  refine getD_ext (by rw [l1, l2]) fun p _ => ?_
  obtain ⟨_, a2, a3⟩ := fx.rdo y (Ne.symm hne) hy
  obtain ⟨_, b2, b3⟩ := fy.rdo x hne hx
  rw [clrX_getD fx.w hy', clrX_getD fy.w hx', a2, a3, b2, b3]
  show (if _ then _ else (clrX S.1 S.2 x).getD p 0) = (if _ then _ else (clrX S.1 S.2 y).getD p 0)
  rw [clrX_getD hw hx, clrX_getD hw hy]
  split <;> split <;> simp_all

end Go.Proofs.YtlcbogafgdofgaaDoor

/- Store: many slots, dropped and put. -/
namespace Go.Proofs.YtlcbogafgdofgaaDoor
open Go Go.MW
set_option linter.unusedSimpArgs false
set_option linter.unusedVariables false
set_option maxRecDepth 8000

structure DropsL (S : SB) (xs : List (Int × Int)) (S' : SB) : Prop where
  w : W S'
  len : S'.1.length = S.1.length
  gone : ∀ x ∈ xs, hasX S'.1 x = false
  oth : ∀ y, y ∉ xs → hasX S'.1 y = hasX S.1 y
  rdo : ∀ y, y ∉ xs → hasX S.1 y = true → rdS S'.1 S'.2 y = rdS S.1 S.2 y ∧ clX S'.1 y = clX S.1 y
  cnt : cnt sgTaken S.1 = cnt sgTaken S'.1 + rsum (xs.map (clX S.1))

theorem drops_law : ∀ (xs : List (Int × Int)) {S : SB}, W S → (∀ x ∈ xs, hasX S.1 x = true) → xs.Nodup → DropsL S xs (xs.foldl freS S)
  | [], S, hw, _, _ => ⟨hw, rfl, by simp, fun _ _ => rfl, fun _ _ _ => ⟨rfl, rfl⟩, by simp [rsum]⟩
  | x :: xs, S, hw, ha, hn => by
    have f := fre_law hw (ha x (by simp))
    obtain ⟨h1, h2⟩ := List.nodup_cons.1 hn
    have hne : ∀ y ∈ xs, y ≠ x := fun y hy e => h1 (e ▸ hy)
    have g := drops_law xs f.w (fun y hy => by rw [f.oth y (hne y hy)]; exact ha y (by simp [hy])) h2
    rw [List.foldl_cons]
    refine ⟨g.w, g.len.trans f.len, fun y hy => ?_, fun y hy => ?_, fun y hy hh => ?_, ?_⟩
    · by_cases e : y ∈ xs
      · exact g.gone y e
      · rcases List.mem_cons.1 hy with rfl | hy
        · rw [g.oth y e, f.gone]
        · exact absurd hy e
    · rw [List.mem_cons, not_or] at hy
      rw [g.oth y hy.2, f.oth y hy.1]
    · rw [List.mem_cons, not_or] at hy
      obtain ⟨a1, a2, _⟩ := f.rdo y hy.1 hh
      obtain ⟨b1, b2⟩ := g.rdo y hy.2 (by rw [f.oth y hy.1, hh])
      exact ⟨b1.trans a1, b2.trans a2⟩
    · rw [f.cnt, g.cnt, List.map_cons, rsum]
      have : xs.map (clX (freS S x).1) = xs.map (clX S.1) := List.map_congr_left fun y hy => (f.rdo y (hne y hy) (ha y (by simp [hy]))).2.1
      rw [this]
      omega

theorem dropL_ok : ∀ (xs : List (Int × Int)) {S : SB}, W S → (∀ x ∈ xs, hasX S.1 x = true) → xs.Nodup → dropL xs S.1 S.2 = (xs.foldl freS S, 0)
  | [], S, hw, _, _ => rfl
  | x :: xs, S, hw, ha, hn => by
    have f := fre_law hw (ha x (by simp))
    obtain ⟨h1, h2⟩ := List.nodup_cons.1 hn
    have hne : ∀ y ∈ xs, y ≠ x := fun y hy e => h1 (e ▸ hy)
    unfold dropL
    rw [if_pos (ha x (by simp))]
    exact dropL_ok xs f.w (fun y hy => by rw [f.oth y (hne y hy)]; exact ha y (by simp [hy])) h2

theorem dropL_iff : ∀ (xs : List (Int × Int)) {S : SB}, W S → ((dropL xs S.1 S.2).2 = 0 ↔ (∀ x ∈ xs, hasX S.1 x = true) ∧ xs.Nodup)
  | [], S, hw => by simp [dropL]
  | x :: xs, S, hw => by
    unfold dropL
    by_cases h : hasX S.1 x = true
    · have f := fre_law hw h
      rw [if_pos h]
      rw [show dropL xs (fre S.1 x.1 x.2).1 (clrX S.1 S.2 x) = dropL xs (freS S x).1 (freS S x).2 from rfl, dropL_iff xs f.w]
      constructor
      · rintro ⟨h1, h2⟩
        have hx : x ∉ xs := fun hx => by have := h1 x hx; rw [f.gone] at this; cases this
        refine ⟨fun y hy => ?_, List.nodup_cons.2 ⟨hx, h2⟩⟩
        rcases List.mem_cons.1 hy with rfl | hy
        · exact h
        · rw [← f.oth y fun e => hx (e ▸ hy)]; exact h1 y hy
      · rintro ⟨h1, h2⟩
        obtain ⟨h3, h4⟩ := List.nodup_cons.1 h2
        exact ⟨fun y hy => by rw [f.oth y fun e => h3 (e ▸ hy)]; exact h1 y (by simp [hy]), h4⟩
    · rw [if_neg h]
      constructor
      · intro k; simp at k
      · rintro ⟨h1, _⟩
        exact absurd (h1 x (by simp)) h

theorem dropS_ok {xs : List (Int × Int)} {S : SB} (hw : W S) (ha : ∀ x ∈ xs, hasX S.1 x = true) (hn : xs.Nodup) : dropS S.1 S.2 xs = (xs.foldl freS S, 0) := by
  unfold dropS
  rw [hw.chk]
  simp [dropL_ok xs hw ha hn]
theorem dropS_iff {xs : List (Int × Int)} {S : SB} (hw : W S) : ((dropS S.1 S.2 xs).2 = 0 ↔ (∀ x ∈ xs, hasX S.1 x = true) ∧ xs.Nodup) ∧ (¬ (dropS S.1 S.2 xs).2 = 0 → (dropS S.1 S.2 xs) = (S, 120)) := by
  have := dropL_iff xs hw
  rw [← this]
  unfold dropS
  rw [hw.chk]
  by_cases h : (dropL xs S.1 S.2).2 = 0
  · simp [h]
  · simp [h]

theorem drops_past : ∀ (xs : List (Int × Int)) {S : SB} {x : Int × Int}, W S → hasX S.1 x = true → x ∉ xs → (∀ y ∈ xs, hasX S.1 y = true) → xs.Nodup → xs.foldl freS (freS S x) = freS (xs.foldl freS S) x
  | [], S, x, _, _, _, _, _ => rfl
  | y :: ys, S, x, hw, hx, hn, ha, hd => by
    rw [List.mem_cons, not_or] at hn
    obtain ⟨h1, h2⟩ := List.nodup_cons.1 hd
    have f := fre_law hw (ha y (by simp))
    rw [List.foldl_cons, List.foldl_cons, fre_comm hw hx (ha y (by simp)) hn.1]
    exact drops_past ys f.w (by rw [f.oth x hn.1, hx]) hn.2 (fun z hz => by rw [f.oth z fun e => h1 (e ▸ hz)]; exact ha z (by simp [hz])) h2

theorem drops_perm {xs ys : List (Int × Int)} (hp : xs.Perm ys) : ∀ {S : SB}, W S → (∀ y ∈ xs, hasX S.1 y = true) → xs.Nodup → xs.foldl freS S = ys.foldl freS S := by
  induction hp with
  | nil => intros; rfl
  | cons x hp ih =>
    intro S hw ha hn
    obtain ⟨h1, h2⟩ := List.nodup_cons.1 hn
    have f := fre_law hw (ha x (by simp))
    exact ih f.w (fun z hz => by rw [f.oth z fun e => h1 (e ▸ hz)]; exact ha z (by simp [hz])) h2
  | swap x y l =>
    intro S hw ha hn
    simp only [List.foldl_cons]
    rw [fre_comm hw (ha y (by simp)) (ha x (by simp))]
    rintro rfl
    simp at hn
  | trans hp hq ih1 ih2 =>
    intro S hw ha hn
    rw [ih1 hw ha hn, ih2 hw (fun y hy => ha y (hp.mem_iff.2 hy)) (hp.nodup_iff.1 hn)]

def bsum (cs : List Int) : Nat := (cs.map bN).sum
theorem bsum_rsum : ∀ cs : List Int, rsum cs = (bsum cs : Int)
  | [] => rfl
  | c :: cs => by rw [rsum, bsum_rsum cs, bN_byts]; simp [bsum]

/-- What was put. -/
structure PutL (S : SB) (cs : List Int) (d : List UInt8) (xs : List (Int × Int)) (S' : SB) : Prop where
  w : W S'
  len : S'.1.length = S.1.length
  nd : xs.Nodup
  no : ∀ x ∈ xs, hasX S.1 x = false
  has : ∀ x ∈ xs, hasX S'.1 x = true
  oth : ∀ y, y ∉ xs → hasX S'.1 y = hasX S.1 y
  cl : xs.map (clX S'.1) = cs
  rd : xs.flatMap (rdS S'.1 S'.2) = d ++ List.replicate (bsum cs - d.length) 0
  rdo : ∀ y, hasX S.1 y = true → rdS S'.1 S'.2 y = rdS S.1 S.2 y ∧ clX S'.1 y = clX S.1 y
  back : xs.foldl freS S' = S
  cnt : cnt sgTaken S'.1 = cnt sgTaken S.1 + rsum cs

theorem putL_law : ∀ (cs : List Int) {d : List UInt8} {S : SB}, W S → d.length ≤ bsum cs → (putL cs d S.1 S.2).2 = 0 → PutL S cs d (putL cs d S.1 S.2).1.2 (putL cs d S.1 S.2).1.1
  | [], d, S, hw, hd, _ => by
    have : d = [] := List.length_eq_zero_iff.1 (by simpa [bsum] using hd)
    subst this
    exact ⟨hw, rfl, List.nodup_nil, by simp [putL], by simp [putL], fun _ _ => rfl, rfl, by simp [putL, bsum], fun _ _ => ⟨rfl, rfl⟩, rfl, by simp [putL, rsum]⟩
  | c :: cs, d, S, hw, hd, he => by
    unfold putL at he ⊢
    by_cases h : (tak S.1 c).2.2 = 0
    · rw [if_pos h] at he ⊢
      have hm : (d.take (min (bN c) d.length)).length ≤ bN c := by rw [List.length_take]; omega
      have hm2 : (d.take (min (bN c) d.length)).length = min (bN c) d.length := by rw [List.length_take]; omega
      have t := tak_law hw h hm
      have hb : bsum (c :: cs) = bN c + bsum cs := by simp [bsum]
      have hd2 : (d.drop (min (bN c) d.length)).length ≤ bsum cs := by rw [List.length_drop]; omega
      have p := putL_law cs (S := takS S c (d.take (min (bN c) d.length))) t.w hd2 he
      simp only
      generalize hS2 : (putL cs (d.drop (min (bN c) d.length)) (tak S.1 c).1 (takB S.1 S.2 c (d.take (min (bN c) d.length)))) = R at p ⊢
      replace p : PutL (takS S c (d.take (min (bN c) d.length))) cs (d.drop (min (bN c) d.length)) R.1.2 R.1.1 := by rw [← hS2]; exact p
      generalize takS S c (d.take (min (bN c) d.length)) = S1 at t p
      have hx2 : (tak S.1 c).2.1 ∉ R.1.2 := fun hx => by have := p.no _ hx; rw [t.has] at this; cases this
      obtain ⟨r1, r2⟩ := p.rdo _ t.has
      refine ⟨p.w, p.len.trans t.len, List.nodup_cons.2 ⟨hx2, p.nd⟩, fun y hy => ?_, fun y hy => ?_, fun y hy => ?_, ?_, ?_, fun y hy => ?_, ?_, ?_⟩
      · rcases List.mem_cons.1 hy with rfl | hy
        · exact t.no
        · rw [← t.oth y fun e => hx2 (e ▸ hy)]; exact p.no y hy
      · rcases List.mem_cons.1 hy with rfl | hy
        · rw [p.oth _ hx2]; exact t.has
        · exact p.has y hy
      · rw [List.mem_cons, not_or] at hy
        rw [p.oth y hy.2, t.oth y hy.1]
      · rw [List.map_cons, p.cl, r2, t.cl]
      · rw [List.flatMap_cons, p.rd, r1, t.rd, hm2, hb, List.length_drop]
        rcases Nat.le_total (bN c) d.length with hle | hle
        · rw [Nat.min_eq_left hle, Nat.sub_self, List.replicate_zero, List.append_nil, ← List.append_assoc, List.take_append_drop]
          congr 2
          omega
        · rw [Nat.min_eq_right hle, List.take_length, List.drop_length, List.nil_append, List.append_assoc, List.replicate_append_replicate]
          congr 2
          omega
      · have hne : hasX S1.1 y = true := by
          rw [t.oth y]
          · exact hy
          · rintro rfl; rw [t.no] at hy; cases hy
        obtain ⟨a1, a2⟩ := t.rdo y hy
        obtain ⟨b1, b2⟩ := p.rdo y hne
        exact ⟨b1.trans a1, b2.trans a2⟩
      · rw [List.foldl_cons, drops_past R.1.2 p.w (by rw [p.oth _ hx2]; exact t.has) hx2 p.has p.nd, p.back, t.back]
      · rw [p.cnt, t.cnt, rsum]; omega
    · rw [if_neg h] at he
      exact absurd he h

end Go.Proofs.YtlcbogafgdofgaaDoor

/- Store: put and got. -/
namespace Go.Proofs.YtlcbogafgdofgaaDoor
open Go Go.MW
set_option linter.unusedSimpArgs false
set_option linter.unusedVariables false
set_option maxRecDepth 8000

theorem fit_bN {n : Int} (h : 1 ≤ n ∧ n ≤ 64) : n ≤ (bN (fit n) : Int) := by
  rw [← bN_byts]
  unfold fit byts
  repeat' split
  all_goals omega
theorem cut_bsum {n : Int} (h : 1 ≤ n ∧ n ≤ 4096) : n ≤ (bsum (cut n) : Int) := by
  rw [← bsum_rsum]
  obtain ⟨q, hq, hq2, ⟨h1, h2⟩ | ⟨h1, h3, h2⟩⟩ := cut_spec h
  · rw [h2, rsum_append, rsum_rep]
    have := fit_bN (n := n % 64) (by omega)
    simp only [rsum, bN_byts]
    omega
  · rw [h2, rsum_rep]
    omega

theorem putS_law {S : SB} (hw : W S) {d : List UInt8} (h : (putS S.1 S.2 d).2 = 0) : 1 ≤ d.length ∧ d.length ≤ 4096 ∧ PutL S (cut d.length) d (putS S.1 S.2 d).1.2 (putS S.1 S.2 d).1.1 := by
  unfold putS at h ⊢
  rw [if_neg (by rw [hw.chk]; decide)] at h ⊢
  by_cases h1 : d.length < 1 ∨ 4096 < d.length
  · rw [if_pos h1] at h; simp at h
  rw [if_neg h1] at h ⊢
  by_cases h2 : (putL (cut d.length) d S.1 S.2).2 = 0
  · rw [if_pos h2]
    have := cut_bsum (n := (d.length : Int)) (by omega)
    exact ⟨by omega, by omega, putL_law _ hw (by omega) h2⟩
  · rw [if_neg h2] at h; exact absurd h h2
theorem putS_err {S : SB} (hw : W S) {d : List UInt8} (h : ¬ (putS S.1 S.2 d).2 = 0) : (putS S.1 S.2 d).1 = (S, []) := by
  unfold putS at h ⊢
  rw [if_neg (by rw [hw.chk]; decide)] at h ⊢
  by_cases h1 : d.length < 1 ∨ 4096 < d.length
  · rw [if_pos h1]
  rw [if_neg h1] at h ⊢
  by_cases h2 : (putL (cut d.length) d S.1 S.2).2 = 0
  · rw [if_pos h2] at h; exact absurd h2 h
  · rw [if_neg h2]

theorem getS_ok {S : SB} (hw : W S) {xs : List (Int × Int)} (ha : ∀ x ∈ xs, hasX S.1 x = true) {size : Int} (h0 : 0 ≤ size) (hs : size ≤ ((xs.flatMap (rdS S.1 S.2)).length : Int)) : getS S.1 S.2 xs size = ((xs.flatMap (rdS S.1 S.2)).take size.toNat, 0) := by
  unfold getS
  rw [hw.chk, if_neg (by simp; omega), if_neg (by simpa using fun a b h => ha (a, b) h), if_neg (by omega)]
theorem getS_iff {S : SB} (hw : W S) (xs : List (Int × Int)) (size : Int) : ((getS S.1 S.2 xs size).2 = 0 ↔ (∀ x ∈ xs, hasX S.1 x = true) ∧ 0 ≤ size ∧ size ≤ ((xs.flatMap (rdS S.1 S.2)).length : Int)) := by
  by_cases ha : ∀ x ∈ xs, hasX S.1 x = true
  · by_cases h0 : 0 ≤ size
    · by_cases hs : size ≤ ((xs.flatMap (rdS S.1 S.2)).length : Int)
      · rw [getS_ok hw ha h0 hs]
        exact ⟨fun _ => ⟨ha, h0, hs⟩, fun _ => rfl⟩
      · unfold getS
        rw [hw.chk, if_neg (by simp; omega), if_neg (by simpa using fun a b h => ha (a, b) h), if_pos (by omega)]
        exact ⟨fun h => absurd h (show ¬ (120 : Int) = 0 by decide), fun h => absurd h.2.2 hs⟩
    · unfold getS
      rw [if_pos (Or.inr (by omega))]
      exact ⟨fun h => absurd h (show ¬ (120 : Int) = 0 by decide), fun h => absurd h.2.1 h0⟩
  · have : xs.all (hasX S.1) = false := by
      rw [← Bool.not_eq_true, List.all_eq_true]
      exact ha
    have e : (getS S.1 S.2 xs size).2 = 120 := by
      unfold getS
      rw [this]
      split <;> rfl
    rw [e]
    exact ⟨fun h => absurd h (show ¬ (120 : Int) = 0 by decide), fun h => absurd h.1 ha⟩
theorem get_put {S S' : SB} {cs : List Int} {d : List UInt8} {xs : List (Int × Int)} (p : PutL S cs d xs S') : getS S'.1 S'.2 xs d.length = (d, 0) := by
  rw [getS_ok p.w p.has (by omega) (by rw [p.rd]; simp; omega), p.rd]
  simp
theorem flat_same {S S' : SB} {xs : List (Int × Int)} (h : ∀ x ∈ xs, rdS S'.1 S'.2 x = rdS S.1 S.2 x) : xs.flatMap (rdS S'.1 S'.2) = xs.flatMap (rdS S.1 S.2) := by
  induction xs with
  | nil => rfl
  | cons x xs ih => rw [List.flatMap_cons, List.flatMap_cons, h x (by simp), ih fun y hy => h y (by simp [hy])]

theorem W_new (n : Nat) (h : n ≤ 200) : W (List.replicate n (-1, 0), List.replicate (n * 512) 0) := by
  have hs : ∀ i, i < n → sat (List.replicate n ((-1 : Int), 0)) i = (-1, 0) := fun i hi => by rw [sat_eq (by simpa using hi)]; simp
  refine ⟨?_, ?_, by simp, fun p _ => ?_⟩
  · intro p hp
    rw [List.eq_of_mem_replicate hp]; decide
  · refine chk_iff.2 ⟨by simpa using h, fun i hi => ?_⟩
    rw [hs i (by simpa using hi)]; decide
  · rw [List.getD_eq_getElem?_getD, List.getElem?_replicate]
    split <;> rfl

end Go.Proofs.YtlcbogafgdofgaaDoor

/- Store: what the document fixes. -/
namespace Go.Proofs.YtlcbogafgdofgaaDoor
open Go Go.MW
set_option linter.unusedSimpArgs false
set_option linter.unusedVariables false
set_option maxRecDepth 20000

theorem putS_eq {S : SB} (hw : W S) {d : List UInt8} (h1 : 1 ≤ d.length ∧ d.length ≤ 4096) {S' : SB} {xs : List (Int × Int)} (h2 : putL (cut d.length) d S.1 S.2 = ((S', xs), 0)) : putS S.1 S.2 d = ((S', xs), 0) := by
  unfold putS
  rw [if_neg (by rw [hw.chk]; decide), if_neg (by omega), h2]
  simp
theorem getS_no {S : SB} {xs : List (Int × Int)} {size : Int} (h : ¬ ∀ x ∈ xs, hasX S.1 x = true) : getS S.1 S.2 xs size = ([], 120) := by
  have : xs.all (hasX S.1) = false := by
    rw [← Bool.not_eq_true, List.all_eq_true]
    exact h
  unfold getS
  rw [this]
  split <;> rfl

abbrev hello : List UInt8 := [104, 101, 108, 108, 111, 44, 32, 119, 111, 114, 108, 100]
def aw0 : SB := (List.replicate 2 (-1, 0), List.replicate 1024 0)
def aw1 : SB := ([(1, 1), (-1, 0)], hello ++ List.replicate 1012 0)
def aw2 : SB := ([(1, 1), (0, 1)], hello ++ List.replicate 500 0 ++ [120] ++ List.replicate 511 0)
def aw3 : SB := ([(-1, 0), (0, 1)], List.replicate 512 0 ++ [120] ++ List.replicate 511 0)
def aw5 : SB := ([(0, 1), (-1, 0)], [120] ++ List.replicate 1023 0)
theorem aw_p1 : putL (cut hello.length) hello aw0.1 aw0.2 = ((aw1, [(0, 0)]), 0) := by decide +kernel
theorem aw_p2 : putL (cut ([120] : List UInt8).length) [120] aw1.1 aw1.2 = ((aw2, [(1, 0)]), 0) := by decide +kernel
theorem aw_d3 : dropL [(0, 0)] aw2.1 aw2.2 = (aw3, 0) := by decide +kernel
theorem aw_d4 : dropL [(1, 0)] aw3.1 aw3.2 = (aw0, 0) := by decide +kernel
theorem aw_p5 : packL aw3.1 aw3.2 [[(1, 0)]] aw0 = (aw5, [[(0, 0)]]) := by decide +kernel
theorem aw_w0 : W aw0 := W_new 2 (by decide)
theorem aw_q1 : putS aw0.1 aw0.2 hello = ((aw1, [(0, 0)]), 0) := putS_eq aw_w0 (by decide) aw_p1
theorem aw_w1 : W aw1 := by
  have := (putS_law aw_w0 (d := hello) (by rw [aw_q1])).2.2.w
  rw [aw_q1] at this
  exact this
theorem aw_q2 : putS aw1.1 aw1.2 [120] = ((aw2, [(1, 0)]), 0) := putS_eq aw_w1 (by decide) aw_p2
theorem aw_w2 : W aw2 := by
  have := (putS_law aw_w1 (d := [120]) (by rw [aw_q2])).2.2.w
  rw [aw_q2] at this
  exact this
theorem drop_eq {S S' : SB} (hw : W S) {xs : List (Int × Int)} (h : dropL xs S.1 S.2 = (S', 0)) : dropS S.1 S.2 xs = (S', 0) ∧ W S' := by
  obtain ⟨h1, h2⟩ := (dropL_iff xs hw).1 (by rw [h])
  have h3 := dropS_ok hw h1 h2
  have h4 := dropL_ok xs hw h1 h2
  rw [h] at h4
  obtain rfl : S' = xs.foldl freS S := congrArg Prod.fst h4
  exact ⟨h3, (drops_law xs hw h1 h2).w⟩
theorem aw_w3 : W aw3 := (drop_eq aw_w2 aw_d3).2
theorem aw_pk : packS aw3.1 aw3.2 [[(1, 0)]] = ((aw5, [[(0, 0)]]), 0) := by
  have h : dropS aw3.1 aw3.2 [[(1, 0)]].flatten = (aw0, 0) := (drop_eq aw_w3 aw_d4).1
  unfold packS
  rw [h]
  have : ¬ 0 < cnt sgTaken aw0.1 := by decide +kernel
  rw [if_pos ⟨rfl, this⟩]
  rw [aw_p5]
theorem aw_w5 : W aw5 := by
  have h : (tak aw0.1 0).2.2 = 0 := by decide +kernel
  have t := (tak_law aw_w0 h (d := [120, 0, 0, 0, 0, 0, 0, 0]) (by decide)).w
  have : takS aw0 0 [120, 0, 0, 0, 0, 0, 0, 0] = aw5 := by decide +kernel
  rw [this] at t
  exact t

theorem aw_n0 : Does Tryd.prog G0 true 17 [.int .i64 2] (.tup [.agg [.vs (segE.vs aw0.1), .str aw0.2], .int .i64 0]) := newS_fn 2 (by decide)
theorem aw_g3 : getS aw2.1 aw2.2 [(0, 0)] 12 = (hello, 0) := by
  rw [getS_ok aw_w2 (by decide +kernel) (by decide) (by decide +kernel)]
  decide +kernel
theorem aw_g4 : getS aw3.1 aw3.2 [(0, 0)] 1 = ([], 120) := getS_no (by decide +kernel)
theorem aw_g5 : getS aw5.1 aw5.2 [(0, 0)] 1 = ([120], 0) := by
  rw [getS_ok aw_w5 (by decide +kernel) (by decide) (by decide +kernel)]
  decide +kernel
theorem aw_nil : putS aw3.1 aw3.2 [] = ((aw3, []), 100) := by
  unfold putS
  rw [if_neg (by rw [aw_w3.chk]; decide), if_pos (by decide)]
theorem aw_d : dropS aw2.1 aw2.2 [(0, 0)] = (aw3, 0) := (drop_eq aw_w2 aw_d3).1
theorem aw_l : aw0.1.length = 2 ∧ aw1.1.length = 2 ∧ aw2.1.length = 2 ∧ aw3.1.length = 2 ∧ aw5.1.length = 2 := by decide +kernel
theorem aw_m : aw0.2.length = 1024 ∧ aw1.2.length = 1024 ∧ aw2.2.length = 1024 ∧ aw3.2.length = 1024 ∧ aw5.2.length = 1024 := by decide +kernel
attribute [irreducible] aw0 aw1 aw2 aw3 aw5

theorem awake_fn : Does Tryd.prog G0 false 8 [] (.bool true) := by
  refine Does.intro mixed comp8 ?_
  unfold c8
  obtain ⟨q0, q1, q2, q3, q5⟩ := aw_l
  obtain ⟨m0, m1, m2, m3, m5⟩ := aw_m
  obtain ⟨v1, w1, i1, k1, d1⟩ := put_fn (isE_vs (e := segE) aw0.1) aw_w0.ok (by omega) (b := aw0.2) (by omega) (d := hello) (by decide)
  rw [aw_q1] at i1 k1 d1
  simp only at i1 k1 d1
  obtain ⟨v2, w2, i2, k2, d2⟩ := put_fn i1 aw_w1.ok (by omega) (b := aw1.2) (by omega) (d := [120]) (by decide)
  rw [aw_q2] at i2 k2 d2
  simp only at i2 k2 d2
  have g3 := get_fn i2 aw_w2.ok (by omega) (b := aw2.2) (by omega) k1 (by decide) 12
  rw [aw_g3] at g3
  obtain ⟨v3, i3, d3⟩ := drop_fn i2 aw_w2.ok (by omega) (b := aw2.2) (by omega) k1 (by decide)
  rw [aw_d] at d3 i3
  simp only at d3 i3
  have g4 := get_fn i3 aw_w3.ok (by omega) (b := aw3.2) (by omega) k1 (by decide) 1
  rw [aw_g4] at g4
  obtain ⟨⟨v5, w5⟩, ⟨i5, ds, hds, k5⟩, d5⟩ := pack_fn i3 aw_w3.ok (by omega) (b := aw3.2) (by omega) (isE_vs (e := chE) [⟨w2, [(1, 0)], k2⟩]) (by show 1 < 2 ^ 40; decide) (by show 1 < 2 ^ 40; decide)
  rw [show List.map Ch.xs [⟨w2, [(1, 0)], k2⟩] = [[(1, 0)]] from rfl, aw_pk] at i5 hds d5
  simp only at i5 hds d5 k5
  obtain ⟨v6, w6, i6, k6, d6⟩ := put_fn i3 aw_w3.ok (by omega) (b := aw3.2) (by omega) (d := []) (by decide)
  rw [aw_nil] at i6 k6 d6
  simp only at i6 k6 d6
  have c8 := chkS_fn i2 aw_w2.ok (by omega) (b := aw2.2) (by omega)
  rw [aw_w2.chk] at c8
  have c9 := chkS_fn (isE_nil (e := segE)) (fun _ h => nomatch h) (by decide) (b := [120]) (by decide)
  rw [show chkS [] [120] = false by decide] at c9
  have o1 := (isE_one i1).2.2
  have o2 := (isE_one i2).2.2
  have o3 := (isE_one i3).2.2
  have o5 := (isE_one i5).2.2
  have o6 := (isE_one i6).2.2
  have os2 : w2.solid = true := by rcases k2 with ⟨h, _⟩ | h <;> rw [h] <;> rfl
  have ol2 : w2.cells.length = 1 := by rcases k2 with ⟨h, _⟩ | h <;> rw [h] <;> rfl
  have ok2 : w2.one = true := by rcases k2 with ⟨h, _⟩ | h <;> rw [h] <;> rfl
  simp -implicitDefEqProofs (disch := omega) only [mwx, ne_eq, false_implies, implies_true, forall_eq_or_imp, MW.get, ev, evs, argFr, resK, packV, slHK, partsV, partsS, setR, Int.cast_ofNat_Int, Int.natCast_zero, Int.natCast_one, Nat.reduceLeDiff, reduceIte, Nat.reduceEqDiff, Nat.reduceBEq, reduceCtorEq, Nat.reduceAdd, Nat.reduceMul, Nat.reduceSub, Nat.reduceLT, Int.reduceToNat, Int.reduceLT, Int.reduceLE, Int.reduceEq, Int.reduceAdd, Int.reduceNeg, Int.reduceMul, Int.reduceSub]
  refine Does.call aw_n0 (fr1 (.int _ _)) ?_
  simp -implicitDefEqProofs (disch := omega) only [mwx, ne_eq, false_implies, implies_true, forall_eq_or_imp, MW.get, ev, evs, argFr, resK, packV, slHK, partsV, partsS, setR, Int.cast_ofNat_Int, Int.natCast_zero, Int.natCast_one, Nat.reduceLeDiff, reduceIte, Nat.reduceEqDiff, Nat.reduceBEq, reduceCtorEq, Nat.reduceAdd, Nat.reduceMul, Nat.reduceSub, Nat.reduceLT, Int.reduceToNat, Int.reduceLT, Int.reduceLE, Int.reduceEq, Int.reduceAdd, Int.reduceNeg, Int.reduceMul, Int.reduceSub]
  refine Does.call d1 (fr2 (store_free (isE_vs _) _) (.str _)) ?_
  simp -implicitDefEqProofs (disch := omega) only [o1, mwx, ne_eq, false_implies, implies_true, forall_eq_or_imp, MW.get, ev, evs, argFr, resK, packV, slHK, partsV, partsS, setR, Int.cast_ofNat_Int, Int.natCast_zero, Int.natCast_one, Nat.reduceLeDiff, reduceIte, Nat.reduceEqDiff, Nat.reduceBEq, reduceCtorEq, Nat.reduceAdd, Nat.reduceMul, Nat.reduceSub, Nat.reduceLT, Int.reduceToNat, Int.reduceLT, Int.reduceLE, Int.reduceEq, Int.reduceAdd, Int.reduceNeg, Int.reduceMul, Int.reduceSub]
  refine Does.call d2 (fr2 (store_free i1 _) (.str _)) ?_
  simp -implicitDefEqProofs (disch := omega) only [o1, o2, mwx, ne_eq, false_implies, implies_true, forall_eq_or_imp, MW.get, ev, evs, argFr, resK, packV, slHK, partsV, partsS, setR, Int.cast_ofNat_Int, Int.natCast_zero, Int.natCast_one, Nat.reduceLeDiff, reduceIte, Nat.reduceEqDiff, Nat.reduceBEq, reduceCtorEq, Nat.reduceAdd, Nat.reduceMul, Nat.reduceSub, Nat.reduceLT, Int.reduceToNat, Int.reduceLT, Int.reduceLE, Int.reduceEq, Int.reduceAdd, Int.reduceNeg, Int.reduceMul, Int.reduceSub]
  refine Does.call g3 (fr3 (store_free i2 _) k1.free (.int _ _)) ?_
  simp -implicitDefEqProofs (disch := omega) only [mwx, ne_eq, false_implies, implies_true, forall_eq_or_imp, MW.get, ev, evs, argFr, resK, packV, slHK, partsV, partsS, setR, Int.cast_ofNat_Int, Int.natCast_zero, Int.natCast_one, Nat.reduceLeDiff, reduceIte, Nat.reduceEqDiff, Nat.reduceBEq, reduceCtorEq, Nat.reduceAdd, Nat.reduceMul, Nat.reduceSub, Nat.reduceLT, Int.reduceToNat, Int.reduceLT, Int.reduceLE, Int.reduceEq, Int.reduceAdd, Int.reduceNeg, Int.reduceMul, Int.reduceSub]
  refine Does.call d3 (fr2 (store_free i2 _) k1.free) ?_
  simp -implicitDefEqProofs (disch := omega) only [o1, o2, o3, mwx, ne_eq, false_implies, implies_true, forall_eq_or_imp, MW.get, ev, evs, argFr, resK, packV, slHK, partsV, partsS, setR, Int.cast_ofNat_Int, Int.natCast_zero, Int.natCast_one, Nat.reduceLeDiff, reduceIte, Nat.reduceEqDiff, Nat.reduceBEq, reduceCtorEq, Nat.reduceAdd, Nat.reduceMul, Nat.reduceSub, Nat.reduceLT, Int.reduceToNat, Int.reduceLT, Int.reduceLE, Int.reduceEq, Int.reduceAdd, Int.reduceNeg, Int.reduceMul, Int.reduceSub]
  refine Does.call g4 (fr3 (store_free i3 _) k1.free (.int _ _)) ?_
  simp -implicitDefEqProofs (disch := omega) only [ok2, os2, ol2, mwx, ne_eq, false_implies, implies_true, forall_eq_or_imp, MW.get, ev, evs, argFr, resK, packV, slHK, partsV, partsS, setR, Int.cast_ofNat_Int, Int.natCast_zero, Int.natCast_one, Nat.reduceLeDiff, reduceIte, Nat.reduceEqDiff, Nat.reduceBEq, reduceCtorEq, Nat.reduceAdd, Nat.reduceMul, Nat.reduceSub, Nat.reduceLT, Int.reduceToNat, Int.reduceLT, Int.reduceLE, Int.reduceEq, Int.reduceAdd, Int.reduceNeg, Int.reduceMul, Int.reduceSub]
  refine Does.callF (pre := [.agg [v3, .str aw3.2]]) (post := []) (b := 3) (n := 1) (i := 0) (len := 1) (sz := 1) (xs := [w2]) (opn := false) d5 (by intro a ha; rw [List.mem_singleton] at ha; subst ha; exact store_free i3 _) (fun a ha => nomatch ha) (by rfl) (by rfl) (by decide) ?_ ?_
  · intro y hy j hj
    simp only [List.drop_zero, List.take_one, List.head?_cons, Option.toList_some, List.mem_singleton] at hy
    subst hy
    rcases k2 with ⟨h, _⟩ | h <;> subst h <;> rw [show j = 0 by simpa [V.cells] using hj]
    · exact .nils
    · exact El.free_vs _
  simp -implicitDefEqProofs (disch := omega) only [o5, mwx, ne_eq, false_implies, implies_true, forall_eq_or_imp, MW.get, ev, evs, argFr, resK, packV, slHK, partsV, partsS, setR, Int.cast_ofNat_Int, Int.natCast_zero, Int.natCast_one, Nat.reduceLeDiff, reduceIte, Nat.reduceEqDiff, Nat.reduceBEq, reduceCtorEq, Nat.reduceAdd, Nat.reduceMul, Nat.reduceSub, Nat.reduceLT, Int.reduceToNat, Int.reduceLT, Int.reduceLE, Int.reduceEq, Int.reduceAdd, Int.reduceNeg, Int.reduceMul, Int.reduceSub]
  obtain ⟨⟨w7, ys, k7⟩, rfl⟩ : ∃ d, ds = [d] := List.length_eq_one_iff.1 (by have := congrArg List.length hds; simpa using this)
  obtain rfl : ys = [(0, 0)] := by simpa using hds
  have hc7 : w7.cells = [w7] := by rcases k7 with ⟨h, _⟩ | h <;> rw [h] <;> rfl
  have g7 := get_fn i5 aw_w5.ok (by omega) (b := aw5.2) (by omega) k7 (by decide) 1
  rw [aw_g5] at g7
  simp -implicitDefEqProofs (disch := omega) only [lenK_isE k5, mwx, ne_eq, false_implies, implies_true, forall_eq_or_imp, MW.get, ev, evs, argFr, resK, packV, slHK, partsV, partsS, setR, Int.cast_ofNat_Int, Int.natCast_zero, Int.natCast_one, Nat.reduceLeDiff, reduceIte, Nat.reduceEqDiff, Nat.reduceBEq, reduceCtorEq, Nat.reduceAdd, Nat.reduceMul, Nat.reduceSub, Nat.reduceLT, Int.reduceToNat, Int.reduceLT, Int.reduceLE, Int.reduceEq, Int.reduceAdd, Int.reduceNeg, Int.reduceMul, Int.reduceSub]
  have p0 : (0 : Int) ≤ 0 := by decide
  have p1 : (0 : Int).toNat < [Ch.mk w7 [(0, 0)] k7].length := by show 0 < 1; decide
  simp -implicitDefEqProofs (disch := omega) only [iaK_ch k5 p0 p1, hc7, mwx, ne_eq, false_implies, implies_true, forall_eq_or_imp, MW.get, ev, evs, argFr, resK, packV, slHK, partsV, partsS, setR, Int.cast_ofNat_Int, Int.natCast_zero, Int.natCast_one, Nat.reduceLeDiff, reduceIte, Nat.reduceEqDiff, Nat.reduceBEq, reduceCtorEq, Nat.reduceAdd, Nat.reduceMul, Nat.reduceSub, Nat.reduceLT, Int.reduceToNat, Int.reduceLT, Int.reduceLE, Int.reduceEq, Int.reduceAdd, Int.reduceNeg, Int.reduceMul, Int.reduceSub]
  refine Does.call g7 (fr3 (store_free i5 _) k7.free (.int _ _)) ?_
  simp -implicitDefEqProofs (disch := omega) only [mwx, ne_eq, false_implies, implies_true, forall_eq_or_imp, MW.get, ev, evs, argFr, resK, packV, slHK, partsV, partsS, setR, Int.cast_ofNat_Int, Int.natCast_zero, Int.natCast_one, Nat.reduceLeDiff, reduceIte, Nat.reduceEqDiff, Nat.reduceBEq, reduceCtorEq, Nat.reduceAdd, Nat.reduceMul, Nat.reduceSub, Nat.reduceLT, Int.reduceToNat, Int.reduceLT, Int.reduceLE, Int.reduceEq, Int.reduceAdd, Int.reduceNeg, Int.reduceMul, Int.reduceSub]
  refine Does.call d6 (fr2 (store_free i3 _) (.str _)) ?_
  simp -implicitDefEqProofs (disch := omega) only [o6, mwx, ne_eq, false_implies, implies_true, forall_eq_or_imp, MW.get, ev, evs, argFr, resK, packV, slHK, partsV, partsS, setR, Int.cast_ofNat_Int, Int.natCast_zero, Int.natCast_one, Nat.reduceLeDiff, reduceIte, Nat.reduceEqDiff, Nat.reduceBEq, reduceCtorEq, Nat.reduceAdd, Nat.reduceMul, Nat.reduceSub, Nat.reduceLT, Int.reduceToNat, Int.reduceLT, Int.reduceLE, Int.reduceEq, Int.reduceAdd, Int.reduceNeg, Int.reduceMul, Int.reduceSub]
  refine Does.call (newS_bad (-1) (by decide)) (fr1 (.int _ _)) ?_
  have hh : (hello == [104, 101, 108, 108, 111, 44, 32, 119, 111, 114, 108, 100]) = true := by decide
  have hh1 : (([120] : List UInt8) == [120]) = true := by decide
  simp -implicitDefEqProofs (disch := omega) only [hh, hh1, mwx, ne_eq, false_implies, implies_true, forall_eq_or_imp, MW.get, ev, evs, argFr, resK, packV, slHK, partsV, partsS, setR, Int.cast_ofNat_Int, Int.natCast_zero, Int.natCast_one, Nat.reduceLeDiff, reduceIte, Nat.reduceEqDiff, Nat.reduceBEq, reduceCtorEq, Nat.reduceAdd, Nat.reduceMul, Nat.reduceSub, Nat.reduceLT, Int.reduceToNat, Int.reduceLT, Int.reduceLE, Int.reduceEq, Int.reduceAdd, Int.reduceNeg, Int.reduceMul, Int.reduceSub]
  refine Does.call c8 (fr1 (store_free i2 _)) ?_
  simp -implicitDefEqProofs (disch := omega) only [mwx, ne_eq, false_implies, implies_true, forall_eq_or_imp, MW.get, ev, evs, argFr, resK, packV, slHK, partsV, partsS, setR, Int.cast_ofNat_Int, Int.natCast_zero, Int.natCast_one, Nat.reduceLeDiff, reduceIte, Nat.reduceEqDiff, Nat.reduceBEq, reduceCtorEq, Nat.reduceAdd, Nat.reduceMul, Nat.reduceSub, Nat.reduceLT, Int.reduceToNat, Int.reduceLT, Int.reduceLE, Int.reduceEq, Int.reduceAdd, Int.reduceNeg, Int.reduceMul, Int.reduceSub]
  refine Does.call c9 (fr1 (store_free (isE_nil (e := segE)) _)) ?_
  simp -implicitDefEqProofs (disch := omega) only [mwx, ne_eq, false_implies, implies_true, forall_eq_or_imp, MW.get, ev, evs, argFr, resK, packV, slHK, partsV, partsS, setR, Int.cast_ofNat_Int, Int.natCast_zero, Int.natCast_one, Nat.reduceLeDiff, reduceIte, Nat.reduceEqDiff, Nat.reduceBEq, reduceCtorEq, Nat.reduceAdd, Nat.reduceMul, Nat.reduceSub, Nat.reduceLT, Int.reduceToNat, Int.reduceLT, Int.reduceLE, Int.reduceEq, Int.reduceAdd, Int.reduceNeg, Int.reduceMul, Int.reduceSub]
  exact frz_bool rfl

end Go.Proofs.YtlcbogafgdofgaaDoor

/- Store: what is put is got, and dropped again all is as it was. -/
namespace Go.Proofs.YtlcbogafgdofgaaDoor
open Go Go.MW
set_option linter.unusedSimpArgs false
set_option linter.unusedVariables false
set_option maxRecDepth 8000

theorem len_of12 {l : List Sg} {b : List UInt8} (h : (decide (l.length ≤ 20) && decide (b.length ≤ 12000)) = true) : l.length ≤ 20 ∧ b.length ≤ 12000 := by simpa using h

theorem get_keep {S S' : SB} {cs : List Int} {d : List UInt8} {ys xs : List (Int × Int)} {size : Int} (hw : W S) (p : PutL S cs d ys S') (h : (getS S.1 S.2 xs size).2 = 0) : getS S'.1 S'.2 xs size = getS S.1 S.2 xs size := by
  obtain ⟨h1, h2, h3⟩ := (getS_iff hw xs size).1 h
  have e := flat_same (S := S) (S' := S') (xs := xs) fun x hx => (p.rdo x (h1 x hx)).1
  rw [getS_ok hw h1 h2 h3, getS_ok p.w (fun x hx => ?_) h2 (by rw [e]; exact h3), e]
  rw [p.oth x fun hy => by have := p.no x hy; rw [h1 x hx] at this; cases this]
  exact h1 x hx

theorem back_fn {v : V} {l : List Sg} (hv : IsE segE v l) (hl : SegOK l) {b d : List UInt8} {w : V} {xs : List (Int × Int)} (hw : IsE slotE w xs) (size : Int) :
    Does Tryd.prog G0 true 3 [.agg [v, .str b], .str d, w, .int .i64 size] (.bool true) := by
  refine Does.intro mixed comp3 ?_
  unfold c3
  have ov := (isE_one hv).2.2
  have hlen : ∀ s : List UInt8, s.length = (s.length : Nat) := fun _ => rfl
  simp -implicitDefEqProofs (disch := omega) only [ov, mwx, ne_eq, false_implies, implies_true, forall_eq_or_imp, MW.get, ev, evs, argFr, resK, packV, slHK, partsV, partsS, setR, Int.cast_ofNat_Int, Int.natCast_zero, Int.natCast_one, Nat.reduceLeDiff, reduceIte, Nat.reduceEqDiff, Nat.reduceBEq, reduceCtorEq, Nat.reduceAdd, Nat.reduceMul, Nat.reduceSub, Nat.reduceLT, Int.reduceToNat, Int.reduceLT, Int.reduceLE, Int.reduceEq, Int.reduceAdd, Int.reduceNeg, Int.reduceMul, Int.reduceSub]
  refine Does.call awake_fn (by simp) ?_
  simp -implicitDefEqProofs (disch := omega) only [mwx, ne_eq, false_implies, implies_true, forall_eq_or_imp, MW.get, ev, evs, argFr, resK, packV, slHK, partsV, partsS, setR, Int.cast_ofNat_Int, Int.natCast_zero, Int.natCast_one, Nat.reduceLeDiff, reduceIte, Nat.reduceEqDiff, Nat.reduceBEq, reduceCtorEq, Nat.reduceAdd, Nat.reduceMul, Nat.reduceSub, Nat.reduceLT, Int.reduceToNat, Int.reduceLT, Int.reduceLE, Int.reduceEq, Int.reduceAdd, Int.reduceNeg, Int.reduceMul, Int.reduceSub]
  refine Does.call (few12 hv b) (fr1 (store_free hv b)) ?_
  simp -implicitDefEqProofs (disch := omega) only [mwx, ne_eq, false_implies, implies_true, forall_eq_or_imp, MW.get, ev, evs, argFr, resK, packV, slHK, partsV, partsS, setR, Int.cast_ofNat_Int, Int.natCast_zero, Int.natCast_one, Nat.reduceLeDiff, reduceIte, Nat.reduceEqDiff, Nat.reduceBEq, reduceCtorEq, Nat.reduceAdd, Nat.reduceMul, Nat.reduceSub, Nat.reduceLT, Int.reduceToNat, Int.reduceLT, Int.reduceLE, Int.reduceEq, Int.reduceAdd, Int.reduceNeg, Int.reduceMul, Int.reduceSub]
  refine xg_any (fun hf => ?_) fun hf => ?_
  rotate_left
  · have hf' : (decide (l.length ≤ 20) && decide (b.length ≤ 12000)) = false := hf
    simp -implicitDefEqProofs (disch := omega) only [hf', mwx, ne_eq, false_implies, implies_true, forall_eq_or_imp, MW.get, ev, evs, argFr, resK, packV, slHK, partsV, partsS, setR, Int.cast_ofNat_Int, Int.natCast_zero, Int.natCast_one, Nat.reduceLeDiff, reduceIte, Nat.reduceEqDiff, Nat.reduceBEq, reduceCtorEq, Nat.reduceAdd, Nat.reduceMul, Nat.reduceSub, Nat.reduceLT, Int.reduceToNat, Int.reduceLT, Int.reduceLE, Int.reduceEq, Int.reduceAdd, Int.reduceNeg, Int.reduceMul, Int.reduceSub]
    exact frz_bool rfl
  have hf' : (decide (l.length ≤ 20) && decide (b.length ≤ 12000)) = true := hf
  obtain ⟨f1, f2⟩ := len_of12 hf'
  simp -implicitDefEqProofs (disch := omega) only [hf', mwx, ne_eq, false_implies, implies_true, forall_eq_or_imp, MW.get, ev, evs, argFr, resK, packV, slHK, partsV, partsS, setR, Int.cast_ofNat_Int, Int.natCast_zero, Int.natCast_one, Nat.reduceLeDiff, reduceIte, Nat.reduceEqDiff, Nat.reduceBEq, reduceCtorEq, Nat.reduceAdd, Nat.reduceMul, Nat.reduceSub, Nat.reduceLT, Int.reduceToNat, Int.reduceLT, Int.reduceLE, Int.reduceEq, Int.reduceAdd, Int.reduceNeg, Int.reduceMul, Int.reduceSub]
  refine xg_decf (fun h5 => ?_) fun h5 => ?_
  · simp -implicitDefEqProofs (disch := omega) only [h5, mwx, ne_eq, false_implies, implies_true, forall_eq_or_imp, MW.get, ev, evs, argFr, resK, packV, slHK, partsV, partsS, setR, Int.cast_ofNat_Int, Int.natCast_zero, Int.natCast_one, Nat.reduceLeDiff, reduceIte, Nat.reduceEqDiff, Nat.reduceBEq, reduceCtorEq, Nat.reduceAdd, Nat.reduceMul, Nat.reduceSub, Nat.reduceLT, Int.reduceToNat, Int.reduceLT, Int.reduceLE, Int.reduceEq, Int.reduceAdd, Int.reduceNeg, Int.reduceMul, Int.reduceSub]
    exact frz_bool rfl
  simp -implicitDefEqProofs (disch := omega) only [h5, mwx, ne_eq, false_implies, implies_true, forall_eq_or_imp, MW.get, ev, evs, argFr, resK, packV, slHK, partsV, partsS, setR, Int.cast_ofNat_Int, Int.natCast_zero, Int.natCast_one, Nat.reduceLeDiff, reduceIte, Nat.reduceEqDiff, Nat.reduceBEq, reduceCtorEq, Nat.reduceAdd, Nat.reduceMul, Nat.reduceSub, Nat.reduceLT, Int.reduceToNat, Int.reduceLT, Int.reduceLE, Int.reduceEq, Int.reduceAdd, Int.reduceNeg, Int.reduceMul, Int.reduceSub]
  refine Does.call (few_fn hw) (fr1 hw.free) ?_
  simp -implicitDefEqProofs (disch := omega) only [mwx, ne_eq, false_implies, implies_true, forall_eq_or_imp, MW.get, ev, evs, argFr, resK, packV, slHK, partsV, partsS, setR, Int.cast_ofNat_Int, Int.natCast_zero, Int.natCast_one, Nat.reduceLeDiff, reduceIte, Nat.reduceEqDiff, Nat.reduceBEq, reduceCtorEq, Nat.reduceAdd, Nat.reduceMul, Nat.reduceSub, Nat.reduceLT, Int.reduceToNat, Int.reduceLT, Int.reduceLE, Int.reduceEq, Int.reduceAdd, Int.reduceNeg, Int.reduceMul, Int.reduceSub]
  refine xg_dec (fun hx => ?_) fun hx => ?_
  rotate_left
  · simp -implicitDefEqProofs (disch := omega) only [hx, mwx, ne_eq, false_implies, implies_true, forall_eq_or_imp, MW.get, ev, evs, argFr, resK, packV, slHK, partsV, partsS, setR, Int.cast_ofNat_Int, Int.natCast_zero, Int.natCast_one, Nat.reduceLeDiff, reduceIte, Nat.reduceEqDiff, Nat.reduceBEq, reduceCtorEq, Nat.reduceAdd, Nat.reduceMul, Nat.reduceSub, Nat.reduceLT, Int.reduceToNat, Int.reduceLT, Int.reduceLE, Int.reduceEq, Int.reduceAdd, Int.reduceNeg, Int.reduceMul, Int.reduceSub]
    exact frz_bool rfl
  simp -implicitDefEqProofs (disch := omega) only [hx, mwx, ne_eq, false_implies, implies_true, forall_eq_or_imp, MW.get, ev, evs, argFr, resK, packV, slHK, partsV, partsS, setR, Int.cast_ofNat_Int, Int.natCast_zero, Int.natCast_one, Nat.reduceLeDiff, reduceIte, Nat.reduceEqDiff, Nat.reduceBEq, reduceCtorEq, Nat.reduceAdd, Nat.reduceMul, Nat.reduceSub, Nat.reduceLT, Int.reduceToNat, Int.reduceLT, Int.reduceLE, Int.reduceEq, Int.reduceAdd, Int.reduceNeg, Int.reduceMul, Int.reduceSub]
  refine Does.call (chkS_fn hv hl (by omega) (by omega)) (fr1 (store_free hv b)) ?_
  simp -implicitDefEqProofs (disch := omega) only [mwx, ne_eq, false_implies, implies_true, forall_eq_or_imp, MW.get, ev, evs, argFr, resK, packV, slHK, partsV, partsS, setR, Int.cast_ofNat_Int, Int.natCast_zero, Int.natCast_one, Nat.reduceLeDiff, reduceIte, Nat.reduceEqDiff, Nat.reduceBEq, reduceCtorEq, Nat.reduceAdd, Nat.reduceMul, Nat.reduceSub, Nat.reduceLT, Int.reduceToNat, Int.reduceLT, Int.reduceLE, Int.reduceEq, Int.reduceAdd, Int.reduceNeg, Int.reduceMul, Int.reduceSub]
  refine xc_any (fun hc => ?_) fun hc => ?_
  rotate_left
  · simp -implicitDefEqProofs (disch := omega) only [hc, mwx, ne_eq, false_implies, implies_true, forall_eq_or_imp, MW.get, ev, evs, argFr, resK, packV, slHK, partsV, partsS, setR, Int.cast_ofNat_Int, Int.natCast_zero, Int.natCast_one, Nat.reduceLeDiff, reduceIte, Nat.reduceEqDiff, Nat.reduceBEq, reduceCtorEq, Nat.reduceAdd, Nat.reduceMul, Nat.reduceSub, Nat.reduceLT, Int.reduceToNat, Int.reduceLT, Int.reduceLE, Int.reduceEq, Int.reduceAdd, Int.reduceNeg, Int.reduceMul, Int.reduceSub]
    exact frz_bool rfl
  have hW := W_of hl hc
  obtain ⟨v1, w1, i1, k1, d1⟩ := put_fn hv hl (by omega) (b := b) (by omega) (d := d) (by omega)
  have o1 := (isE_one i1).2.2
  simp -implicitDefEqProofs (disch := omega) only [hc, mwx, ne_eq, false_implies, implies_true, forall_eq_or_imp, MW.get, ev, evs, argFr, resK, packV, slHK, partsV, partsS, setR, Int.cast_ofNat_Int, Int.natCast_zero, Int.natCast_one, Nat.reduceLeDiff, reduceIte, Nat.reduceEqDiff, Nat.reduceBEq, reduceCtorEq, Nat.reduceAdd, Nat.reduceMul, Nat.reduceSub, Nat.reduceLT, Int.reduceToNat, Int.reduceLT, Int.reduceLE, Int.reduceEq, Int.reduceAdd, Int.reduceNeg, Int.reduceMul, Int.reduceSub]
  refine Does.call d1 (fr2 (store_free hv b) (.str _)) ?_
  simp -implicitDefEqProofs (disch := omega) only [o1, mwx, ne_eq, false_implies, implies_true, forall_eq_or_imp, MW.get, ev, evs, argFr, resK, packV, slHK, partsV, partsS, setR, Int.cast_ofNat_Int, Int.natCast_zero, Int.natCast_one, Nat.reduceLeDiff, reduceIte, Nat.reduceEqDiff, Nat.reduceBEq, reduceCtorEq, Nat.reduceAdd, Nat.reduceMul, Nat.reduceSub, Nat.reduceLT, Int.reduceToNat, Int.reduceLT, Int.reduceLE, Int.reduceEq, Int.reduceAdd, Int.reduceNeg, Int.reduceMul, Int.reduceSub]
  refine xc_dec (fun he => ?_) fun he => ?_
  rotate_left
  · have e : (putS l b d).1 = ((l, b), []) := putS_err hW he
    rw [e] at i1 k1 ⊢
    simp only at i1 k1 ⊢
    simp -implicitDefEqProofs (disch := omega) only [mwx, ne_eq, false_implies, implies_true, forall_eq_or_imp, MW.get, ev, evs, argFr, resK, packV, slHK, partsV, partsS, setR, Int.cast_ofNat_Int, Int.natCast_zero, Int.natCast_one, Nat.reduceLeDiff, reduceIte, Nat.reduceEqDiff, Nat.reduceBEq, reduceCtorEq, Nat.reduceAdd, Nat.reduceMul, Nat.reduceSub, Nat.reduceLT, Int.reduceToNat, Int.reduceLT, Int.reduceLE, Int.reduceEq, Int.reduceAdd, Int.reduceNeg, Int.reduceMul, Int.reduceSub]
    refine Does.call (same12 i1 hv (by omega) b b) (fr2 (store_free i1 b) (store_free hv b)) ?_
    have hs : decide (l = l ∧ b = b) = true := by simp
    simp -implicitDefEqProofs (disch := omega) only [hs, lenK_isE k1, mwx, ne_eq, false_implies, implies_true, forall_eq_or_imp, MW.get, ev, evs, argFr, resK, packV, slHK, partsV, partsS, setR, Int.cast_ofNat_Int, Int.natCast_zero, Int.natCast_one, Nat.reduceLeDiff, reduceIte, Nat.reduceEqDiff, Nat.reduceBEq, reduceCtorEq, Nat.reduceAdd, Nat.reduceMul, Nat.reduceSub, Nat.reduceLT, Int.reduceToNat, Int.reduceLT, Int.reduceLE, Int.reduceEq, Int.reduceAdd, Int.reduceNeg, Int.reduceMul, Int.reduceSub]
    exact frz_bool (by decide)
  obtain ⟨q1, q2, p⟩ := putS_law hW he
  generalize putS l b d = R at *
  obtain ⟨⟨⟨l1, b1⟩, ys⟩, e⟩ := R
  simp only at *
  subst he
  have hlen1 := chk_len p.w.c
  have hb1 := p.w.b
  simp only at hlen1 hb1
  have hys : ys.length = (cut d.length).length := by rw [← p.cl, List.length_map]
  have hys2 := cut_len (n := (d.length : Int)) (by omega)
  have g1 := get_fn i1 p.w.ok (by omega) (b := b1) (by omega) k1 (by omega) d.length
  rw [get_put p] at g1
  obtain ⟨v2, i2, d2⟩ := drop_fn i1 p.w.ok (by omega) (b := b1) (by omega) k1 (by omega)
  rw [dropS_ok p.w p.has p.nd, p.back] at i2 d2
  have o2 := (isE_one i2).2.2
  have g3 := get_fn hv hl (by omega) (b := b) (by omega) hw (by omega) size
  have g4 := get_fn i1 p.w.ok (by omega) (b := b1) (by omega) hw (by omega) size
  have c5 := chkS_fn i1 p.w.ok (by omega) (b := b1) (by omega)
  rw [p.w.chk] at c5
  simp -implicitDefEqProofs (disch := omega) only [mwx, ne_eq, false_implies, implies_true, forall_eq_or_imp, MW.get, ev, evs, argFr, resK, packV, slHK, partsV, partsS, setR, Int.cast_ofNat_Int, Int.natCast_zero, Int.natCast_one, Nat.reduceLeDiff, reduceIte, Nat.reduceEqDiff, Nat.reduceBEq, reduceCtorEq, Nat.reduceAdd, Nat.reduceMul, Nat.reduceSub, Nat.reduceLT, Int.reduceToNat, Int.reduceLT, Int.reduceLE, Int.reduceEq, Int.reduceAdd, Int.reduceNeg, Int.reduceMul, Int.reduceSub]
  refine Does.call g1 (fr3 (store_free i1 _) k1.free (.int _ _)) ?_
  simp -implicitDefEqProofs (disch := omega) only [mwx, ne_eq, false_implies, implies_true, forall_eq_or_imp, MW.get, ev, evs, argFr, resK, packV, slHK, partsV, partsS, setR, Int.cast_ofNat_Int, Int.natCast_zero, Int.natCast_one, Nat.reduceLeDiff, reduceIte, Nat.reduceEqDiff, Nat.reduceBEq, reduceCtorEq, Nat.reduceAdd, Nat.reduceMul, Nat.reduceSub, Nat.reduceLT, Int.reduceToNat, Int.reduceLT, Int.reduceLE, Int.reduceEq, Int.reduceAdd, Int.reduceNeg, Int.reduceMul, Int.reduceSub]
  refine Does.call d2 (fr2 (store_free i1 _) k1.free) ?_
  simp -implicitDefEqProofs (disch := omega) only [o2, mwx, ne_eq, false_implies, implies_true, forall_eq_or_imp, MW.get, ev, evs, argFr, resK, packV, slHK, partsV, partsS, setR, Int.cast_ofNat_Int, Int.natCast_zero, Int.natCast_one, Nat.reduceLeDiff, reduceIte, Nat.reduceEqDiff, Nat.reduceBEq, reduceCtorEq, Nat.reduceAdd, Nat.reduceMul, Nat.reduceSub, Nat.reduceLT, Int.reduceToNat, Int.reduceLT, Int.reduceLE, Int.reduceEq, Int.reduceAdd, Int.reduceNeg, Int.reduceMul, Int.reduceSub]
  refine Does.call g3 (fr3 (store_free hv _) hw.free (.int _ _)) ?_
  simp -implicitDefEqProofs (disch := omega) only [mwx, ne_eq, false_implies, implies_true, forall_eq_or_imp, MW.get, ev, evs, argFr, resK, packV, slHK, partsV, partsS, setR, Int.cast_ofNat_Int, Int.natCast_zero, Int.natCast_one, Nat.reduceLeDiff, reduceIte, Nat.reduceEqDiff, Nat.reduceBEq, reduceCtorEq, Nat.reduceAdd, Nat.reduceMul, Nat.reduceSub, Nat.reduceLT, Int.reduceToNat, Int.reduceLT, Int.reduceLE, Int.reduceEq, Int.reduceAdd, Int.reduceNeg, Int.reduceMul, Int.reduceSub]
  refine Does.call g4 (fr3 (store_free i1 _) hw.free (.int _ _)) ?_
  have hdd : (d == d) = true := by simp
  simp -implicitDefEqProofs (disch := omega) only [hdd, mwx, ne_eq, false_implies, implies_true, forall_eq_or_imp, MW.get, ev, evs, argFr, resK, packV, slHK, partsV, partsS, setR, Int.cast_ofNat_Int, Int.natCast_zero, Int.natCast_one, Nat.reduceLeDiff, reduceIte, Nat.reduceEqDiff, Nat.reduceBEq, reduceCtorEq, Nat.reduceAdd, Nat.reduceMul, Nat.reduceSub, Nat.reduceLT, Int.reduceToNat, Int.reduceLT, Int.reduceLE, Int.reduceEq, Int.reduceAdd, Int.reduceNeg, Int.reduceMul, Int.reduceSub]
  refine Does.call (same12 i2 hv (by show l.length < _; omega) b b) (fr2 (store_free i2 b) (store_free hv b)) ?_
  have hs : decide (l = l ∧ b = b) = true := by simp
  simp -implicitDefEqProofs (disch := omega) only [hs, mwx, ne_eq, false_implies, implies_true, forall_eq_or_imp, MW.get, ev, evs, argFr, resK, packV, slHK, partsV, partsS, setR, Int.cast_ofNat_Int, Int.natCast_zero, Int.natCast_one, Nat.reduceLeDiff, reduceIte, Nat.reduceEqDiff, Nat.reduceBEq, reduceCtorEq, Nat.reduceAdd, Nat.reduceMul, Nat.reduceSub, Nat.reduceLT, Int.reduceToNat, Int.reduceLT, Int.reduceLE, Int.reduceEq, Int.reduceAdd, Int.reduceNeg, Int.reduceMul, Int.reduceSub]
  refine xg_dec (fun h6 => ?_) fun h6 => ?_
  · have e6 := get_keep hW p h6
    have hdd2 : ((getS l b xs size).1 == (getS l b xs size).1) = true := by simp
    simp -implicitDefEqProofs (disch := omega) only [h6, e6, hdd2, mwx, ne_eq, false_implies, implies_true, forall_eq_or_imp, MW.get, ev, evs, argFr, resK, packV, slHK, partsV, partsS, setR, Int.cast_ofNat_Int, Int.natCast_zero, Int.natCast_one, Nat.reduceLeDiff, reduceIte, Nat.reduceEqDiff, Nat.reduceBEq, reduceCtorEq, Nat.reduceAdd, Nat.reduceMul, Nat.reduceSub, Nat.reduceLT, Int.reduceToNat, Int.reduceLT, Int.reduceLE, Int.reduceEq, Int.reduceAdd, Int.reduceNeg, Int.reduceMul, Int.reduceSub]
    refine Does.call c5 (fr1 (store_free i1 _)) ?_
    simp -implicitDefEqProofs (disch := omega) only [mwx, ne_eq, false_implies, implies_true, forall_eq_or_imp, MW.get, ev, evs, argFr, resK, packV, slHK, partsV, partsS, setR, Int.cast_ofNat_Int, Int.natCast_zero, Int.natCast_one, Nat.reduceLeDiff, reduceIte, Nat.reduceEqDiff, Nat.reduceBEq, reduceCtorEq, Nat.reduceAdd, Nat.reduceMul, Nat.reduceSub, Nat.reduceLT, Int.reduceToNat, Int.reduceLT, Int.reduceLE, Int.reduceEq, Int.reduceAdd, Int.reduceNeg, Int.reduceMul, Int.reduceSub]
    exact frz_bool rfl
  · simp -implicitDefEqProofs (disch := omega) only [h6, mwx, ne_eq, false_implies, implies_true, forall_eq_or_imp, MW.get, ev, evs, argFr, resK, packV, slHK, partsV, partsS, setR, Int.cast_ofNat_Int, Int.natCast_zero, Int.natCast_one, Nat.reduceLeDiff, reduceIte, Nat.reduceEqDiff, Nat.reduceBEq, reduceCtorEq, Nat.reduceAdd, Nat.reduceMul, Nat.reduceSub, Nat.reduceLT, Int.reduceToNat, Int.reduceLT, Int.reduceLE, Int.reduceEq, Int.reduceAdd, Int.reduceNeg, Int.reduceMul, Int.reduceSub]
    refine Does.call c5 (fr1 (store_free i1 _)) ?_
    simp -implicitDefEqProofs (disch := omega) only [mwx, ne_eq, false_implies, implies_true, forall_eq_or_imp, MW.get, ev, evs, argFr, resK, packV, slHK, partsV, partsS, setR, Int.cast_ofNat_Int, Int.natCast_zero, Int.natCast_one, Nat.reduceLeDiff, reduceIte, Nat.reduceEqDiff, Nat.reduceBEq, reduceCtorEq, Nat.reduceAdd, Nat.reduceMul, Nat.reduceSub, Nat.reduceLT, Int.reduceToNat, Int.reduceLT, Int.reduceLE, Int.reduceEq, Int.reduceAdd, Int.reduceNeg, Int.reduceMul, Int.reduceSub]
    exact frz_bool rfl

end Go.Proofs.YtlcbogafgdofgaaDoor

/- Store: what is not taken is not got, nor dropped. -/
namespace Go.Proofs.YtlcbogafgdofgaaDoor
open Go Go.MW
set_option linter.unusedSimpArgs false
set_option linter.unusedVariables false
set_option maxRecDepth 8000

def onceX (xs : List (Int × Int)) : Bool := decide xs.Nodup
def diffX (xs : List (Int × Int)) (i k : Nat) : Bool := (xs.take k).all fun y => decide (y ≠ xs.getD i (0, 0))
theorem diffX_0 (xs : List (Int × Int)) (i : Nat) : diffX xs i 0 = true := by simp [diffX]
theorem diffX_succ {xs : List (Int × Int)} {i k : Nat} (hk : k < xs.length) : diffX xs i (k + 1) = (diffX xs i k && !(decide ((xs.getD k (0, 0)).1 = (xs.getD i (0, 0)).1) && (decide ((xs.getD k (0, 0)).2 = (xs.getD i (0, 0)).2) && true))) := by
  unfold diffX
  rw [take_succ_at (d := (0, 0)) hk, List.all_append]
  congr 1
  rw [Bool.eq_iff_iff]
  simp only [List.all_cons, List.all_nil, Bool.and_true, decide_eq_true_eq, Bool.not_eq_true', Bool.and_eq_false_iff, decide_eq_false_iff_not, ne_eq, Prod.ext_iff]
  omega
theorem onceX_succ {xs : List (Int × Int)} {i : Nat} (hi : i < xs.length) : onceX (xs.take (i + 1)) = (onceX (xs.take i) && diffX xs i i) := by
  rw [take_succ_at (d := (0, 0)) hi]
  unfold onceX diffX
  rw [Bool.eq_iff_iff]
  simp only [decide_eq_true_eq, Bool.and_eq_true, List.all_eq_true, List.nodup_append, List.mem_singleton, List.nodup_cons, List.not_mem_nil, not_false_eq_true, List.nodup_nil, true_and, forall_eq]

theorem dropS_w {S : SB} (hw : W S) (xs : List (Int × Int)) : W (dropS S.1 S.2 xs).1 ∧ (dropS S.1 S.2 xs).1.1.length = S.1.length := by
  obtain ⟨d1, d2⟩ := dropS_iff (xs := xs) hw
  by_cases h : (dropS S.1 S.2 xs).2 = 0
  · obtain ⟨h1, h2⟩ := d1.1 h
    have := drops_law xs hw h1 h2
    rw [dropS_ok hw h1 h2]
    exact ⟨this.w, this.len⟩
  · rw [d2 h]
    exact ⟨hw, rfl⟩
theorem all_has {l : List Sg} {xs : List (Int × Int)} : xs.all (hasX l) = true ↔ ∀ x ∈ xs, hasX l x = true := List.all_eq_true
theorem get_zero {S : SB} (hw : W S) (xs : List (Int × Int)) : (decide ((getS S.1 S.2 xs 0).2 = 0) == xs.all (hasX S.1)) = true := by
  have := getS_iff hw xs 0
  rw [beq_iff_eq, Bool.eq_iff_iff, decide_eq_true_eq, this, all_has]
  constructor
  · exact fun h => h.1
  · exact fun h => ⟨h, by omega, by omega⟩
theorem get_len {S : SB} (hw : W S) {xs : List (Int × Int)} {size : Int} (h : (getS S.1 S.2 xs size).2 = 0) : xs.all (hasX S.1) = true ∧ ((getS S.1 S.2 xs size).1.length : Int) = size := by
  obtain ⟨h1, h2, h3⟩ := (getS_iff hw xs size).1 h
  rw [getS_ok hw h1 h2 h3]
  refine ⟨all_has.2 h1, ?_⟩
  rw [List.length_take]
  omega
theorem drop_once {S : SB} (hw : W S) (xs : List (Int × Int)) : decide ((dropS S.1 S.2 xs).2 = 0) = (xs.all (hasX S.1) && onceX xs) := by
  rw [Bool.eq_iff_iff, decide_eq_true_eq, (dropS_iff hw).1, Bool.and_eq_true, all_has]
  simp [onceX]

theorem none_fn {v : V} {l : List Sg} (hv : IsE segE v l) (hl : SegOK l) {b : List UInt8} {w : V} {xs : List (Int × Int)} (hw : IsE slotE w xs) (size : Int) :
    Does Tryd.prog G0 true 4 [.agg [v, .str b], w, .int .i64 size] (.bool true) := by
  refine Does.intro mixed comp4 ?_
  unfold c4
  have ov := (isE_one hv).2.2
  simp -implicitDefEqProofs (disch := omega) only [ov, mwx, ne_eq, false_implies, implies_true, forall_eq_or_imp, MW.get, ev, evs, argFr, resK, packV, slHK, partsV, partsS, setR, Int.cast_ofNat_Int, Int.natCast_zero, Int.natCast_one, Nat.reduceLeDiff, reduceIte, Nat.reduceEqDiff, Nat.reduceBEq, reduceCtorEq, Nat.reduceAdd, Nat.reduceMul, Nat.reduceSub, Nat.reduceLT, Int.reduceToNat, Int.reduceLT, Int.reduceLE, Int.reduceEq, Int.reduceAdd, Int.reduceNeg, Int.reduceMul, Int.reduceSub]
  refine Does.call awake_fn (by simp) ?_
  simp -implicitDefEqProofs (disch := omega) only [mwx, ne_eq, false_implies, implies_true, forall_eq_or_imp, MW.get, ev, evs, argFr, resK, packV, slHK, partsV, partsS, setR, Int.cast_ofNat_Int, Int.natCast_zero, Int.natCast_one, Nat.reduceLeDiff, reduceIte, Nat.reduceEqDiff, Nat.reduceBEq, reduceCtorEq, Nat.reduceAdd, Nat.reduceMul, Nat.reduceSub, Nat.reduceLT, Int.reduceToNat, Int.reduceLT, Int.reduceLE, Int.reduceEq, Int.reduceAdd, Int.reduceNeg, Int.reduceMul, Int.reduceSub]
  refine Does.call (few12 hv b) (fr1 (store_free hv b)) ?_
  simp -implicitDefEqProofs (disch := omega) only [mwx, ne_eq, false_implies, implies_true, forall_eq_or_imp, MW.get, ev, evs, argFr, resK, packV, slHK, partsV, partsS, setR, Int.cast_ofNat_Int, Int.natCast_zero, Int.natCast_one, Nat.reduceLeDiff, reduceIte, Nat.reduceEqDiff, Nat.reduceBEq, reduceCtorEq, Nat.reduceAdd, Nat.reduceMul, Nat.reduceSub, Nat.reduceLT, Int.reduceToNat, Int.reduceLT, Int.reduceLE, Int.reduceEq, Int.reduceAdd, Int.reduceNeg, Int.reduceMul, Int.reduceSub]
  refine xg_any (fun hf => ?_) fun hf => ?_
  rotate_left
  · have hf' : (decide (l.length ≤ 20) && decide (b.length ≤ 12000)) = false := hf
    simp -implicitDefEqProofs (disch := omega) only [hf', mwx, ne_eq, false_implies, implies_true, forall_eq_or_imp, MW.get, ev, evs, argFr, resK, packV, slHK, partsV, partsS, setR, Int.cast_ofNat_Int, Int.natCast_zero, Int.natCast_one, Nat.reduceLeDiff, reduceIte, Nat.reduceEqDiff, Nat.reduceBEq, reduceCtorEq, Nat.reduceAdd, Nat.reduceMul, Nat.reduceSub, Nat.reduceLT, Int.reduceToNat, Int.reduceLT, Int.reduceLE, Int.reduceEq, Int.reduceAdd, Int.reduceNeg, Int.reduceMul, Int.reduceSub]
    exact frz_bool rfl
  have hf' : (decide (l.length ≤ 20) && decide (b.length ≤ 12000)) = true := hf
  obtain ⟨f1, f2⟩ := len_of12 hf'
  simp -implicitDefEqProofs (disch := omega) only [hf', mwx, ne_eq, false_implies, implies_true, forall_eq_or_imp, MW.get, ev, evs, argFr, resK, packV, slHK, partsV, partsS, setR, Int.cast_ofNat_Int, Int.natCast_zero, Int.natCast_one, Nat.reduceLeDiff, reduceIte, Nat.reduceEqDiff, Nat.reduceBEq, reduceCtorEq, Nat.reduceAdd, Nat.reduceMul, Nat.reduceSub, Nat.reduceLT, Int.reduceToNat, Int.reduceLT, Int.reduceLE, Int.reduceEq, Int.reduceAdd, Int.reduceNeg, Int.reduceMul, Int.reduceSub]
  refine Does.call (few_fn hw) (fr1 hw.free) ?_
  simp -implicitDefEqProofs (disch := omega) only [mwx, ne_eq, false_implies, implies_true, forall_eq_or_imp, MW.get, ev, evs, argFr, resK, packV, slHK, partsV, partsS, setR, Int.cast_ofNat_Int, Int.natCast_zero, Int.natCast_one, Nat.reduceLeDiff, reduceIte, Nat.reduceEqDiff, Nat.reduceBEq, reduceCtorEq, Nat.reduceAdd, Nat.reduceMul, Nat.reduceSub, Nat.reduceLT, Int.reduceToNat, Int.reduceLT, Int.reduceLE, Int.reduceEq, Int.reduceAdd, Int.reduceNeg, Int.reduceMul, Int.reduceSub]
  refine xg_dec (fun hx => ?_) fun hx => ?_
  rotate_left
  · simp -implicitDefEqProofs (disch := omega) only [hx, mwx, ne_eq, false_implies, implies_true, forall_eq_or_imp, MW.get, ev, evs, argFr, resK, packV, slHK, partsV, partsS, setR, Int.cast_ofNat_Int, Int.natCast_zero, Int.natCast_one, Nat.reduceLeDiff, reduceIte, Nat.reduceEqDiff, Nat.reduceBEq, reduceCtorEq, Nat.reduceAdd, Nat.reduceMul, Nat.reduceSub, Nat.reduceLT, Int.reduceToNat, Int.reduceLT, Int.reduceLE, Int.reduceEq, Int.reduceAdd, Int.reduceNeg, Int.reduceMul, Int.reduceSub]
    exact frz_bool rfl
  simp -implicitDefEqProofs (disch := omega) only [hx, mwx, ne_eq, false_implies, implies_true, forall_eq_or_imp, MW.get, ev, evs, argFr, resK, packV, slHK, partsV, partsS, setR, Int.cast_ofNat_Int, Int.natCast_zero, Int.natCast_one, Nat.reduceLeDiff, reduceIte, Nat.reduceEqDiff, Nat.reduceBEq, reduceCtorEq, Nat.reduceAdd, Nat.reduceMul, Nat.reduceSub, Nat.reduceLT, Int.reduceToNat, Int.reduceLT, Int.reduceLE, Int.reduceEq, Int.reduceAdd, Int.reduceNeg, Int.reduceMul, Int.reduceSub]
  refine Does.call (chkS_fn hv hl (by omega) (by omega)) (fr1 (store_free hv b)) ?_
  simp -implicitDefEqProofs (disch := omega) only [mwx, ne_eq, false_implies, implies_true, forall_eq_or_imp, MW.get, ev, evs, argFr, resK, packV, slHK, partsV, partsS, setR, Int.cast_ofNat_Int, Int.natCast_zero, Int.natCast_one, Nat.reduceLeDiff, reduceIte, Nat.reduceEqDiff, Nat.reduceBEq, reduceCtorEq, Nat.reduceAdd, Nat.reduceMul, Nat.reduceSub, Nat.reduceLT, Int.reduceToNat, Int.reduceLT, Int.reduceLE, Int.reduceEq, Int.reduceAdd, Int.reduceNeg, Int.reduceMul, Int.reduceSub]
  refine xc_any (fun hc => ?_) fun hc => ?_
  rotate_left
  · simp -implicitDefEqProofs (disch := omega) only [hc, mwx, ne_eq, false_implies, implies_true, forall_eq_or_imp, MW.get, ev, evs, argFr, resK, packV, slHK, partsV, partsS, setR, Int.cast_ofNat_Int, Int.natCast_zero, Int.natCast_one, Nat.reduceLeDiff, reduceIte, Nat.reduceEqDiff, Nat.reduceBEq, reduceCtorEq, Nat.reduceAdd, Nat.reduceMul, Nat.reduceSub, Nat.reduceLT, Int.reduceToNat, Int.reduceLT, Int.reduceLE, Int.reduceEq, Int.reduceAdd, Int.reduceNeg, Int.reduceMul, Int.reduceSub]
    exact frz_bool rfl
  have hW := W_of hl hc
  simp -implicitDefEqProofs (disch := omega) only [hc, mwx, ne_eq, false_implies, implies_true, forall_eq_or_imp, MW.get, ev, evs, argFr, resK, packV, slHK, partsV, partsS, setR, Int.cast_ofNat_Int, Int.natCast_zero, Int.natCast_one, Nat.reduceLeDiff, reduceIte, Nat.reduceEqDiff, Nat.reduceBEq, reduceCtorEq, Nat.reduceAdd, Nat.reduceMul, Nat.reduceSub, Nat.reduceLT, Int.reduceToNat, Int.reduceLT, Int.reduceLE, Int.reduceEq, Int.reduceAdd, Int.reduceNeg, Int.reduceMul, Int.reduceSub]
  refine xl_loop (fun k st => ∃ i : Nat, k + i = xs.length ∧ st.H = [.row 2 [.agg [v, .str b]] false false] ∧ get st.fr 1 = w ∧ get st.fr 2 = .int .i64 size ∧ get st.fr 3 = .ptr 0 1 0 0 ∧ get st.fr 7 = .bool true ∧ get st.fr 8 = .bool ((xs.take i).all (hasX l)) ∧ get st.fr 9 = .bool (onceX (xs.take i)) ∧ get st.fr 10 = .int .i64 i) xs.length ⟨0, by omega, rfl, rfl, rfl, rfl, rfl, rfl, rfl, rfl⟩ ?_
  rintro J hJ k fr H ⟨i, k1, rfl, h1, h2, h3, h7, h8, h9, h10⟩
  simp -implicitDefEqProofs (disch := omega) only [h10, h1, lenK_isE hw, mwx, ne_eq, false_implies, implies_true, forall_eq_or_imp, MW.get, ev, evs, argFr, resK, packV, slHK, partsV, partsS, setR, Int.cast_ofNat_Int, Int.natCast_zero, Int.natCast_one, Nat.reduceLeDiff, reduceIte, Nat.reduceEqDiff, Nat.reduceBEq, reduceCtorEq, Nat.reduceAdd, Nat.reduceMul, Nat.reduceSub, Nat.reduceLT, Int.reduceToNat, Int.reduceLT, Int.reduceLE, Int.reduceEq, Int.reduceAdd, Int.reduceNeg, Int.reduceMul, Int.reduceSub]
  refine xc_dec (fun hi => ?_) fun hi => ?_
  · have hi' : i < xs.length := by omega
    simp -implicitDefEqProofs (disch := omega) only [h8, mwx, ne_eq, false_implies, implies_true, forall_eq_or_imp, MW.get, ev, evs, argFr, resK, packV, slHK, partsV, partsS, setR, Int.cast_ofNat_Int, Int.natCast_zero, Int.natCast_one, Nat.reduceLeDiff, reduceIte, Nat.reduceEqDiff, Nat.reduceBEq, reduceCtorEq, Nat.reduceAdd, Nat.reduceMul, Nat.reduceSub, Nat.reduceLT, Int.reduceToNat, Int.reduceLT, Int.reduceLE, Int.reduceEq, Int.reduceAdd, Int.reduceNeg, Int.reduceMul, Int.reduceSub]
    have i0 : (0 : Int) ≤ (i : Int) := by omega
    have i1 : (i : Int).toNat < xs.length := by omega
    have hall : (xs.take (i + 1)).all (hasX l) = ((xs.take i).all (hasX l) && hasX l (xs.getD i (0, 0))) := by
      rw [take_succ_at (d := (0, 0)) hi', List.all_append]; simp
    refine xg_any (fun ha => ?_) fun ha => ?_
    · simp -implicitDefEqProofs (disch := omega) only [ha, h3, h1, h10, iaK_slot hw i0 i1, Int.toNat_natCast, mwx, ne_eq, false_implies, implies_true, forall_eq_or_imp, MW.get, ev, evs, argFr, resK, packV, slHK, partsV, partsS, setR, Int.cast_ofNat_Int, Int.natCast_zero, Int.natCast_one, Nat.reduceLeDiff, reduceIte, Nat.reduceEqDiff, Nat.reduceBEq, reduceCtorEq, Nat.reduceAdd, Nat.reduceMul, Nat.reduceSub, Nat.reduceLT, Int.reduceToNat, Int.reduceLT, Int.reduceLE, Int.reduceEq, Int.reduceAdd, Int.reduceNeg, Int.reduceMul, Int.reduceSub]
      refine Does.call (has_fn hv hl _ _) (fr2 hv.free (slot_free _ _)) ?_
      have e8 : has l (xs.getD i (0, 0)).1 (xs.getD i (0, 0)).2 = (xs.take (i + 1)).all (hasX l) := by rw [hall, ha]; rfl
      rw [e8]
      simp -implicitDefEqProofs (disch := omega) only [mwx, ne_eq, false_implies, implies_true, forall_eq_or_imp, MW.get, ev, evs, argFr, resK, packV, slHK, partsV, partsS, setR, Int.cast_ofNat_Int, Int.natCast_zero, Int.natCast_one, Nat.reduceLeDiff, reduceIte, Nat.reduceEqDiff, Nat.reduceBEq, reduceCtorEq, Nat.reduceAdd, Nat.reduceMul, Nat.reduceSub, Nat.reduceLT, Int.reduceToNat, Int.reduceLT, Int.reduceLE, Int.reduceEq, Int.reduceAdd, Int.reduceNeg, Int.reduceMul, Int.reduceSub]
      refine xl_loop (fun m st => ∃ k : Nat, m + k = i ∧ st.H = [.row 2 [.agg [v, .str b]] false false] ∧ get st.fr 1 = w ∧ get st.fr 2 = .int .i64 size ∧ get st.fr 3 = .ptr 0 1 0 0 ∧ get st.fr 7 = .bool true ∧ get st.fr 8 = .bool ((xs.take (i + 1)).all (hasX l)) ∧ get st.fr 9 = .bool (onceX (xs.take i) && diffX xs i k) ∧ get st.fr 10 = .int .i64 i ∧ get st.fr 11 = .int .i64 k) i ⟨0, by omega, rfl, h1, h2, h3, h7, by first | rfl | (rw [hall, ha]; rfl), h9.trans (by rw [diffX_0, Bool.and_true]), h10, rfl⟩ ?_
      clear h1 h2 h3 h7 h8 h9 h10
      rintro J2 hJ2 m fr2 H2 ⟨k2, k3, rfl, h1, h2, h3, h7, h8, h9, h10, h11⟩
      simp -implicitDefEqProofs (disch := omega) only [h10, h11, mwx, ne_eq, false_implies, implies_true, forall_eq_or_imp, MW.get, ev, evs, argFr, resK, packV, slHK, partsV, partsS, setR, Int.cast_ofNat_Int, Int.natCast_zero, Int.natCast_one, Nat.reduceLeDiff, reduceIte, Nat.reduceEqDiff, Nat.reduceBEq, reduceCtorEq, Nat.reduceAdd, Nat.reduceMul, Nat.reduceSub, Nat.reduceLT, Int.reduceToNat, Int.reduceLT, Int.reduceLE, Int.reduceEq, Int.reduceAdd, Int.reduceNeg, Int.reduceMul, Int.reduceSub]
      refine xc_dec (fun hk => ?_) fun hk => ?_
      · have hk' : k2 < i := by omega
        have j0 : (0 : Int) ≤ (k2 : Int) := by omega
        have j1 : (k2 : Int).toNat < xs.length := by omega
        have e9 := diffX_succ (xs := xs) (i := i) (k := k2) (by omega)
        simp -implicitDefEqProofs (disch := omega) only [h9, mwx, ne_eq, false_implies, implies_true, forall_eq_or_imp, MW.get, ev, evs, argFr, resK, packV, slHK, partsV, partsS, setR, Int.cast_ofNat_Int, Int.natCast_zero, Int.natCast_one, Nat.reduceLeDiff, reduceIte, Nat.reduceEqDiff, Nat.reduceBEq, reduceCtorEq, Nat.reduceAdd, Nat.reduceMul, Nat.reduceSub, Nat.reduceLT, Int.reduceToNat, Int.reduceLT, Int.reduceLE, Int.reduceEq, Int.reduceAdd, Int.reduceNeg, Int.reduceMul, Int.reduceSub]
        refine xg_any (fun hb => ?_) fun hb => ?_
        · simp -implicitDefEqProofs (disch := omega) only [hb, h1, h10, h11, iaK_slot hw i0 i1, iaK_slot hw j0 j1, Int.toNat_natCast, mwx, ne_eq, false_implies, implies_true, forall_eq_or_imp, MW.get, ev, evs, argFr, resK, packV, slHK, partsV, partsS, setR, Int.cast_ofNat_Int, Int.natCast_zero, Int.natCast_one, Nat.reduceLeDiff, reduceIte, Nat.reduceEqDiff, Nat.reduceBEq, reduceCtorEq, Nat.reduceAdd, Nat.reduceMul, Nat.reduceSub, Nat.reduceLT, Int.reduceToNat, Int.reduceLT, Int.reduceLE, Int.reduceEq, Int.reduceAdd, Int.reduceNeg, Int.reduceMul, Int.reduceSub]
          refine ⟨m - 1, by omega, hJ2 _ _ ⟨k2 + 1, by omega, rfl, h1, h2, h3, h7, h8, ?_, h10, rfl⟩⟩
          rw [e9, ← Bool.and_assoc (onceX _) (diffX _ _ _), hb, Bool.true_and]
          rfl
        · simp -implicitDefEqProofs (disch := omega) only [hb, h11, mwx, ne_eq, false_implies, implies_true, forall_eq_or_imp, MW.get, ev, evs, argFr, resK, packV, slHK, partsV, partsS, setR, Int.cast_ofNat_Int, Int.natCast_zero, Int.natCast_one, Nat.reduceLeDiff, reduceIte, Nat.reduceEqDiff, Nat.reduceBEq, reduceCtorEq, Nat.reduceAdd, Nat.reduceMul, Nat.reduceSub, Nat.reduceLT, Int.reduceToNat, Int.reduceLT, Int.reduceLE, Int.reduceEq, Int.reduceAdd, Int.reduceNeg, Int.reduceMul, Int.reduceSub]
          refine ⟨m - 1, by omega, hJ2 _ _ ⟨k2 + 1, by omega, rfl, h1, h2, h3, h7, h8, ?_, h10, rfl⟩⟩
          rw [e9, ← Bool.and_assoc (onceX _) (diffX _ _ _), hb]
          rfl
      · have hk' : k2 = i := by omega
        simp -implicitDefEqProofs (disch := omega) only [h10, mwx, ne_eq, false_implies, implies_true, forall_eq_or_imp, MW.get, ev, evs, argFr, resK, packV, slHK, partsV, partsS, setR, Int.cast_ofNat_Int, Int.natCast_zero, Int.natCast_one, Nat.reduceLeDiff, reduceIte, Nat.reduceEqDiff, Nat.reduceBEq, reduceCtorEq, Nat.reduceAdd, Nat.reduceMul, Nat.reduceSub, Nat.reduceLT, Int.reduceToNat, Int.reduceLT, Int.reduceLE, Int.reduceEq, Int.reduceAdd, Int.reduceNeg, Int.reduceMul, Int.reduceSub]
        refine ⟨k - 1, by omega, hJ _ _ ⟨i + 1, by omega, rfl, h1, h2, h3, h7, h8, ?_, rfl⟩⟩
        rw [onceX_succ hi', ← hk']
        rw [← hk'] at h9
        exact h9
    · simp -implicitDefEqProofs (disch := omega) only [ha, mwx, ne_eq, false_implies, implies_true, forall_eq_or_imp, MW.get, ev, evs, argFr, resK, packV, slHK, partsV, partsS, setR, Int.cast_ofNat_Int, Int.natCast_zero, Int.natCast_one, Nat.reduceLeDiff, reduceIte, Nat.reduceEqDiff, Nat.reduceBEq, reduceCtorEq, Nat.reduceAdd, Nat.reduceMul, Nat.reduceSub, Nat.reduceLT, Int.reduceToNat, Int.reduceLT, Int.reduceLE, Int.reduceEq, Int.reduceAdd, Int.reduceNeg, Int.reduceMul, Int.reduceSub]
      refine xl_loop (fun m st => ∃ k : Nat, m + k = i ∧ st.H = [.row 2 [.agg [v, .str b]] false false] ∧ get st.fr 1 = w ∧ get st.fr 2 = .int .i64 size ∧ get st.fr 3 = .ptr 0 1 0 0 ∧ get st.fr 7 = .bool true ∧ get st.fr 8 = .bool ((xs.take (i + 1)).all (hasX l)) ∧ get st.fr 9 = .bool (onceX (xs.take i) && diffX xs i k) ∧ get st.fr 10 = .int .i64 i ∧ get st.fr 11 = .int .i64 k) i ⟨0, by omega, rfl, h1, h2, h3, h7, by first | rfl | (rw [hall, ha]; rfl), h9.trans (by rw [diffX_0, Bool.and_true]), h10, rfl⟩ ?_
      clear h1 h2 h3 h7 h8 h9 h10
      rintro J2 hJ2 m fr2 H2 ⟨k2, k3, rfl, h1, h2, h3, h7, h8, h9, h10, h11⟩
      simp -implicitDefEqProofs (disch := omega) only [h10, h11, mwx, ne_eq, false_implies, implies_true, forall_eq_or_imp, MW.get, ev, evs, argFr, resK, packV, slHK, partsV, partsS, setR, Int.cast_ofNat_Int, Int.natCast_zero, Int.natCast_one, Nat.reduceLeDiff, reduceIte, Nat.reduceEqDiff, Nat.reduceBEq, reduceCtorEq, Nat.reduceAdd, Nat.reduceMul, Nat.reduceSub, Nat.reduceLT, Int.reduceToNat, Int.reduceLT, Int.reduceLE, Int.reduceEq, Int.reduceAdd, Int.reduceNeg, Int.reduceMul, Int.reduceSub]
      refine xc_dec (fun hk => ?_) fun hk => ?_
      · have hk' : k2 < i := by omega
        have j0 : (0 : Int) ≤ (k2 : Int) := by omega
        have j1 : (k2 : Int).toNat < xs.length := by omega
        have e9 := diffX_succ (xs := xs) (i := i) (k := k2) (by omega)
        simp -implicitDefEqProofs (disch := omega) only [h9, mwx, ne_eq, false_implies, implies_true, forall_eq_or_imp, MW.get, ev, evs, argFr, resK, packV, slHK, partsV, partsS, setR, Int.cast_ofNat_Int, Int.natCast_zero, Int.natCast_one, Nat.reduceLeDiff, reduceIte, Nat.reduceEqDiff, Nat.reduceBEq, reduceCtorEq, Nat.reduceAdd, Nat.reduceMul, Nat.reduceSub, Nat.reduceLT, Int.reduceToNat, Int.reduceLT, Int.reduceLE, Int.reduceEq, Int.reduceAdd, Int.reduceNeg, Int.reduceMul, Int.reduceSub]
        refine xg_any (fun hb => ?_) fun hb => ?_
        · simp -implicitDefEqProofs (disch := omega) only [hb, h1, h10, h11, iaK_slot hw i0 i1, iaK_slot hw j0 j1, Int.toNat_natCast, mwx, ne_eq, false_implies, implies_true, forall_eq_or_imp, MW.get, ev, evs, argFr, resK, packV, slHK, partsV, partsS, setR, Int.cast_ofNat_Int, Int.natCast_zero, Int.natCast_one, Nat.reduceLeDiff, reduceIte, Nat.reduceEqDiff, Nat.reduceBEq, reduceCtorEq, Nat.reduceAdd, Nat.reduceMul, Nat.reduceSub, Nat.reduceLT, Int.reduceToNat, Int.reduceLT, Int.reduceLE, Int.reduceEq, Int.reduceAdd, Int.reduceNeg, Int.reduceMul, Int.reduceSub]
          refine ⟨m - 1, by omega, hJ2 _ _ ⟨k2 + 1, by omega, rfl, h1, h2, h3, h7, h8, ?_, h10, rfl⟩⟩
          rw [e9, ← Bool.and_assoc (onceX _) (diffX _ _ _), hb, Bool.true_and]
          rfl
        · simp -implicitDefEqProofs (disch := omega) only [hb, h11, mwx, ne_eq, false_implies, implies_true, forall_eq_or_imp, MW.get, ev, evs, argFr, resK, packV, slHK, partsV, partsS, setR, Int.cast_ofNat_Int, Int.natCast_zero, Int.natCast_one, Nat.reduceLeDiff, reduceIte, Nat.reduceEqDiff, Nat.reduceBEq, reduceCtorEq, Nat.reduceAdd, Nat.reduceMul, Nat.reduceSub, Nat.reduceLT, Int.reduceToNat, Int.reduceLT, Int.reduceLE, Int.reduceEq, Int.reduceAdd, Int.reduceNeg, Int.reduceMul, Int.reduceSub]
          refine ⟨m - 1, by omega, hJ2 _ _ ⟨k2 + 1, by omega, rfl, h1, h2, h3, h7, h8, ?_, h10, rfl⟩⟩
          rw [e9, ← Bool.and_assoc (onceX _) (diffX _ _ _), hb]
          rfl
      · have hk' : k2 = i := by omega
        simp -implicitDefEqProofs (disch := omega) only [h10, mwx, ne_eq, false_implies, implies_true, forall_eq_or_imp, MW.get, ev, evs, argFr, resK, packV, slHK, partsV, partsS, setR, Int.cast_ofNat_Int, Int.natCast_zero, Int.natCast_one, Nat.reduceLeDiff, reduceIte, Nat.reduceEqDiff, Nat.reduceBEq, reduceCtorEq, Nat.reduceAdd, Nat.reduceMul, Nat.reduceSub, Nat.reduceLT, Int.reduceToNat, Int.reduceLT, Int.reduceLE, Int.reduceEq, Int.reduceAdd, Int.reduceNeg, Int.reduceMul, Int.reduceSub]
        refine ⟨k - 1, by omega, hJ _ _ ⟨i + 1, by omega, rfl, h1, h2, h3, h7, h8, ?_, rfl⟩⟩
        rw [onceX_succ hi', ← hk']
        rw [← hk'] at h9
        exact h9
  · have hi' : i = xs.length := by omega
    subst hi'
    rw [List.take_length] at h8 h9
    have g1 := get_fn hv hl (by omega) (b := b) (by omega) hw (by omega) 0
    have g2 := get_fn hv hl (by omega) (b := b) (by omega) hw (by omega) size
    obtain ⟨v2, i2, d2⟩ := drop_fn hv hl (by omega) (b := b) (by omega) hw (by omega)
    have o2 := (isE_one i2).2.2
    obtain ⟨w2, n2⟩ := dropS_w hW xs
    have t1 := get_zero hW xs
    have t2 := drop_once hW xs
    have t3 := get_len (xs := xs) (size := size) hW
    have t4 := (dropS_iff (xs := xs) hW).2
    simp only at w2 n2 t1 t2 t3 t4
    have c3 := chkS_fn i2 w2.ok (by omega) (b := (dropS l b xs).1.2) (by have := w2.b; omega)
    rw [w2.chk] at c3
    have c2 := same12 i2 hv (by omega) (dropS l b xs).1.2 b
    simp -implicitDefEqProofs (disch := omega) only [h3, h1, mwx, ne_eq, false_implies, implies_true, forall_eq_or_imp, MW.get, ev, evs, argFr, resK, packV, slHK, partsV, partsS, setR, Int.cast_ofNat_Int, Int.natCast_zero, Int.natCast_one, Nat.reduceLeDiff, reduceIte, Nat.reduceEqDiff, Nat.reduceBEq, reduceCtorEq, Nat.reduceAdd, Nat.reduceMul, Nat.reduceSub, Nat.reduceLT, Int.reduceToNat, Int.reduceLT, Int.reduceLE, Int.reduceEq, Int.reduceAdd, Int.reduceNeg, Int.reduceMul, Int.reduceSub]
    refine Does.call g1 (fr3 (store_free hv b) hw.free (.int _ _)) ?_
    simp -implicitDefEqProofs (disch := omega) only [h3, h1, h2, mwx, ne_eq, false_implies, implies_true, forall_eq_or_imp, MW.get, ev, evs, argFr, resK, packV, slHK, partsV, partsS, setR, Int.cast_ofNat_Int, Int.natCast_zero, Int.natCast_one, Nat.reduceLeDiff, reduceIte, Nat.reduceEqDiff, Nat.reduceBEq, reduceCtorEq, Nat.reduceAdd, Nat.reduceMul, Nat.reduceSub, Nat.reduceLT, Int.reduceToNat, Int.reduceLT, Int.reduceLE, Int.reduceEq, Int.reduceAdd, Int.reduceNeg, Int.reduceMul, Int.reduceSub]
    refine Does.call g2 (fr3 (store_free hv b) hw.free (.int _ _)) ?_
    simp -implicitDefEqProofs (disch := omega) only [h3, h1, h2, mwx, ne_eq, false_implies, implies_true, forall_eq_or_imp, MW.get, ev, evs, argFr, resK, packV, slHK, partsV, partsS, setR, Int.cast_ofNat_Int, Int.natCast_zero, Int.natCast_one, Nat.reduceLeDiff, reduceIte, Nat.reduceEqDiff, Nat.reduceBEq, reduceCtorEq, Nat.reduceAdd, Nat.reduceMul, Nat.reduceSub, Nat.reduceLT, Int.reduceToNat, Int.reduceLT, Int.reduceLE, Int.reduceEq, Int.reduceAdd, Int.reduceNeg, Int.reduceMul, Int.reduceSub]
    refine Does.call d2 (fr2 (store_free hv b) hw.free) ?_
    simp -implicitDefEqProofs (disch := omega) only [o2, h7, h8, h9, t1, mwx, ne_eq, false_implies, implies_true, forall_eq_or_imp, MW.get, ev, evs, argFr, resK, packV, slHK, partsV, partsS, setR, Int.cast_ofNat_Int, Int.natCast_zero, Int.natCast_one, Nat.reduceLeDiff, reduceIte, Nat.reduceEqDiff, Nat.reduceBEq, reduceCtorEq, Nat.reduceAdd, Nat.reduceMul, Nat.reduceSub, Nat.reduceLT, Int.reduceToNat, Int.reduceLT, Int.reduceLE, Int.reduceEq, Int.reduceAdd, Int.reduceNeg, Int.reduceMul, Int.reduceSub]
    refine xg_dec (fun h6 => ?_) fun h6 => ?_
    · obtain ⟨t5, t6⟩ := t3 h6
      have t7 : decide (((getS l b xs size).1.length : Int) = size) = true := by simpa using t6
      have t8 : (decide ((dropS l b xs).2 = 0) == onceX xs) = true := by rw [t2, t5]; simp
      simp -implicitDefEqProofs (disch := omega) only [h6, t5, t7, h2, h8, h9, t8, mwx, ne_eq, false_implies, implies_true, forall_eq_or_imp, MW.get, ev, evs, argFr, resK, packV, slHK, partsV, partsS, setR, Int.cast_ofNat_Int, Int.natCast_zero, Int.natCast_one, Nat.reduceLeDiff, reduceIte, Nat.reduceEqDiff, Nat.reduceBEq, reduceCtorEq, Nat.reduceAdd, Nat.reduceMul, Nat.reduceSub, Nat.reduceLT, Int.reduceToNat, Int.reduceLT, Int.reduceLE, Int.reduceEq, Int.reduceAdd, Int.reduceNeg, Int.reduceMul, Int.reduceSub]
      refine xg_decf (fun h4 => ?_) fun h4 => ?_
      · simp -implicitDefEqProofs (disch := omega) only [h4, h3, h1, mwx, ne_eq, false_implies, implies_true, forall_eq_or_imp, MW.get, ev, evs, argFr, resK, packV, slHK, partsV, partsS, setR, Int.cast_ofNat_Int, Int.natCast_zero, Int.natCast_one, Nat.reduceLeDiff, reduceIte, Nat.reduceEqDiff, Nat.reduceBEq, reduceCtorEq, Nat.reduceAdd, Nat.reduceMul, Nat.reduceSub, Nat.reduceLT, Int.reduceToNat, Int.reduceLT, Int.reduceLE, Int.reduceEq, Int.reduceAdd, Int.reduceNeg, Int.reduceMul, Int.reduceSub]
        refine Does.call c3 (fr1 (store_free i2 _)) ?_
        simp -implicitDefEqProofs (disch := omega) only [mwx, ne_eq, false_implies, implies_true, forall_eq_or_imp, MW.get, ev, evs, argFr, resK, packV, slHK, partsV, partsS, setR, Int.cast_ofNat_Int, Int.natCast_zero, Int.natCast_one, Nat.reduceLeDiff, reduceIte, Nat.reduceEqDiff, Nat.reduceBEq, reduceCtorEq, Nat.reduceAdd, Nat.reduceMul, Nat.reduceSub, Nat.reduceLT, Int.reduceToNat, Int.reduceLT, Int.reduceLE, Int.reduceEq, Int.reduceAdd, Int.reduceNeg, Int.reduceMul, Int.reduceSub]
        exact frz_bool rfl
      · have hs : decide ((dropS l b xs).1.1 = l ∧ (dropS l b xs).1.2 = b) = true := by rw [t4 h4]; simp
        simp -implicitDefEqProofs (disch := omega) only [h4, h3, h1, mwx, ne_eq, false_implies, implies_true, forall_eq_or_imp, MW.get, ev, evs, argFr, resK, packV, slHK, partsV, partsS, setR, Int.cast_ofNat_Int, Int.natCast_zero, Int.natCast_one, Nat.reduceLeDiff, reduceIte, Nat.reduceEqDiff, Nat.reduceBEq, reduceCtorEq, Nat.reduceAdd, Nat.reduceMul, Nat.reduceSub, Nat.reduceLT, Int.reduceToNat, Int.reduceLT, Int.reduceLE, Int.reduceEq, Int.reduceAdd, Int.reduceNeg, Int.reduceMul, Int.reduceSub]
        refine Does.call c2 (fr2 (store_free i2 _) (store_free hv b)) ?_
        simp -implicitDefEqProofs (disch := omega) only [hs, mwx, ne_eq, false_implies, implies_true, forall_eq_or_imp, MW.get, ev, evs, argFr, resK, packV, slHK, partsV, partsS, setR, Int.cast_ofNat_Int, Int.natCast_zero, Int.natCast_one, Nat.reduceLeDiff, reduceIte, Nat.reduceEqDiff, Nat.reduceBEq, reduceCtorEq, Nat.reduceAdd, Nat.reduceMul, Nat.reduceSub, Nat.reduceLT, Int.reduceToNat, Int.reduceLT, Int.reduceLE, Int.reduceEq, Int.reduceAdd, Int.reduceNeg, Int.reduceMul, Int.reduceSub]
        refine Does.call c3 (fr1 (store_free i2 _)) ?_
        simp -implicitDefEqProofs (disch := omega) only [mwx, ne_eq, false_implies, implies_true, forall_eq_or_imp, MW.get, ev, evs, argFr, resK, packV, slHK, partsV, partsS, setR, Int.cast_ofNat_Int, Int.natCast_zero, Int.natCast_one, Nat.reduceLeDiff, reduceIte, Nat.reduceEqDiff, Nat.reduceBEq, reduceCtorEq, Nat.reduceAdd, Nat.reduceMul, Nat.reduceSub, Nat.reduceLT, Int.reduceToNat, Int.reduceLT, Int.reduceLE, Int.reduceEq, Int.reduceAdd, Int.reduceNeg, Int.reduceMul, Int.reduceSub]
        exact frz_bool rfl
    · simp -implicitDefEqProofs (disch := omega) only [h6, h8, mwx, ne_eq, false_implies, implies_true, forall_eq_or_imp, MW.get, ev, evs, argFr, resK, packV, slHK, partsV, partsS, setR, Int.cast_ofNat_Int, Int.natCast_zero, Int.natCast_one, Nat.reduceLeDiff, reduceIte, Nat.reduceEqDiff, Nat.reduceBEq, reduceCtorEq, Nat.reduceAdd, Nat.reduceMul, Nat.reduceSub, Nat.reduceLT, Int.reduceToNat, Int.reduceLT, Int.reduceLE, Int.reduceEq, Int.reduceAdd, Int.reduceNeg, Int.reduceMul, Int.reduceSub]
      refine xg_any (fun h5 => ?_) fun h5 => ?_
      · have t8 : (decide ((dropS l b xs).2 = 0) == onceX xs) = true := by rw [t2, h5]; simp
        simp -implicitDefEqProofs (disch := omega) only [h5, h9, t8, mwx, ne_eq, false_implies, implies_true, forall_eq_or_imp, MW.get, ev, evs, argFr, resK, packV, slHK, partsV, partsS, setR, Int.cast_ofNat_Int, Int.natCast_zero, Int.natCast_one, Nat.reduceLeDiff, reduceIte, Nat.reduceEqDiff, Nat.reduceBEq, reduceCtorEq, Nat.reduceAdd, Nat.reduceMul, Nat.reduceSub, Nat.reduceLT, Int.reduceToNat, Int.reduceLT, Int.reduceLE, Int.reduceEq, Int.reduceAdd, Int.reduceNeg, Int.reduceMul, Int.reduceSub]
        refine xg_decf (fun h4 => ?_) fun h4 => ?_
        · simp -implicitDefEqProofs (disch := omega) only [h4, h3, h1, mwx, ne_eq, false_implies, implies_true, forall_eq_or_imp, MW.get, ev, evs, argFr, resK, packV, slHK, partsV, partsS, setR, Int.cast_ofNat_Int, Int.natCast_zero, Int.natCast_one, Nat.reduceLeDiff, reduceIte, Nat.reduceEqDiff, Nat.reduceBEq, reduceCtorEq, Nat.reduceAdd, Nat.reduceMul, Nat.reduceSub, Nat.reduceLT, Int.reduceToNat, Int.reduceLT, Int.reduceLE, Int.reduceEq, Int.reduceAdd, Int.reduceNeg, Int.reduceMul, Int.reduceSub]
          refine Does.call c3 (fr1 (store_free i2 _)) ?_
          simp -implicitDefEqProofs (disch := omega) only [mwx, ne_eq, false_implies, implies_true, forall_eq_or_imp, MW.get, ev, evs, argFr, resK, packV, slHK, partsV, partsS, setR, Int.cast_ofNat_Int, Int.natCast_zero, Int.natCast_one, Nat.reduceLeDiff, reduceIte, Nat.reduceEqDiff, Nat.reduceBEq, reduceCtorEq, Nat.reduceAdd, Nat.reduceMul, Nat.reduceSub, Nat.reduceLT, Int.reduceToNat, Int.reduceLT, Int.reduceLE, Int.reduceEq, Int.reduceAdd, Int.reduceNeg, Int.reduceMul, Int.reduceSub]
          exact frz_bool rfl
        · have hs : decide ((dropS l b xs).1.1 = l ∧ (dropS l b xs).1.2 = b) = true := by rw [t4 h4]; simp
          simp -implicitDefEqProofs (disch := omega) only [h4, h3, h1, mwx, ne_eq, false_implies, implies_true, forall_eq_or_imp, MW.get, ev, evs, argFr, resK, packV, slHK, partsV, partsS, setR, Int.cast_ofNat_Int, Int.natCast_zero, Int.natCast_one, Nat.reduceLeDiff, reduceIte, Nat.reduceEqDiff, Nat.reduceBEq, reduceCtorEq, Nat.reduceAdd, Nat.reduceMul, Nat.reduceSub, Nat.reduceLT, Int.reduceToNat, Int.reduceLT, Int.reduceLE, Int.reduceEq, Int.reduceAdd, Int.reduceNeg, Int.reduceMul, Int.reduceSub]
          refine Does.call c2 (fr2 (store_free i2 _) (store_free hv b)) ?_
          simp -implicitDefEqProofs (disch := omega) only [hs, mwx, ne_eq, false_implies, implies_true, forall_eq_or_imp, MW.get, ev, evs, argFr, resK, packV, slHK, partsV, partsS, setR, Int.cast_ofNat_Int, Int.natCast_zero, Int.natCast_one, Nat.reduceLeDiff, reduceIte, Nat.reduceEqDiff, Nat.reduceBEq, reduceCtorEq, Nat.reduceAdd, Nat.reduceMul, Nat.reduceSub, Nat.reduceLT, Int.reduceToNat, Int.reduceLT, Int.reduceLE, Int.reduceEq, Int.reduceAdd, Int.reduceNeg, Int.reduceMul, Int.reduceSub]
          refine Does.call c3 (fr1 (store_free i2 _)) ?_
          simp -implicitDefEqProofs (disch := omega) only [mwx, ne_eq, false_implies, implies_true, forall_eq_or_imp, MW.get, ev, evs, argFr, resK, packV, slHK, partsV, partsS, setR, Int.cast_ofNat_Int, Int.natCast_zero, Int.natCast_one, Nat.reduceLeDiff, reduceIte, Nat.reduceEqDiff, Nat.reduceBEq, reduceCtorEq, Nat.reduceAdd, Nat.reduceMul, Nat.reduceSub, Nat.reduceLT, Int.reduceToNat, Int.reduceLT, Int.reduceLE, Int.reduceEq, Int.reduceAdd, Int.reduceNeg, Int.reduceMul, Int.reduceSub]
          exact frz_bool rfl
      · have t8 : (decide ((dropS l b xs).2 = 0) == false) = true := by rw [t2, h5]; rfl
        simp -implicitDefEqProofs (disch := omega) only [h5, t8, mwx, ne_eq, false_implies, implies_true, forall_eq_or_imp, MW.get, ev, evs, argFr, resK, packV, slHK, partsV, partsS, setR, Int.cast_ofNat_Int, Int.natCast_zero, Int.natCast_one, Nat.reduceLeDiff, reduceIte, Nat.reduceEqDiff, Nat.reduceBEq, reduceCtorEq, Nat.reduceAdd, Nat.reduceMul, Nat.reduceSub, Nat.reduceLT, Int.reduceToNat, Int.reduceLT, Int.reduceLE, Int.reduceEq, Int.reduceAdd, Int.reduceNeg, Int.reduceMul, Int.reduceSub]
        refine xg_decf (fun h4 => ?_) fun h4 => ?_
        · simp -implicitDefEqProofs (disch := omega) only [h4, h3, h1, mwx, ne_eq, false_implies, implies_true, forall_eq_or_imp, MW.get, ev, evs, argFr, resK, packV, slHK, partsV, partsS, setR, Int.cast_ofNat_Int, Int.natCast_zero, Int.natCast_one, Nat.reduceLeDiff, reduceIte, Nat.reduceEqDiff, Nat.reduceBEq, reduceCtorEq, Nat.reduceAdd, Nat.reduceMul, Nat.reduceSub, Nat.reduceLT, Int.reduceToNat, Int.reduceLT, Int.reduceLE, Int.reduceEq, Int.reduceAdd, Int.reduceNeg, Int.reduceMul, Int.reduceSub]
          refine Does.call c3 (fr1 (store_free i2 _)) ?_
          simp -implicitDefEqProofs (disch := omega) only [mwx, ne_eq, false_implies, implies_true, forall_eq_or_imp, MW.get, ev, evs, argFr, resK, packV, slHK, partsV, partsS, setR, Int.cast_ofNat_Int, Int.natCast_zero, Int.natCast_one, Nat.reduceLeDiff, reduceIte, Nat.reduceEqDiff, Nat.reduceBEq, reduceCtorEq, Nat.reduceAdd, Nat.reduceMul, Nat.reduceSub, Nat.reduceLT, Int.reduceToNat, Int.reduceLT, Int.reduceLE, Int.reduceEq, Int.reduceAdd, Int.reduceNeg, Int.reduceMul, Int.reduceSub]
          exact frz_bool rfl
        · have hs : decide ((dropS l b xs).1.1 = l ∧ (dropS l b xs).1.2 = b) = true := by rw [t4 h4]; simp
          simp -implicitDefEqProofs (disch := omega) only [h4, h3, h1, mwx, ne_eq, false_implies, implies_true, forall_eq_or_imp, MW.get, ev, evs, argFr, resK, packV, slHK, partsV, partsS, setR, Int.cast_ofNat_Int, Int.natCast_zero, Int.natCast_one, Nat.reduceLeDiff, reduceIte, Nat.reduceEqDiff, Nat.reduceBEq, reduceCtorEq, Nat.reduceAdd, Nat.reduceMul, Nat.reduceSub, Nat.reduceLT, Int.reduceToNat, Int.reduceLT, Int.reduceLE, Int.reduceEq, Int.reduceAdd, Int.reduceNeg, Int.reduceMul, Int.reduceSub]
          refine Does.call c2 (fr2 (store_free i2 _) (store_free hv b)) ?_
          simp -implicitDefEqProofs (disch := omega) only [hs, mwx, ne_eq, false_implies, implies_true, forall_eq_or_imp, MW.get, ev, evs, argFr, resK, packV, slHK, partsV, partsS, setR, Int.cast_ofNat_Int, Int.natCast_zero, Int.natCast_one, Nat.reduceLeDiff, reduceIte, Nat.reduceEqDiff, Nat.reduceBEq, reduceCtorEq, Nat.reduceAdd, Nat.reduceMul, Nat.reduceSub, Nat.reduceLT, Int.reduceToNat, Int.reduceLT, Int.reduceLE, Int.reduceEq, Int.reduceAdd, Int.reduceNeg, Int.reduceMul, Int.reduceSub]
          refine Does.call c3 (fr1 (store_free i2 _)) ?_
          simp -implicitDefEqProofs (disch := omega) only [mwx, ne_eq, false_implies, implies_true, forall_eq_or_imp, MW.get, ev, evs, argFr, resK, packV, slHK, partsV, partsS, setR, Int.cast_ofNat_Int, Int.natCast_zero, Int.natCast_one, Nat.reduceLeDiff, reduceIte, Nat.reduceEqDiff, Nat.reduceBEq, reduceCtorEq, Nat.reduceAdd, Nat.reduceMul, Nat.reduceSub, Nat.reduceLT, Int.reduceToNat, Int.reduceLT, Int.reduceLE, Int.reduceEq, Int.reduceAdd, Int.reduceNeg, Int.reduceMul, Int.reduceSub]
          exact frz_bool rfl

end Go.Proofs.YtlcbogafgdofgaaDoor

/- Arena: the listed variable; the door; the arguments' types. -/
namespace Go.Proofs.YtlcbogafgdofgaaDoor
open Go Go.MW Go.ChangeShapes Go.WideShapes Go.ChangeAt Go.RowKit
set_option linter.unusedVariables false
set_option linter.unusedSimpArgs false
theorem own : ownKnob Tryd.prog.godebug = none := by kernel_rfl
theorem laidOut : laidOutB Tryd.prog = true := by kernel_rfl
theorem gTab : Tryd.prog.globalNamed "math/bits.deBruijn64tab" = some 0 := by kernel_rfl
theorem tTab : (Tryd.prog.globals[0]?).map (·.type) = some 94 := by kernel_rfl
abbrev laids : List (String × DataW Unit) := [("math/bits.deBruijn64tab", Rows.laid_math_bits_deBruijn64tab)]

/-- The door's own heap meets the condition. -/
theorem door_met (os : Os) (args : Array Value) : laidMetH Tryd.prog laids ((World.doorLaid Tryd.prog 400 os).forCall (fun _ _ => 0) ⟨#[], args, []⟩).memory :=
  laidMetH_of_parts3 (fuel := 8) (laidMet_of_run' 8 (by kernel_rfl) (by kernel_rfl)) (by kernel_rfl) (by kernel_rfl)

theorem of_laid {W : World} (h : laidMetH Tryd.prog laids W) : GlobOK G0 (fun r => r < W.heap.size) W := by
  rw [MakeChecks.laidMetH_plain _ _ _ (by kernel_rfl)] at h
  obtain ⟨ps, ⟨g0, t0, cs0, f0, p0, q0, hg0, ht0, hv0, hd0, _, _⟩, _, _⟩ := h
  obtain rfl := Option.some.inj (gTab.symm.trans hg0)
  obtain rfl := Option.some.inj (tTab.symm.trans ht0)
  have hd : (Rows.laid_math_bits_deBruijn64tab : DataW Unit) = .agg ((Lib.deBruijn64tab.map fun (n : Nat) => (n : Int)).map fun v => .lit (.int .u8 v)) := rfl
  rw [hd] at hd0
  obtain ⟨h1, h2⟩ := glob_ints (e := 5) (k := .u8) (n := 64) gTab hv0 Tryd.underlying94 Tryd.underlying5 (by kernel_rfl) hd0
  intro g cs hg
  by_cases e : g = 0
  · subst e
    obtain rfl : Lib.deBruijn64tab.map (fun (n : Nat) => V.int .u8 n) = cs := by simpa [G0] using hg
    refine ⟨h1, fun j => .int .u8 ((Lib.deBruijn64tab.map fun (n : Nat) => (n : Int)).getD j 0), fun j hj => h2 j (by simpa using hj), fun j hj => ?_⟩
    have : (Lib.deBruijn64tab.map fun (n : Nat) => V.int .u8 n).getD j .junk = .int .u8 ((Lib.deBruijn64tab.map fun (n : Nat) => (n : Int)).getD j 0) := by
      have hj : j < Lib.deBruijn64tab.length := by simpa using hj
      simp [List.getD_eq_getElem?_getD, hj]
    rw [this]
    exact .int _ _
  · simp [G0, e] at hg

end Go.Proofs.YtlcbogafgdofgaaDoor

/- Store: the arguments' types. -/
namespace Go.Proofs.YtlcbogafgdofgaaDoor
open Go Go.MW Go.ChangeShapes Go.WideShapes Go.ChangeAt Go.RowKit
set_option linter.unusedVariables false
set_option linter.unusedSimpArgs false

theorem typN_seg {M n : Nat} {cs : List V} (h : TypN Tryd.prog M n 57 cs) : ∃ a, mkV Tryd.prog 57 cs = segE.f a ∧ a.2 < 2 ^ 64 := by
  obtain ⟨m, h⟩ := typN_fs Tryd.underlying57 h
  obtain ⟨a, b, rfl, h1, h⟩ := typFs_cons h
  obtain ⟨c, d, rfl, h2, h⟩ := typFs_cons h
  obtain rfl := typFs_nil h
  obtain ⟨x, rfl, _⟩ := typN_int Tryd.underlying3 h1
  obtain ⟨y, rfl, hy⟩ := typN_int Tryd.underlying55 h2
  obtain ⟨u, rfl, hu⟩ := u64_nat hy
  exact ⟨(x, u), by simp [mkV, Tryd.underlying57, seg_f], hu⟩
theorem typN_slot {M n : Nat} {cs : List V} (h : TypN Tryd.prog M n 40 cs) : ∃ a, mkV Tryd.prog 40 cs = slotE.f a ∧ True := by
  obtain ⟨m, h⟩ := typN_fs Tryd.underlying40 h
  obtain ⟨a, b, rfl, h1, h⟩ := typFs_cons h
  obtain ⟨c, d, rfl, h2, h⟩ := typFs_cons h
  obtain rfl := typFs_nil h
  obtain ⟨x, rfl, _⟩ := typN_int Tryd.underlying3 h1
  obtain ⟨y, rfl, hy⟩ := typN_int Tryd.underlying3 h2
  exact ⟨(x, y), by simp [mkV, Tryd.underlying40, slotE], trivial⟩
theorem typ_slots {M : Nat} {v : V} (h : Typ Tryd.prog M 25 v) : ∃ l, IsE slotE v l ∧ l.length ≤ M := by
  obtain ⟨l, h1, _, h2⟩ := typ_list (e := slotE) (Q := fun _ => True) Tryd.underlying25 (fun _ _ h => typN_slot h) h
  exact ⟨l, h1, h2⟩
/-- A store: the row of segments, the bytes. -/
theorem typ_store {M : Nat} {v : V} (h : Typ Tryd.prog M 24 v) : ∃ x l b, v = .agg [x, .str b] ∧ IsE segE x l ∧ SegOK l ∧ l.length ≤ M ∧ b.length ≤ M := by
  obtain ⟨m, vs, rfl, h0⟩ := typ_struct Tryd.underlying24 h
  obtain ⟨a, b, rfl, h1, h2'⟩ := typFs_cons h0
  obtain ⟨c, d, rfl, h2, h3⟩ := typFs_cons h2'
  obtain rfl := typFs_nil h3
  obtain ⟨x, l, rfl, k1, k2, k3⟩ := typN_list (e := segE) (Q := fun a : Sg => a.2 < 2 ^ 64) Tryd.underlying22 (fun _ _ h => typN_seg h) h1
  obtain ⟨s, rfl, hs⟩ := typN_str Tryd.underlying9 h2
  exact ⟨x, l, s, rfl, k1, k2, k3, hs⟩

theorem typ_four {P : Program} {M : Nat} {t u s r : TypeId} {Vs : List V} (h : TypAll P M [t, u, s, r] Vs) : ∃ v x y z, Vs = [v, x, y, z] ∧ Typ P M t v ∧ Typ P M u x ∧ Typ P M s y ∧ Typ P M r z := by
  rcases Vs with _ | ⟨v, Vs⟩
  · exact h.elim
  · obtain ⟨x, y, z, rfl, hx, hy, hz⟩ := typ_three h.2
    exact ⟨v, x, y, z, rfl, h.1, hx, hy, hz⟩
theorem typ_string {M : Nat} {v : V} (h : Typ Tryd.prog M 9 v) : ∃ s, v = .str s ∧ s.length ≤ M := by
  obtain ⟨n, cs, rfl, h⟩ := h
  obtain ⟨s, rfl, hs⟩ := typN_str Tryd.underlying9 h
  exact ⟨s, by simp [mkV, Tryd.underlying9], hs⟩

end Go.Proofs.YtlcbogafgdofgaaDoor

