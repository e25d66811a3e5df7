import Derived.Test.YtlcbogafgdofgaaDoorMwB6
/- Store (chapter 12): bytes of slots; may a store be? -/
namespace Go.Proofs.YtlcbogafgdofgaaDoor
open Go Go.MW
set_option linter.unusedSimpArgs false
set_option linter.unusedVariables false
set_option maxRecDepth 8000

theorem getD_ext {a b : List UInt8} (hl : a.length = b.length) (h : ∀ p, p < a.length → a.getD p 0 = b.getD p 0) : a = b := by
  refine List.ext_getElem hl fun p h1 h2 => ?_
  have := h p h1
  rw [List.getD_eq_getElem?_getD, List.getD_eq_getElem?_getD, List.getElem?_eq_getElem h1, List.getElem?_eq_getElem h2] at this
  simpa using this
theorem getD_big {a : List UInt8} {p : Nat} (h : a.length ≤ p) : a.getD p 0 = 0 := by
  rw [List.getD_eq_getElem?_getD, List.getElem?_eq_none h]; rfl

/-- Bytes written over others, from a place on. -/
def wrB (b : List UInt8) (p : Nat) (d : List UInt8) : List UInt8 := b.take p ++ d ++ b.drop (p + d.length)
theorem wrB_length {b d : List UInt8} {p : Nat} (h : p + d.length ≤ b.length) : (wrB b p d).length = b.length := by
  simp [wrB]; omega
theorem wrB_getD {b d : List UInt8} {p : Nat} (h : p + d.length ≤ b.length) (q : Nat) : (wrB b p d).getD q 0 = if p ≤ q ∧ q < p + d.length then d.getD (q - p) 0 else b.getD q 0 := by
  simp only [wrB, List.getD_eq_getElem?_getD]
  by_cases h1 : q < p
  · rw [if_neg (by omega), List.append_assoc, List.getElem?_append_left (by simp; omega), List.getElem?_take_of_lt h1]
  · by_cases h2 : q < p + d.length
    · rw [if_pos (by omega), List.append_assoc, List.getElem?_append_right (by simp; omega), List.getElem?_append_left (by simp; omega)]
      simp [show min p b.length = p by omega]
    · rw [if_neg (by omega), List.getElem?_append_right (by simp; omega), List.getElem?_drop]
      simp only [List.length_append, List.length_take]
      congr 2
      omega
theorem u8_wr (b d : List UInt8) (p : Nat) : (u8E.vs b).take p ++ u8E.vs d ++ (u8E.vs b).drop (p + (u8E.vs d).length) = u8E.vs (wrB b p d) := by
  rw [El.vs_length, El.vs_take, El.vs_drop, El.vs_append, El.vs_append]; rfl
theorem u8_zeros (n : Nat) : List.replicate n (V.int .u8 0) = u8E.vs (List.replicate n 0) := by simp [El.vs, u8E]

/-- Is the place of a byte in a slot that is taken? -/
def takenAt (l : List Sg) (p : Nat) : Bool := (sat l (p / 512)).2.testBit (p % 512 / bN (sat l (p / 512)).1)
/-- All slots that are taken and end below a place, cleared. -/
def clrTo (l : List Sg) (b : List UInt8) (q : Nat) : List UInt8 := (List.range b.length).map fun p => if p < q ∧ takenAt l p = true then 0 else b.getD p 0
theorem clrTo_length (l : List Sg) (b : List UInt8) (q : Nat) : (clrTo l b q).length = b.length := by simp [clrTo]
theorem clrTo_getD {l : List Sg} {b : List UInt8} {q p : Nat} : (clrTo l b q).getD p 0 = if p < q ∧ takenAt l p = true then 0 else b.getD p 0 := by
  rcases Nat.lt_or_ge p b.length with h | h
  · simp [clrTo, List.getD_eq_getElem?_getD, h]
  · rw [getD_big (by rw [clrTo_length]; exact h), getD_big h]; simp

/-- Where a slot's bytes are. -/
theorem slot_at {l : List Sg} {i a p : Nat} (ha : a < slN (sat l i).1) : (i * 512 + a * bN (sat l i).1 ≤ p ∧ p < i * 512 + (a + 1) * bN (sat l i).1) → p / 512 = i ∧ p % 512 / bN (sat l i).1 = a ∧ p < i * 512 + 512 := by
  rintro ⟨h1, h2⟩
  have hw : slN (sat l i).1 * bN (sat l i).1 = 512 ∨ (slN (sat l i).1 = 0 ∧ bN (sat l i).1 = 0) := bN_slN _
  generalize bN (sat l i).1 = w at *
  generalize slN (sat l i).1 = n at *
  have h3 : (a + 1) * w ≤ n * w := Nat.mul_le_mul_right _ ha
  have hn : n * w = 512 := by omega
  rw [hn] at h3
  rw [Nat.add_mul, Nat.one_mul] at h2 h3
  have e1 : p / 512 = i := by omega
  have e2 : p % 512 = p - i * 512 := by omega
  have hw0 : 0 < w := by
    rcases Nat.eq_zero_or_pos w with h | h
    · subst h; simp at hn
    · exact h
  refine ⟨e1, ?_, by omega⟩
  rw [e2]
  refine Nat.div_eq_of_lt_le (by omega) ?_
  rw [Nat.add_mul, Nat.one_mul]; omega
theorem slot_end {l : List Sg} {i a : Nat} (ha : a < slN (sat l i).1) : a * bN (sat l i).1 + bN (sat l i).1 ≤ 512 ∧ 0 < bN (sat l i).1 := by
  have hw := bN_slN (sat l i).1
  generalize bN (sat l i).1 = w at *
  generalize slN (sat l i).1 = n at *
  have h3 : (a + 1) * w ≤ n * w := Nat.mul_le_mul_right _ ha
  rw [Nat.add_mul, Nat.one_mul] at h3
  rcases hw with h | ⟨h, _⟩
  · refine ⟨by omega, ?_⟩
    rcases Nat.eq_zero_or_pos w with h' | h'
    · subst h'; simp at h
    · exact h'
  · omega

theorem clrTo_take {l : List Sg} {b : List UInt8} {i a : Nat} (hb : b.length = l.length * 512) (hi : i < l.length) (ha : a < slN (sat l i).1) (ht : (sat l i).2.testBit a = true) :
    clrTo l b (i * 512 + (a + 1) * bN (sat l i).1) = wrB (clrTo l b (i * 512 + a * bN (sat l i).1)) (i * 512 + a * bN (sat l i).1) (List.replicate (bN (sat l i).1) 0) := by
  obtain ⟨h1, h2⟩ := slot_end ha
  have hlt : i * 512 + 512 ≤ l.length * 512 := by
    have : (i + 1) * 512 ≤ l.length * 512 := Nat.mul_le_mul_right _ hi
    omega
  have hle : i * 512 + a * bN (sat l i).1 + (List.replicate (bN (sat l i).1) (0 : UInt8)).length ≤ (clrTo l b (i * 512 + a * bN (sat l i).1)).length := by
    rw [clrTo_length, List.length_replicate, hb]; omega
  refine getD_ext (by rw [wrB_length hle, clrTo_length, clrTo_length]) fun p _ => ?_
  rw [wrB_getD hle, clrTo_getD, clrTo_getD, List.length_replicate]
  have e : (a + 1) * bN (sat l i).1 = a * bN (sat l i).1 + bN (sat l i).1 := by rw [Nat.add_mul, Nat.one_mul]
  by_cases hp : i * 512 + a * bN (sat l i).1 ≤ p ∧ p < i * 512 + a * bN (sat l i).1 + bN (sat l i).1
  · obtain ⟨g1, g2, _⟩ := slot_at (p := p) ha ⟨hp.1, by omega⟩
    have htk : takenAt l p = true := by unfold takenAt; rw [g1, g2]; exact ht
    rw [if_pos hp, if_pos ⟨by omega, htk⟩]
    simp [List.getD_eq_getElem?_getD, List.getElem?_replicate]
    split <;> rfl
  · rw [if_neg hp]
    by_cases h3 : p < i * 512 + a * bN (sat l i).1
    · by_cases h4 : takenAt l p = true
      · rw [if_pos ⟨by omega, h4⟩, if_pos ⟨h3, h4⟩]
      · rw [if_neg (fun h => h4 h.2), if_neg (fun h => h4 h.2)]
    · rw [if_neg (by omega), if_neg (by omega)]
theorem clrTo_skip {l : List Sg} {b : List UInt8} {i a : Nat} (ha : a < slN (sat l i).1) (ht : (sat l i).2.testBit a = false) :
    clrTo l b (i * 512 + (a + 1) * bN (sat l i).1) = clrTo l b (i * 512 + a * bN (sat l i).1) := by
  refine getD_ext (by rw [clrTo_length, clrTo_length]) fun p _ => ?_
  rw [clrTo_getD, clrTo_getD]
  by_cases h4 : takenAt l p = true
  · have e : (a + 1) * bN (sat l i).1 = a * bN (sat l i).1 + bN (sat l i).1 := by rw [Nat.add_mul, Nat.one_mul]
    by_cases h3 : i * 512 + a * bN (sat l i).1 ≤ p ∧ p < i * 512 + (a + 1) * bN (sat l i).1
    · obtain ⟨g1, g2, _⟩ := slot_at (p := p) ha h3
      unfold takenAt at h4
      rw [g1, g2, ht] at h4
      cases h4
    · by_cases h5 : p < i * 512 + a * bN (sat l i).1
      · rw [if_pos ⟨by omega, h4⟩, if_pos ⟨h5, h4⟩]
      · rw [if_neg (by omega), if_neg (by omega)]
  · rw [if_neg (fun h => h4 h.2), if_neg (fun h => h4 h.2)]
theorem clrTo_row {l : List Sg} {b : List UInt8} {i : Nat} (hc : chk l = true) (hi : i < l.length) : clrTo l b ((i + 1) * 512) = clrTo l b (i * 512 + slN (sat l i).1 * bN (sat l i).1) := by
  rcases bN_slN (sat l i).1 with h | ⟨h, h'⟩
  · rw [h, Nat.add_mul, Nat.one_mul]
  · rw [h, h']
    refine getD_ext (by rw [clrTo_length, clrTo_length]) fun p _ => ?_
    rw [clrTo_getD, clrTo_getD]
    by_cases h4 : takenAt l p = true
    · by_cases h3 : i * 512 ≤ p ∧ p < (i + 1) * 512
      · have e1 : p / 512 = i := by omega
        have hok := (chk_iff.1 hc).2 i hi
        have hcl : (sat l i).1 = -1 := by
          refine Classical.byContradiction fun hne => ?_
          exact (sgOK_used hok hne).1 h
        have hu := sgOK_free hok hcl
        unfold takenAt at h4
        rw [e1, hu, Nat.zero_testBit] at h4
        cases h4
      · by_cases h5 : p < i * 512
        · rw [if_pos ⟨by omega, h4⟩, if_pos ⟨by omega, h4⟩]
        · rw [if_neg (by omega), if_neg (by omega)]
    · rw [if_neg (fun h => h4 h.2), if_neg (fun h => h4 h.2)]

/-- Is all that is not taken 0? -/
def zok (l : List Sg) (b : List UInt8) : Bool := (clrTo l b (l.length * 512)).all fun x => x == 0
theorem zok_iff {l : List Sg} {b : List UInt8} (hb : b.length = l.length * 512) : zok l b = true ↔ ∀ p, takenAt l p = false → b.getD p 0 = 0 := by
  simp only [zok, List.all_eq_true, beq_iff_eq]
  constructor
  · intro h p hp
    rcases Nat.lt_or_ge p b.length with hl | hl
    · have h1 := clrTo_getD (l := l) (b := b) (q := l.length * 512) (p := p)
      rw [hp] at h1
      simp only [Bool.false_eq_true, and_false, if_false] at h1
      rw [← h1]
      refine h _ ?_
      rw [List.getD_eq_getElem?_getD, List.getElem?_eq_getElem (by rw [clrTo_length]; exact hl)]
      exact List.getElem_mem _
    · exact getD_big hl
  · intro h x hx
    obtain ⟨p, hp, rfl⟩ := List.getElem_of_mem hx
    have h1 := clrTo_getD (l := l) (b := b) (q := l.length * 512) (p := p)
    rw [clrTo_length] at hp
    rw [List.getD_eq_getElem?_getD, List.getElem?_eq_getElem (by rw [clrTo_length]; exact hp)] at h1
    simp only [Option.getD_some] at h1
    rw [h1]
    split
    · rfl
    · rename_i hn
      cases ht : takenAt l p with
      | true => exact absurd ⟨by omega, ht⟩ hn
      | false => exact h p ht
def chkS (l : List Sg) (b : List UInt8) : Bool := chk l && (decide (b.length = l.length * 512) && zok l b)

/-- A part of a row of one's own. -/
theorem slK3 {H : List Blk} {br n sz p e : Nat} {xs : List V} {o f : Bool} {k1 k2 k3 : IntKind} {K : V → Prop} (hb : getB H br = .row sz xs o f) (hn : xs.length = n) (hp : p < e) (he : e ≤ n) :
    slK H sz (.hs br n 0 0 n none sz) (some (.int k1 (p : Int))) (some (.int k2 (e : Int))) (some (.int k3 (e : Int))) K = K (.hs br n p 0 (e - p) (some (e - p)) sz) := by
  by_cases h0 : p = 0
  · subst h0
    simp [slK, bnd, slHK, hb, hn, he]
  · have : ¬ p = e := by omega
    have : p ≤ e := by omega
    simp [slK, bnd, slHK, hb, hn, he, h0, *]
theorem wrK3 {H : List Blk} {br n p w : Nat} {cap : Option Nat} {xs ys : List V} {o : Bool} {C : List Blk → Prop} (hb : getB H br = .row 1 xs o false) (hn : xs.length = n) (hy : ys.length ≤ w) (hp : p + w ≤ n) (hg : Goods 1 ys) :
    wrK 1 (.hs br n p 0 w cap 1) ys H C = C (H.set br (.row 1 (xs.take p ++ ys ++ xs.drop (p + ys.length)) o false)) := by
  simp [wrK, hb, hn, hy, hp, hg]

/-- A slot's bytes are cleared. -/
theorem clear_sim {v : V} {l : List Sg} (hv : IsE segE v l) (hn : l.length ≤ 200) {B b : List UInt8} {bs bb br i a : Nat} {o1 f1 o2 f2 : Bool} {H : List Blk} (h1 : getB H bs = .row 2 [.agg [v, .str B]] o1 f1) (h2 : getB H bb = .row 1 [.hs br b.length 0 0 b.length none 1] o2 f2) (h3 : getB H br = .row 1 (u8E.vs b) true false)
    (hb : b.length = l.length * 512) (hi : i < l.length) (ha : a < slN (sat l i).1) :
    SimX Tryd.prog G0 25 [.agg [.int .i64 (i : Int), .int .i64 (a : Int)], .ptr bs 1 0 0, .ptr bb 1 0 0] H fun _ H' =>
      getB H' br = .row 1 (u8E.vs (wrB b (i * 512 + a * bN (sat l i).1) (List.replicate (bN (sat l i).1) 0))) true false ∧ ∀ c, c < H.length → c ≠ br → getB H' c = getB H c := by
  refine SimX.intro mixed comp25 ?_
  unfold c25
  obtain ⟨e1, e2⟩ := slot_end ha
  have hsl := slN_le (sat l i).1
  have hlt : i * 512 + 512 ≤ l.length * 512 := by
    have : (i + 1) * 512 ≤ l.length * 512 := Nat.mul_le_mul_right _ hi
    omega
  have k1 := getB_app (T := [.row 2 [.agg [.int .i64 (i : Int), .int .i64 (a : Int)]] false false]) h1
  have k2 := getB_app (T := [.row 2 [.agg [.int .i64 (i : Int), .int .i64 (a : Int)]] false false]) h2
  have k3 := getB_app (T := [.row 2 [.agg [.int .i64 (i : Int), .int .i64 (a : Int)]] false false]) h3
  have hL : (u8E.vs b).length = b.length := El.vs_length b
  simp -implicitDefEqProofs (disch := omega) only [k1, mwx, ne_eq, false_implies, implies_true, forall_eq_or_imp, MW.get, ev, evs, argFr, resK, packV, slHK, partsV, partsS, setR, Int.cast_ofNat_Int, Int.natCast_zero, Int.natCast_one, Nat.reduceLeDiff, reduceIte, Nat.reduceEqDiff, Nat.reduceBEq, reduceCtorEq, Nat.reduceAdd, Nat.reduceMul, Nat.reduceSub, Nat.reduceLT, Int.reduceToNat, Int.reduceLT, Int.reduceLE, Int.reduceEq, Int.reduceAdd, Int.reduceNeg, Int.reduceMul, Int.reduceSub]
  refine Does.call (span_fn hv hi hn (by omega)) (fr2 hv.free (free_agg2 (.int _ _) (.int _ _))) ?_
  have w1 : IntKind.i64.wrap (((i * 512 + a * bN (sat l i).1 : Nat) : Int) + (bN (sat l i).1 : Int)) = ((i * 512 + a * bN (sat l i).1 + bN (sat l i).1 : Nat) : Int) := wrap64 (n := ((i * 512 + a * bN (sat l i).1 + bN (sat l i).1 : Nat) : Int)) (by omega) (by omega)
  simp -implicitDefEqProofs (disch := omega) only [k2, w1, slK3 (p := i * 512 + a * bN (sat l i).1) (e := i * 512 + a * bN (sat l i).1 + bN (sat l i).1) k3 hL (by omega) (by omega), mwx, ne_eq, false_implies, implies_true, forall_eq_or_imp, MW.get, ev, evs, argFr, resK, packV, slHK, partsV, partsS, setR, Int.cast_ofNat_Int, Int.natCast_zero, Int.natCast_one, Nat.reduceLeDiff, reduceIte, Nat.reduceEqDiff, Nat.reduceBEq, reduceCtorEq, Nat.reduceAdd, Nat.reduceMul, Nat.reduceSub, Nat.reduceLT, Int.reduceToNat, Int.reduceLT, Int.reduceLE, Int.reduceEq, Int.reduceAdd, Int.reduceNeg, Int.reduceMul, Int.reduceSub]
  rw [show i * 512 + a * bN (sat l i).1 + bN (sat l i).1 - (i * 512 + a * bN (sat l i).1) = bN (sat l i).1 by omega, u8_zeros]
  have hg : Goods 1 (u8E.vs (List.replicate (bN (sat l i).1) 0)) = True := eq_true (El.vs_goods (e := u8E) _)
  have hz : (u8E.vs (List.replicate (bN (sat l i).1) 0)).length = bN (sat l i).1 := by rw [El.vs_length]; simp
  have hle : i * 512 + a * bN (sat l i).1 + bN (sat l i).1 ≤ b.length := by omega
  have hwr := u8_wr b (List.replicate (bN (sat l i).1) 0) (i * 512 + a * bN (sat l i).1)
  rw [hz, List.append_assoc] at hwr
  simp -implicitDefEqProofs (disch := omega) only [k3, hL, hg, hz, hle, hwr, mwx, ne_eq, false_implies, implies_true, forall_eq_or_imp, MW.get, ev, evs, argFr, resK, packV, slHK, partsV, partsS, setR, Int.cast_ofNat_Int, Int.natCast_zero, Int.natCast_one, Nat.reduceLeDiff, reduceIte, Nat.reduceEqDiff, Nat.reduceBEq, reduceCtorEq, Nat.reduceAdd, Nat.reduceMul, Nat.reduceSub, Nat.reduceLT, Int.reduceToNat, Int.reduceLT, Int.reduceLE, Int.reduceEq, Int.reduceAdd, Int.reduceNeg, Int.reduceMul, Int.reduceSub]
  have hbr := getB_lt' h3
  refine ⟨getB_set _ (by simp; omega), fun c hc hne => ?_⟩
  rw [getB_set_ne _ (Ne.symm hne), getB_app' hc]

end Go.Proofs.YtlcbogafgdofgaaDoor

/- Store (chapter 12): may a store be? Desks; stores of one's own; new ones. -/
namespace Go.Proofs.YtlcbogafgdofgaaDoor
open Go Go.MW
set_option linter.unusedSimpArgs false
set_option linter.unusedVariables false
set_option maxRecDepth 8000

theorem bodied25 : (Tryd.prog.funcs[25]?).any (fun fn => fn.body.isSome && fn.name != "runtime.NumGoroutine") = true := by kernel_rfl
theorem bodied29 : (Tryd.prog.funcs[29]?).any (fun fn => fn.body.isSome && fn.name != "runtime.NumGoroutine") = true := by kernel_rfl
theorem bodied32 : (Tryd.prog.funcs[32]?).any (fun fn => fn.body.isSome && fn.name != "runtime.NumGoroutine") = true := by kernel_rfl

theorem iaK_u8 {v : V} {l : List UInt8} (h : IsE u8E v l) {H : List Blk} {k : IntKind} {n : Int} {K : V → Prop} (h0 : 0 ≤ n) (hn : n.toNat < l.length) : iaK H 1 v (.int k n) K = K (.vp [.int .u8 (l.getD n.toNat 0).toNat]) :=
  iaK_isE h (e := u8E) rfl h0 hn

theorem nz_fn (b : UInt8) : Does Tryd.prog G0 false 29 [.int .u8 b.toNat] (.bool (b != 0)) := by
  refine Does.intro mixed comp29 ?_
  unfold c29
  simp -implicitDefEqProofs (disch := omega) only [mwx, ne_eq, false_implies, implies_true, forall_eq_or_imp, MW.get, ev, evs, argFr, resK, packV, slHK, partsV, partsS, setR, Int.cast_ofNat_Int, Int.natCast_zero, Int.natCast_one, Nat.reduceLeDiff, reduceIte, Nat.reduceEqDiff, Nat.reduceBEq, reduceCtorEq, Nat.reduceAdd, Nat.reduceMul, Nat.reduceSub, Nat.reduceLT, Int.reduceToNat, Int.reduceLT, Int.reduceLE, Int.reduceEq, Int.reduceAdd, Int.reduceNeg, Int.reduceMul, Int.reduceSub]
  refine frz_bool ?_
  have : decide ((b.toNat : Int) = 0) = (b == 0) := by
    by_cases h : b = 0
    · subst h; rfl
    · have h' : ¬ (b.toNat : Int) = 0 := fun e => h (UInt8.toNat_inj.1 (by simpa using e))
      rw [decide_eq_false h']; simp [h]
  rw [this]; rfl
theorem nzIndex_fn {v : V} {l : List UInt8} (hv : IsE u8E v l) (hn : l.length < 2 ^ 62) : ∃ n : Int, (0 ≤ n ↔ (l.any fun b => b != 0) = true) ∧ Does Tryd.prog G0 false 48 [v, .fn (.func 29) [] []] (.int .i64 n) := by
  refine ⟨match l.findIdx? (fun b => b != 0) with | some i => i | none => -1, ?_, ?_⟩
  · cases h : l.findIdx? (fun b => b != 0) with
    | none =>
      rw [List.findIdx?_eq_none_iff] at h
      simp only [List.any_eq_true]
      constructor
      · intro h0; exact absurd h0 (by simp)
      · rintro ⟨x, hx, hx'⟩
        have := h x hx
        rw [this] at hx'; cases hx'
    | some i =>
      simp only [List.any_eq_true]
      constructor
      · intro _
        obtain ⟨h1, h2, _⟩ := List.findIdx?_eq_some_iff_getElem.1 h
        exact ⟨_, List.getElem_mem h1, h2⟩
      · intro _; simp
  refine Does.intro mixed comp48 ?_
  unfold c48
  simp -implicitDefEqProofs (disch := omega) only [lenK_isE hv, mwx, ne_eq, false_implies, implies_true, forall_eq_or_imp, MW.get, ev, evs, argFr, resK, packV, slHK, partsV, partsS, setR, Int.cast_ofNat_Int, Int.natCast_zero, Int.natCast_one, Nat.reduceLeDiff, reduceIte, Nat.reduceEqDiff, Nat.reduceBEq, reduceCtorEq, Nat.reduceAdd, Nat.reduceMul, Nat.reduceSub, Nat.reduceLT, Int.reduceToNat, Int.reduceLT, Int.reduceLE, Int.reduceEq, Int.reduceAdd, Int.reduceNeg, Int.reduceMul, Int.reduceSub]
  refine xl_loop (fun k st => ∃ i : Nat, k + i = l.length ∧ get st.fr 0 = v ∧ get st.fr 1 = .fn (.func 29) [] [] ∧ get st.fr 7 = .int .i64 l.length ∧ get st.fr 8 = .int .i64 i ∧ ∀ j (h : j < l.length), j < i → (l[j] != 0) = false) l.length ⟨0, by omega, rfl, rfl, rfl, rfl, by omega⟩ ?_
  rintro J hJ k fr H ⟨i, h1, h2, h3, h4, h5, h6⟩
  simp -implicitDefEqProofs (disch := omega) only [h2, h3, h4, h5, mwx, ne_eq, false_implies, implies_true, forall_eq_or_imp, MW.get, ev, evs, argFr, resK, packV, slHK, partsV, partsS, setR, Int.cast_ofNat_Int, Int.natCast_zero, Int.natCast_one, Nat.reduceLeDiff, reduceIte, Nat.reduceEqDiff, Nat.reduceBEq, reduceCtorEq, Nat.reduceAdd, Nat.reduceMul, Nat.reduceSub, Nat.reduceLT, Int.reduceToNat, Int.reduceLT, Int.reduceLE, Int.reduceEq, Int.reduceAdd, Int.reduceNeg, Int.reduceMul, Int.reduceSub]
  refine xc_dec (fun h => ?_) fun h => ?_
  · have hi : i < l.length := by omega
    have hi0 : (0 : Int) ≤ (i : Int) := by omega
    have hi1 : (i : Int).toNat < l.length := by simpa using hi
    have hg : l.getD i 0 = l[i] := by simp [List.getD_eq_getElem?_getD, hi]
    simp -implicitDefEqProofs (disch := omega) only [h2, h3, h4, h5, iaK_u8 hv hi0 hi1, callvK_of bodied29, mwx, ne_eq, false_implies, implies_true, forall_eq_or_imp, MW.get, ev, evs, argFr, resK, packV, slHK, partsV, partsS, setR, Int.cast_ofNat_Int, Int.natCast_zero, Int.natCast_one, Nat.reduceLeDiff, reduceIte, Nat.reduceEqDiff, Nat.reduceBEq, reduceCtorEq, Nat.reduceAdd, Nat.reduceMul, Nat.reduceSub, Nat.reduceLT, Int.reduceToNat, Int.reduceLT, Int.reduceLE, Int.reduceEq, Int.reduceAdd, Int.reduceNeg, Int.reduceMul, Int.reduceSub]
    refine Does.call (nz_fn (l.getD i 0)) (fr1 (.int _ _)) ?_
    rw [hg]
    simp -implicitDefEqProofs (disch := omega) only [mwx, ne_eq, false_implies, implies_true, forall_eq_or_imp, MW.get, ev, evs, argFr, resK, packV, slHK, partsV, partsS, setR, Int.cast_ofNat_Int, Int.natCast_zero, Int.natCast_one, Nat.reduceLeDiff, reduceIte, Nat.reduceEqDiff, Nat.reduceBEq, reduceCtorEq, Nat.reduceAdd, Nat.reduceMul, Nat.reduceSub, Nat.reduceLT, Int.reduceToNat, Int.reduceLT, Int.reduceLE, Int.reduceEq, Int.reduceAdd, Int.reduceNeg, Int.reduceMul, Int.reduceSub]
    refine xc_any (fun h7 => ?_) fun h7 => ?_
    · simp -implicitDefEqProofs (disch := omega) only [h2, h3, h4, h5, mwx, ne_eq, false_implies, implies_true, forall_eq_or_imp, MW.get, ev, evs, argFr, resK, packV, slHK, partsV, partsS, setR, Int.cast_ofNat_Int, Int.natCast_zero, Int.natCast_one, Nat.reduceLeDiff, reduceIte, Nat.reduceEqDiff, Nat.reduceBEq, reduceCtorEq, Nat.reduceAdd, Nat.reduceMul, Nat.reduceSub, Nat.reduceLT, Int.reduceToNat, Int.reduceLT, Int.reduceLE, Int.reduceEq, Int.reduceAdd, Int.reduceNeg, Int.reduceMul, Int.reduceSub]
      refine frz_int ?_
      have : l.findIdx? (fun b => b != 0) = some i := by
        rw [List.findIdx?_eq_some_iff_getElem]
        exact ⟨hi, h7, fun j hj => by simp [h6 j (by omega) hj]⟩
      rw [this]
    · simp -implicitDefEqProofs (disch := omega) only [h2, h3, h4, h5, mwx, ne_eq, false_implies, implies_true, forall_eq_or_imp, MW.get, ev, evs, argFr, resK, packV, slHK, partsV, partsS, setR, Int.cast_ofNat_Int, Int.natCast_zero, Int.natCast_one, Nat.reduceLeDiff, reduceIte, Nat.reduceEqDiff, Nat.reduceBEq, reduceCtorEq, Nat.reduceAdd, Nat.reduceMul, Nat.reduceSub, Nat.reduceLT, Int.reduceToNat, Int.reduceLT, Int.reduceLE, Int.reduceEq, Int.reduceAdd, Int.reduceNeg, Int.reduceMul, Int.reduceSub]
      exact ⟨k - 1, by omega, hJ _ _ ⟨i + 1, by omega, h2, h3, h4, rfl, fun j hj hji => by
        rcases Nat.lt_or_ge j i with h' | h'
        · exact h6 j hj h'
        · obtain rfl : j = i := by omega
          exact h7⟩⟩
  · simp -implicitDefEqProofs (disch := omega) only [mwx, ne_eq, false_implies, implies_true, forall_eq_or_imp, MW.get, ev, evs, argFr, resK, packV, slHK, partsV, partsS, setR, Int.cast_ofNat_Int, Int.natCast_zero, Int.natCast_one, Nat.reduceLeDiff, reduceIte, Nat.reduceEqDiff, Nat.reduceBEq, reduceCtorEq, Nat.reduceAdd, Nat.reduceMul, Nat.reduceSub, Nat.reduceLT, Int.reduceToNat, Int.reduceLT, Int.reduceLE, Int.reduceEq, Int.reduceAdd, Int.reduceNeg, Int.reduceMul, Int.reduceSub]
    refine frz_int ?_
    have : l.findIdx? (fun b => b != 0) = none := by
      rw [List.findIdx?_eq_none_iff]
      intro x hx
      obtain ⟨j, hj, rfl⟩ := List.getElem_of_mem hx
      exact h6 j hj (by omega)
    rw [this]
theorem nzAny_fn {v : V} {l : List UInt8} (hv : IsE u8E v l) (hn : l.length < 2 ^ 62) : Does Tryd.prog G0 false 28 [v, .fn (.func 29) [] []] (.bool (l.any fun b => b != 0)) := by
  obtain ⟨n, h1, h2⟩ := nzIndex_fn hv hn
  refine Does.intro mixed comp28 ?_
  unfold c28
  simp -implicitDefEqProofs (disch := omega) only [mwx, ne_eq, false_implies, implies_true, forall_eq_or_imp, MW.get, ev, evs, argFr, resK, packV, slHK, partsV, partsS, setR, Int.cast_ofNat_Int, Int.natCast_zero, Int.natCast_one, Nat.reduceLeDiff, reduceIte, Nat.reduceEqDiff, Nat.reduceBEq, reduceCtorEq, Nat.reduceAdd, Nat.reduceMul, Nat.reduceSub, Nat.reduceLT, Int.reduceToNat, Int.reduceLT, Int.reduceLE, Int.reduceEq, Int.reduceAdd, Int.reduceNeg, Int.reduceMul, Int.reduceSub]
  refine Does.call h2 (fr2 hv.free (.fn _ (by simp) (by simp))) ?_
  simp -implicitDefEqProofs (disch := omega) only [mwx, ne_eq, false_implies, implies_true, forall_eq_or_imp, MW.get, ev, evs, argFr, resK, packV, slHK, partsV, partsS, setR, Int.cast_ofNat_Int, Int.natCast_zero, Int.natCast_one, Nat.reduceLeDiff, reduceIte, Nat.reduceEqDiff, Nat.reduceBEq, reduceCtorEq, Nat.reduceAdd, Nat.reduceMul, Nat.reduceSub, Nat.reduceLT, Int.reduceToNat, Int.reduceLT, Int.reduceLE, Int.reduceEq, Int.reduceAdd, Int.reduceNeg, Int.reduceMul, Int.reduceSub]
  refine frz_bool ?_
  by_cases h : (l.any fun b => b != 0) = true
  · rw [h, decide_eq_true (h1.2 h)]
  · rw [decide_eq_false fun h0 => h (h1.1 h0)]
    simpa using h

theorem store_free {v : V} {l : List Sg} (hv : IsE segE v l) (b : List UInt8) : Free true (.agg [v, .str b]) := free_agg2 hv.free (.str _)

theorem chkS_fn {v : V} {l : List Sg} (hv : IsE segE v l) (hl : SegOK l) (hn : l.length < 2 ^ 50) {b : List UInt8} (hbn : b.length < 2 ^ 62) : Does Tryd.prog G0 false 11 [.agg [v, .str b]] (.bool (chkS l b)) := by
  refine Does.intro mixed comp11 ?_
  unfold c11
  simp -implicitDefEqProofs (disch := omega) only [mwx, ne_eq, false_implies, implies_true, forall_eq_or_imp, MW.get, ev, evs, argFr, resK, packV, slHK, partsV, partsS, setR, Int.cast_ofNat_Int, Int.natCast_zero, Int.natCast_one, Nat.reduceLeDiff, reduceIte, Nat.reduceEqDiff, Nat.reduceBEq, reduceCtorEq, Nat.reduceAdd, Nat.reduceMul, Nat.reduceSub, Nat.reduceLT, Int.reduceToNat, Int.reduceLT, Int.reduceLE, Int.reduceEq, Int.reduceAdd, Int.reduceNeg, Int.reduceMul, Int.reduceSub]
  refine Does.call (chk_fn hv hl) (fr1 hv.free) ?_
  simp -implicitDefEqProofs (disch := omega) only [mwx, ne_eq, false_implies, implies_true, forall_eq_or_imp, MW.get, ev, evs, argFr, resK, packV, slHK, partsV, partsS, setR, Int.cast_ofNat_Int, Int.natCast_zero, Int.natCast_one, Nat.reduceLeDiff, reduceIte, Nat.reduceEqDiff, Nat.reduceBEq, reduceCtorEq, Nat.reduceAdd, Nat.reduceMul, Nat.reduceSub, Nat.reduceLT, Int.reduceToNat, Int.reduceLT, Int.reduceLE, Int.reduceEq, Int.reduceAdd, Int.reduceNeg, Int.reduceMul, Int.reduceSub]
  refine xg_any (fun hc => ?_) fun hc => ?_
  rotate_left
  · have hc : chk l = false := by simpa using hc
    simp -implicitDefEqProofs (disch := omega) only [hc, mwx, ne_eq, false_implies, implies_true, forall_eq_or_imp, MW.get, ev, evs, argFr, resK, packV, slHK, partsV, partsS, setR, Int.cast_ofNat_Int, Int.natCast_zero, Int.natCast_one, Nat.reduceLeDiff, reduceIte, Nat.reduceEqDiff, Nat.reduceBEq, reduceCtorEq, Nat.reduceAdd, Nat.reduceMul, Nat.reduceSub, Nat.reduceLT, Int.reduceToNat, Int.reduceLT, Int.reduceLE, Int.reduceEq, Int.reduceAdd, Int.reduceNeg, Int.reduceMul, Int.reduceSub]
    exact frz_bool (by simp [chkS, hc])
  have hc : chk l = true := by simpa using hc
  have hn2 := chk_len hc
  have hw : IntKind.i64.wrap ((l.length : Int) * 512) = ((l.length * 512 : Nat) : Int) := wrap64 (n := ((l.length * 512 : Nat) : Int)) (by omega) (by omega)
  simp -implicitDefEqProofs (disch := omega) only [hc, lenK_isE hv, hw, mwx, ne_eq, false_implies, implies_true, forall_eq_or_imp, MW.get, ev, evs, argFr, resK, packV, slHK, partsV, partsS, setR, Int.cast_ofNat_Int, Int.natCast_zero, Int.natCast_one, Nat.reduceLeDiff, reduceIte, Nat.reduceEqDiff, Nat.reduceBEq, reduceCtorEq, Nat.reduceAdd, Nat.reduceMul, Nat.reduceSub, Nat.reduceLT, Int.reduceToNat, Int.reduceLT, Int.reduceLE, Int.reduceEq, Int.reduceAdd, Int.reduceNeg, Int.reduceMul, Int.reduceSub]
  refine xc_dec (fun hb => ?_) fun hb => ?_
  rotate_left
  · simp -implicitDefEqProofs (disch := omega) only [mwx, ne_eq, false_implies, implies_true, forall_eq_or_imp, MW.get, ev, evs, argFr, resK, packV, slHK, partsV, partsS, setR, Int.cast_ofNat_Int, Int.natCast_zero, Int.natCast_one, Nat.reduceLeDiff, reduceIte, Nat.reduceEqDiff, Nat.reduceBEq, reduceCtorEq, Nat.reduceAdd, Nat.reduceMul, Nat.reduceSub, Nat.reduceLT, Int.reduceToNat, Int.reduceLT, Int.reduceLE, Int.reduceEq, Int.reduceAdd, Int.reduceNeg, Int.reduceMul, Int.reduceSub]
    refine frz_bool ?_
    have : ¬ b.length = l.length * 512 := by omega
    simp [chkS, this]
  have hb : b.length = l.length * 512 := by omega
  simp -implicitDefEqProofs (disch := omega) only [mwx, ne_eq, false_implies, implies_true, forall_eq_or_imp, MW.get, ev, evs, argFr, resK, packV, slHK, partsV, partsS, setR, Int.cast_ofNat_Int, Int.natCast_zero, Int.natCast_one, Nat.reduceLeDiff, reduceIte, Nat.reduceEqDiff, Nat.reduceBEq, reduceCtorEq, Nat.reduceAdd, Nat.reduceMul, Nat.reduceSub, Nat.reduceLT, Int.reduceToNat, Int.reduceLT, Int.reduceLE, Int.reduceEq, Int.reduceAdd, Int.reduceNeg, Int.reduceMul, Int.reduceSub]
  rw [show b.map u8V = u8E.vs b from rfl]
  refine (taken_sim hv hl hn2 bodied25 (fun i a H => 3 ≤ H.length ∧ getB H 0 = .row 2 [.agg [v, .str b]] false false ∧ getB H 1 = .row 1 (u8E.vs (clrTo l b (i * 512 + a * bN (sat l i).1))) true false ∧ getB H 2 = .row 1 [.hs 1 b.length 0 0 b.length none 1] false false)
    ⟨by simp, rfl, ?_, rfl⟩ ?_ ?_ ?_).call fun r H hH => ?_
  · have : clrTo l b (0 * 512 + 0 * bN (sat l 0).1) = b := getD_ext (clrTo_length _ _ _) fun p _ => by rw [clrTo_getD]; simp
    rw [this]; rfl
  · rintro i a H hi ha ht ⟨g0, g1, g2, g3⟩
    have hcl := clrTo_length l b (i * 512 + a * bN (sat l i).1)
    rw [← hcl] at g3
    refine (clear_sim hv hn2 g1 g3 g2 (by rw [hcl]; exact hb) hi ha).mono fun _ H' hh => ?_
    rw [hcl] at g3
    obtain ⟨q1, q2⟩ := hh
    exact ⟨by have := getB_lt' q1; rcases Nat.lt_or_ge 2 H'.length with h | h; exact h; exact absurd (q2 2 (by omega) (by decide)) (by rw [g3]; unfold getB; rw [List.getD_eq_getElem?_getD, List.getElem?_eq_none h]; intro e; cases e), by rw [q2 0 (by omega) (by decide)]; exact g1, by rw [q1, clrTo_take hb hi ha ht], by rw [q2 2 (by omega) (by decide)]; exact g3⟩
  · rintro i a H hi ha ht ⟨g0, g1, g2, g3⟩
    exact ⟨g0, g1, by rw [clrTo_skip ha ht]; exact g2, g3⟩
  · rintro i H hi ⟨g0, g1, g2, g3⟩
    refine ⟨g0, g1, ?_, g3⟩
    rw [Nat.zero_mul, Nat.add_zero, clrTo_row hc hi]; exact g2
  · obtain ⟨g0, g1, g2, g3⟩ := hH
    rw [Nat.zero_mul, Nat.add_zero] at g2
    simp -implicitDefEqProofs (disch := omega) only [g3, mwx, ne_eq, false_implies, implies_true, forall_eq_or_imp, MW.get, ev, evs, argFr, resK, packV, slHK, partsV, partsS, setR, Int.cast_ofNat_Int, Int.natCast_zero, Int.natCast_one, Nat.reduceLeDiff, reduceIte, Nat.reduceEqDiff, Nat.reduceBEq, reduceCtorEq, Nat.reduceAdd, Nat.reduceMul, Nat.reduceSub, Nat.reduceLT, Int.reduceToNat, Int.reduceLT, Int.reduceLE, Int.reduceEq, Int.reduceAdd, Int.reduceNeg, Int.reduceMul, Int.reduceSub]
    have hcl := clrTo_length l b (l.length * 512)
    have hfz : Frz true H (.hs 1 b.length 0 0 b.length none 1) (.vs (u8E.vs (clrTo l b (l.length * 512)))) := frz_rowE (e := u8E) rfl (by decide) g2 hcl rfl
    refine Does.callB (nzAny_fn (isE_vs (e := u8E) (clrTo l b (l.length * 512))) (by omega)) (frzs2 hfz (.free (.fn _ (by simp) (by simp)))) ?_
    simp -implicitDefEqProofs (disch := omega) only [mwx, ne_eq, false_implies, implies_true, forall_eq_or_imp, MW.get, ev, evs, argFr, resK, packV, slHK, partsV, partsS, setR, Int.cast_ofNat_Int, Int.natCast_zero, Int.natCast_one, Nat.reduceLeDiff, reduceIte, Nat.reduceEqDiff, Nat.reduceBEq, reduceCtorEq, Nat.reduceAdd, Nat.reduceMul, Nat.reduceSub, Nat.reduceLT, Int.reduceToNat, Int.reduceLT, Int.reduceLE, Int.reduceEq, Int.reduceAdd, Int.reduceNeg, Int.reduceMul, Int.reduceSub]
    refine frz_bool ?_
    simp only [chkS, hc, hb, zok, decide_true, Bool.true_and]
    rw [List.all_eq_not_any_not]
    rfl

end Go.Proofs.YtlcbogafgdofgaaDoor

/- Store (chapter 12): desks; stores of one's own; new ones; a slot taken and written. -/
namespace Go.Proofs.YtlcbogafgdofgaaDoor
open Go Go.MW
set_option linter.unusedSimpArgs false
set_option linter.unusedVariables false
set_option maxRecDepth 8000

theorem clone_fn {v : V} {l : List Sg} (hv : IsE segE v l) (hn : l.length ≤ 1099511627776) : ∃ v', IsE segE v' l ∧ Does Tryd.prog G0 false 49 [v] v' := by
  obtain ⟨r, T, hsim, hown, _⟩ := clone_sim hv hn []
  obtain ⟨v', h1, h2⟩ := hown.isE (im := false) rfl (by decide)
  refine ⟨v', h1, ?_⟩
  intro B Φ Z w rargs hrel ha
  refine (hsim B Φ Z w rargs hrel ha).mono ?_
  rintro e w' ⟨rv, Φ', Z', rfl, hv, hr, hev⟩
  exact ⟨rv, r, _, Φ', Z', rfl, h2, hv, hr, hev⟩

/-- A desk: where its segments and its bytes are. -/
structure Desk (H : List Blk) (bd br : Nat) (v : V) (b : List UInt8) : Prop where
  ne : bd ≠ br
  d : getB H bd = .row 2 [.agg [v, .hs br b.length 0 0 b.length none 1]] false false
  r : getB H br = .row 1 (u8E.vs b) true false
theorem Desk.keep {H H' : List Blk} {bd br : Nat} {v : V} {b : List UInt8} (h : Desk H bd br v b) (k : Keeps H H') : Desk H' bd br v b :=
  ⟨h.ne, by rw [k.2 _ (getB_lt' h.d)]; exact h.d, by rw [k.2 _ (getB_lt' h.r)]; exact h.r⟩

theorem of_sim {v : V} {l : List Sg} (hv : IsE segE v l) (hn : l.length ≤ 1099511627776) (b : List UInt8) (H : List Blk) :
    SimX Tryd.prog G0 31 [.agg [v, .str b]] H fun r H' => ∃ bd br v', r = .ptr bd 1 0 0 ∧ IsE segE v' l ∧ Desk H' bd br v' b ∧ Keeps H H' ∧ H.length ≤ bd ∧ H.length ≤ br := by
  obtain ⟨v', hv', hd⟩ := clone_fn hv hn
  refine SimX.intro mixed comp31 ?_
  unfold c31
  simp -implicitDefEqProofs (disch := omega) only [mwx, ne_eq, false_implies, implies_true, forall_eq_or_imp, MW.get, ev, evs, argFr, resK, packV, slHK, partsV, partsS, setR, Int.cast_ofNat_Int, Int.natCast_zero, Int.natCast_one, Nat.reduceLeDiff, reduceIte, Nat.reduceEqDiff, Nat.reduceBEq, reduceCtorEq, Nat.reduceAdd, Nat.reduceMul, Nat.reduceSub, Nat.reduceLT, Int.reduceToNat, Int.reduceLT, Int.reduceLE, Int.reduceEq, Int.reduceAdd, Int.reduceNeg, Int.reduceMul, Int.reduceSub]
  refine Does.call hd (fr1 hv.free) ?_
  have g1 : V.solid v' = true ∧ V.cells v' = [v'] ∧ V.one v' = true := by rcases hv' with ⟨rfl, _⟩ | rfl <;> exact ⟨rfl, rfl, rfl⟩
  simp -implicitDefEqProofs (disch := omega) only [g1.1, g1.2.1, List.length_append, mwx, ne_eq, false_implies, implies_true, forall_eq_or_imp, MW.get, ev, evs, argFr, resK, packV, slHK, partsV, partsS, setR, Int.cast_ofNat_Int, Int.natCast_zero, Int.natCast_one, Nat.reduceLeDiff, reduceIte, Nat.reduceEqDiff, Nat.reduceBEq, reduceCtorEq, Nat.reduceAdd, Nat.reduceMul, Nat.reduceSub, Nat.reduceLT, Int.reduceToNat, Int.reduceLT, Int.reduceLE, Int.reduceEq, Int.reduceAdd, Int.reduceNeg, Int.reduceMul, Int.reduceSub]
  refine ⟨H.length + 1 + 1, H.length + 1, v', rfl, hv', ⟨by omega, ?_, ?_⟩, .app _ _, by omega, by omega⟩
  · exact getB_plus H _ 2
  · exact getB_plus H _ 1

theorem store_sim {H : List Blk} {bd br : Nat} {v : V} {b : List UInt8} (h : Desk H bd br v b) (h1 : V.solid v = true ∧ V.cells v = [v] ∧ V.one v = true) : SimX Tryd.prog G0 34 [.ptr bd 1 0 0] H fun r H' => r = .agg [v, .str b] ∧ Keeps H H' := by
  refine SimX.intro mixed comp34 ?_
  unfold c34
  have k := h.keep (.app H [.row 2 [.agg [.nils, .str []]] false false])
  have hL : (u8E.vs b).length = b.length := El.vs_length b
  have ht : (u8E.vs b).take b.length = u8E.vs b := List.take_of_length_le (by omega)
  simp -implicitDefEqProofs (disch := omega) only [k.d, k.r, hL, ht, mwx, ne_eq, false_implies, implies_true, forall_eq_or_imp, MW.get, ev, evs, argFr, resK, packV, slHK, partsV, partsS, setR, Int.cast_ofNat_Int, Int.natCast_zero, Int.natCast_one, Nat.reduceLeDiff, reduceIte, Nat.reduceEqDiff, Nat.reduceBEq, reduceCtorEq, Nat.reduceAdd, Nat.reduceMul, Nat.reduceSub, Nat.reduceLT, Int.reduceToNat, Int.reduceLT, Int.reduceLE, Int.reduceEq, Int.reduceAdd, Int.reduceNeg, Int.reduceMul, Int.reduceSub]
  refine ⟨b, rfl, ?_⟩
  simp -implicitDefEqProofs (disch := omega) only [h1.1, h1.2.1, h1.2.2, mwx, ne_eq, false_implies, implies_true, forall_eq_or_imp, MW.get, ev, evs, argFr, resK, packV, slHK, partsV, partsS, setR, Int.cast_ofNat_Int, Int.natCast_zero, Int.natCast_one, Nat.reduceLeDiff, reduceIte, Nat.reduceEqDiff, Nat.reduceBEq, reduceCtorEq, Nat.reduceAdd, Nat.reduceMul, Nat.reduceSub, Nat.reduceLT, Int.reduceToNat, Int.reduceLT, Int.reduceLE, Int.reduceEq, Int.reduceAdd, Int.reduceNeg, Int.reduceMul, Int.reduceSub]
  exact .app _ _

theorem isE_one {v : V} {l : List Sg} (hv : IsE segE v l) : V.solid v = true ∧ V.cells v = [v] ∧ V.one v = true := by
  rcases hv with ⟨rfl, _⟩ | rfl <;> exact ⟨rfl, rfl, rfl⟩
theorem frz_store {im : Bool} {H : List Blk} {v : V} {l : List Sg} (hv : IsE segE v l) (hf : Free im v) (b : List UInt8) : Frz im H (.agg [v, .str b]) (.agg [v, .str b]) := .free (free_agg2 hf (.str _))

end Go.Proofs.YtlcbogafgdofgaaDoor

/- Store (chapter 12): a slot taken, and its bytes written. -/
namespace Go.Proofs.YtlcbogafgdofgaaDoor
open Go Go.MW
set_option linter.unusedSimpArgs false
set_option linter.unusedVariables false
set_option maxRecDepth 8000

theorem tak_same {l : List Sg} {c : Int} (he : (tak l c).2.2 ≠ 0) : (tak l c).1 = l := by
  unfold tak at he ⊢
  split
  · rfl
  · split
    · rfl
    · split
      · rfl
      · rename_i g1 g2 g3
        exact absurd (by simp [g1, g2, g3]) he

/-- The bytes when a slot is taken. -/
def takB (l : List Sg) (b : List UInt8) (c : Int) (d : List UInt8) : List UInt8 :=
  if (tak l c).2.2 = 0 then wrB b ((tak l c).2.1.1.toNat * 512 + (tak l c).2.1.2.toNat * bN c) d else b

/-- What else is there stays. -/
def Aside (bd br : Nat) (H H' : List Blk) : Prop := H.length ≤ H'.length ∧ ∀ c, c < H.length → c ≠ bd → c ≠ br → getB H' c = getB H c

theorem take_sim {H : List Blk} {bd br : Nat} {v : V} {b : List UInt8} {l : List Sg} (hD : Desk H bd br v b) (hv : IsE segE v l) (hl : SegOK l) (hc : chk l = true) (hb : b.length = l.length * 512) (c : Int) (d : List UInt8) (hd : d.length ≤ bN c) :
    SimX Tryd.prog G0 32 [.ptr bd 1 0 0, .int .i64 c, .str d] H fun r H' => ∃ v', IsE segE v' (tak l c).1 ∧ r = .tup [.agg [.int .i64 (tak l c).2.1.1, .int .i64 (tak l c).2.1.2], .int .i64 (tak l c).2.2] ∧ Desk H' bd br v' (takB l b c d) ∧ Aside bd br H H' := by
  have hn := chk_len hc
  obtain ⟨v', hv', ht⟩ := tak_fn hv hl (by omega) c
  refine SimX.intro mixed comp32 ?_
  unfold c32
  have k := hD.keep (.app H [.row 2 [.agg [.int .i64 0, .int .i64 0]] false false])
  have hL : (u8E.vs b).length = b.length := El.vs_length b
  simp -implicitDefEqProofs (disch := omega) only [k.d, mwx, ne_eq, false_implies, implies_true, forall_eq_or_imp, MW.get, ev, evs, argFr, resK, packV, slHK, partsV, partsS, setR, Int.cast_ofNat_Int, Int.natCast_zero, Int.natCast_one, Nat.reduceLeDiff, reduceIte, Nat.reduceEqDiff, Nat.reduceBEq, reduceCtorEq, Nat.reduceAdd, Nat.reduceMul, Nat.reduceSub, Nat.reduceLT, Int.reduceToNat, Int.reduceLT, Int.reduceLE, Int.reduceEq, Int.reduceAdd, Int.reduceNeg, Int.reduceMul, Int.reduceSub]
  refine Does.call ht (fr2 hv.free (.int _ _)) ?_
  simp -implicitDefEqProofs (disch := omega) only [List.length_append, getB_plus, getB_plus0, set_plus, set_plus0, mwx, ne_eq, false_implies, implies_true, forall_eq_or_imp, MW.get, ev, evs, argFr, resK, packV, slHK, partsV, partsS, setR, Int.cast_ofNat_Int, Int.natCast_zero, Int.natCast_one, Nat.reduceLeDiff, reduceIte, Nat.reduceEqDiff, Nat.reduceBEq, reduceCtorEq, Nat.reduceAdd, Nat.reduceMul, Nat.reduceSub, Nat.reduceLT, Int.reduceToNat, Int.reduceLT, Int.reduceLE, Int.reduceEq, Int.reduceAdd, Int.reduceNeg, Int.reduceMul, Int.reduceSub]
  refine xc_dec (fun he => ?_) fun he => ?_
  rotate_left
  · have he' : ¬ (tak l c).2.2 = 0 := by simpa using he
    simp -implicitDefEqProofs (disch := omega) only [List.length_append, getB_plus, getB_plus0, set_plus, set_plus0, mwx, ne_eq, false_implies, implies_true, forall_eq_or_imp, MW.get, ev, evs, argFr, resK, packV, slHK, partsV, partsS, setR, Int.cast_ofNat_Int, Int.natCast_zero, Int.natCast_one, Nat.reduceLeDiff, reduceIte, Nat.reduceEqDiff, Nat.reduceBEq, reduceCtorEq, Nat.reduceAdd, Nat.reduceMul, Nat.reduceSub, Nat.reduceLT, Int.reduceToNat, Int.reduceLT, Int.reduceLE, Int.reduceEq, Int.reduceAdd, Int.reduceNeg, Int.reduceMul, Int.reduceSub]
    refine ⟨v, by rw [tak_same he']; exact hv, ?_, by simp, fun q hq _ _ => getB_app' hq⟩
    rw [takB, if_neg he']
    exact hD.keep (.app _ _)
  obtain ⟨j, q, hj, hq, h0, htk, hbit, hlow, hlt, hor⟩ := tak_ok hl hc he
  have hls : (l.set j (c, (sat l j).2 ||| 2 ^ q)).length = l.length := by simp
  have hsat : sat (tak l c).1 j = (c, (sat l j).2 ||| 2 ^ q) := by rw [htk]; exact sat_set hj _
  have htB : takB l b c d = wrB b (j * 512 + q * bN c) d := by rw [takB, if_pos he, htk]; rfl
  have hlen : (tak l c).1.length = l.length := by rw [htk]; exact hls
  rw [htB]
  have hsp := span_fn hv' (s := j) (a := q) (by omega) (by omega) (by have := slN_le c; omega)
  rw [hsat] at hsp
  have e1 : (tak l c).2.1.1 = (j : Int) := by rw [htk]
  have e2 : (tak l c).2.1.2 = (q : Int) := by rw [htk]
  have hbd := getB_lt' hD.d
  have hbr := getB_lt' hD.r
  have hw1 := isE_one hv'
  have hgd : MW.Good 1 v' = True := by rcases hv' with ⟨rfl, _⟩ | rfl <;> simp [MW.Good, V.cells, V.one]
  have setL : ∀ (T : List Blk) (X : Blk), (H ++ T).set bd X = H.set bd X ++ T := fun T X => List.set_append_left _ _ hbd
  have g1 : ∀ (X : Blk) (T : List Blk) (k : Nat), getB (H.set bd X ++ T) (H.length + k) = getB T k := fun X T k => by
    have := getB_plus (H.set bd X) T k
    rwa [List.length_set] at this
  have g0 : ∀ (X : Blk) (T : List Blk), getB (H.set bd X ++ T) H.length = getB T 0 := fun X T => g1 X T 0
  have s1 : ∀ (X : Blk) (T : List Blk) (k : Nat) (Y : Blk), (H.set bd X ++ T).set (H.length + k) Y = H.set bd X ++ T.set k Y := fun X T k Y => by
    have := set_plus (H.set bd X) T k Y
    rwa [List.length_set] at this
  have s0 : ∀ (X : Blk) (T : List Blk) (Y : Blk), (H.set bd X ++ T).set H.length Y = H.set bd X ++ T.set 0 Y := fun X T Y => s1 X T 0 Y
  have gd : ∀ (X : Blk) (T : List Blk), getB (H.set bd X ++ T) bd = X := fun X T => by
    rw [getB_app' (by simpa using hbd), getB_set _ hbd]
  have gr : ∀ (X : Blk) (T : List Blk), getB (H.set bd X ++ T) br = .row 1 (u8E.vs b) true false := fun X T => by
    rw [getB_app' (by simpa using hbr), getB_set_ne _ hD.ne, hD.r]
  have setL2 : ∀ (X Y : Blk) (T : List Blk), (H.set bd X ++ T).set br Y = (H.set bd X).set br Y ++ T := fun X Y T => List.set_append_left _ _ (by simpa using hbr)
  have g1' : ∀ (X Y : Blk) (T : List Blk) (k : Nat), getB ((H.set bd X).set br Y ++ T) (H.length + k) = getB T k := fun X Y T k => by
    have := getB_plus ((H.set bd X).set br Y) T k
    rwa [List.length_set, List.length_set] at this
  have g0' : ∀ (X Y : Blk) (T : List Blk), getB ((H.set bd X).set br Y ++ T) H.length = getB T 0 := fun X Y T => g1' X Y T 0
  have s1' : ∀ (X Y : Blk) (T : List Blk) (k : Nat) (W : Blk), ((H.set bd X).set br Y ++ T).set (H.length + k) W = (H.set bd X).set br Y ++ T.set k W := fun X Y T k W => by
    have := set_plus ((H.set bd X).set br Y) T k W
    rwa [List.length_set, List.length_set] at this
  have s0' : ∀ (X Y : Blk) (T : List Blk) (W : Blk), ((H.set bd X).set br Y ++ T).set H.length W = (H.set bd X).set br Y ++ T.set 0 W := fun X Y T W => s1' X Y T 0 W
  have kd : ∀ T : List Blk, getB (H ++ T) bd = .row 2 [.agg [v, .hs br b.length 0 0 b.length none 1]] false false := fun T => getB_app hD.d
  simp -implicitDefEqProofs (disch := omega) only [e1, e2, kd, setL, g1, g0, s1, s0, gd, gr, hgd, hw1.2.1, mwx, ne_eq, false_implies, implies_true, forall_eq_or_imp, MW.get, ev, evs, argFr, resK, packV, slHK, partsV, partsS, setR, Int.cast_ofNat_Int, Int.natCast_zero, Int.natCast_one, Nat.reduceLeDiff, reduceIte, Nat.reduceEqDiff, Nat.reduceBEq, reduceCtorEq, Nat.reduceAdd, Nat.reduceMul, Nat.reduceSub, Nat.reduceLT, Int.reduceToNat, Int.reduceLT, Int.reduceLE, Int.reduceEq, Int.reduceAdd, Int.reduceNeg, Int.reduceMul, Int.reduceSub]
  refine Does.call hsp (fr2 hv'.free (free_agg2 (.int _ _) (.int _ _))) ?_
  have hend : q * bN c + bN c ≤ 512 ∧ 0 < bN c := by
    have h5 := bN_slN c
    have h6 : (q + 1) * bN c ≤ slN c * bN c := Nat.mul_le_mul_right _ hq
    rw [Nat.add_mul, Nat.one_mul] at h6
    rcases h5 with h5 | ⟨h5, _⟩
    · refine ⟨by omega, ?_⟩
      rcases Nat.eq_zero_or_pos (bN c) with h7 | h7
      · rw [h7] at h5; simp at h5
      · exact h7
    · omega
  have hjl : j * 512 + 512 ≤ l.length * 512 := by
    have : (j + 1) * 512 ≤ l.length * 512 := Nat.mul_le_mul_right _ hj
    omega
  have w1 : IntKind.i64.wrap (((j * 512 + q * bN c : Nat) : Int) + (bN c : Int)) = ((j * 512 + q * bN c + bN c : Nat) : Int) := wrap64 (n := ((j * 512 + q * bN c + bN c : Nat) : Int)) (by omega) (by omega)
  have hg : Goods 1 (u8E.vs d) = True := eq_true (El.vs_goods (e := u8E) _)
  have hz : (u8E.vs d).length = d.length := El.vs_length d
  have htk2 : (u8E.vs d).take (bN c) = u8E.vs d := List.take_of_length_le (by omega)
  have hle : j * 512 + q * bN c + bN c ≤ b.length := by omega
  have hwr := u8_wr b d (j * 512 + q * bN c)
  rw [hz, List.append_assoc] at hwr
  have hsub : j * 512 + q * bN c + bN c - (j * 512 + q * bN c) = bN c := by omega
  have hu8 : d.map u8V = u8E.vs d := rfl
  simp -implicitDefEqProofs (disch := omega) only [w1, kd, setL, g1, g0, s1, s0, gd, gr, slK3 (p := j * 512 + q * bN c) (e := j * 512 + q * bN c + bN c) (gr _ _) hL (by omega) (by omega), hsub, hu8, htk2, hg, hz, hL, hd, hle, hwr, setL2, g1', g0', s1', s0', mwx, ne_eq, false_implies, implies_true, forall_eq_or_imp, MW.get, ev, evs, argFr, resK, packV, slHK, partsV, partsS, setR, Int.cast_ofNat_Int, Int.natCast_zero, Int.natCast_one, Nat.reduceLeDiff, reduceIte, Nat.reduceEqDiff, Nat.reduceBEq, reduceCtorEq, Nat.reduceAdd, Nat.reduceMul, Nat.reduceSub, Nat.reduceLT, Int.reduceToNat, Int.reduceLT, Int.reduceLE, Int.reduceEq, Int.reduceAdd, Int.reduceNeg, Int.reduceMul, Int.reduceSub]
  refine ⟨v', hv', by rw [he], ⟨hD.ne, ?_, ?_⟩, by simp, fun x hx h1 h2 => ?_⟩
  · rw [getB_app' (by simpa using hbd), getB_set_ne _ (Ne.symm hD.ne), getB_set _ hbd, wrB_length (by omega)]
  · rw [getB_app' (by simpa using hbr), getB_set _ (by simpa using hbr)]
  · rw [getB_app' (by simpa using hx), getB_set_ne _ (Ne.symm h2), getB_set_ne _ (Ne.symm h1)]

end Go.Proofs.YtlcbogafgdofgaaDoor

/- Store (chapter 12): stores of one's own; new ones; alike; objects got; put. -/
namespace Go.Proofs.YtlcbogafgdofgaaDoor
open Go Go.MW
set_option linter.unusedSimpArgs false
set_option linter.unusedVariables false
set_option maxRecDepth 8000

theorem own_fn {v : V} {l : List Sg} (hv : IsE segE v l) (hn : l.length ≤ 1099511627776) (b : List UInt8) : ∃ v', IsE segE v' l ∧ Does Tryd.prog G0 true 30 [.agg [v, .str b]] (.agg [v', .str b]) := by
  obtain ⟨r, H', hsim, bd, br, v', rfl, hv', hD, hk, _, _⟩ := of_sim hv hn b ([] ++ [.row 2 [.agg [v, .str b]] false false] ++ [.row 2 [.agg [.nils, .str []]] false false])
  refine ⟨v', hv', ?_⟩
  refine Does.intro mixed comp30 ?_
  unfold c30
  simp -implicitDefEqProofs (disch := omega) only [mwx, ne_eq, false_implies, implies_true, forall_eq_or_imp, MW.get, ev, evs, argFr, resK, packV, slHK, partsV, partsS, setR, Int.cast_ofNat_Int, Int.natCast_zero, Int.natCast_one, Nat.reduceLeDiff, reduceIte, Nat.reduceEqDiff, Nat.reduceBEq, reduceCtorEq, Nat.reduceAdd, Nat.reduceMul, Nat.reduceSub, Nat.reduceLT, Int.reduceToNat, Int.reduceLT, Int.reduceLE, Int.reduceEq, Int.reduceAdd, Int.reduceNeg, Int.reduceMul, Int.reduceSub]
  refine callK_sim hsim ?_
  simp -implicitDefEqProofs (disch := omega) only [mwx, ne_eq, false_implies, implies_true, forall_eq_or_imp, MW.get, ev, evs, argFr, resK, packV, slHK, partsV, partsS, setR, Int.cast_ofNat_Int, Int.natCast_zero, Int.natCast_one, Nat.reduceLeDiff, reduceIte, Nat.reduceEqDiff, Nat.reduceBEq, reduceCtorEq, Nat.reduceAdd, Nat.reduceMul, Nat.reduceSub, Nat.reduceLT, Int.reduceToNat, Int.reduceLT, Int.reduceLE, Int.reduceEq, Int.reduceAdd, Int.reduceNeg, Int.reduceMul, Int.reduceSub]
  refine (store_sim hD (isE_one hv')).call fun r H2 hr => ?_
  obtain ⟨rfl, hk2⟩ := hr
  have k1 : getB H2 1 = .row 2 [.agg [.nils, .str []]] false false := by
    rw [hk2.2 1 (by have := hk.1; simp at this; omega), hk.2 1 (by simp)]; rfl
  have hl1 : 1 < H2.length := getB_lt' k1
  have hgd : (∀ c ∈ [v', .str b], c.one = true) = True := eq_true (by
    intro c hc
    simp only [List.mem_cons, List.not_mem_nil, or_false] at hc
    rcases hc with rfl | rfl
    · exact (isE_one hv').2.2
    · rfl)
  simp -implicitDefEqProofs (disch := omega) only [k1, hgd, (isE_one hv').2.2, getB_set _ hl1, mwx, ne_eq, false_implies, implies_true, forall_eq_or_imp, MW.get, ev, evs, argFr, resK, packV, slHK, partsV, partsS, setR, Int.cast_ofNat_Int, Int.natCast_zero, Int.natCast_one, Nat.reduceLeDiff, reduceIte, Nat.reduceEqDiff, Nat.reduceBEq, reduceCtorEq, Nat.reduceAdd, Nat.reduceMul, Nat.reduceSub, Nat.reduceLT, Int.reduceToNat, Int.reduceLT, Int.reduceLE, Int.reduceEq, Int.reduceAdd, Int.reduceNeg, Int.reduceMul, Int.reduceSub]
  exact frz_store hv' hv'.free b

theorem same12 {v v' : V} {l l' : List Sg} (hv : IsE segE v l) (hv' : IsE segE v' l') (hn : l.length < 2 ^ 62) (b b' : List UInt8) :
    Does Tryd.prog G0 false 13 [.agg [v, .str b], .agg [v', .str b']] (.bool (decide (l = l' ∧ b = b'))) := by
  refine Does.intro mixed comp13 ?_
  unfold c13
  simp -implicitDefEqProofs (disch := omega) only [mwx, ne_eq, false_implies, implies_true, forall_eq_or_imp, MW.get, ev, evs, argFr, resK, packV, slHK, partsV, partsS, setR, Int.cast_ofNat_Int, Int.natCast_zero, Int.natCast_one, Nat.reduceLeDiff, reduceIte, Nat.reduceEqDiff, Nat.reduceBEq, reduceCtorEq, Nat.reduceAdd, Nat.reduceMul, Nat.reduceSub, Nat.reduceLT, Int.reduceToNat, Int.reduceLT, Int.reduceLE, Int.reduceEq, Int.reduceAdd, Int.reduceNeg, Int.reduceMul, Int.reduceSub]
  refine Does.call (same_ref hv hv' hn) (fr2 hv.free hv'.free) ?_
  simp -implicitDefEqProofs (disch := omega) only [mwx, ne_eq, false_implies, implies_true, forall_eq_or_imp, MW.get, ev, evs, argFr, resK, packV, slHK, partsV, partsS, setR, Int.cast_ofNat_Int, Int.natCast_zero, Int.natCast_one, Nat.reduceLeDiff, reduceIte, Nat.reduceEqDiff, Nat.reduceBEq, reduceCtorEq, Nat.reduceAdd, Nat.reduceMul, Nat.reduceSub, Nat.reduceLT, Int.reduceToNat, Int.reduceLT, Int.reduceLE, Int.reduceEq, Int.reduceAdd, Int.reduceNeg, Int.reduceMul, Int.reduceSub]
  refine xg_any (fun h => ?_) fun h => ?_
  · simp -implicitDefEqProofs (disch := omega) only [h, mwx, ne_eq, false_implies, implies_true, forall_eq_or_imp, MW.get, ev, evs, argFr, resK, packV, slHK, partsV, partsS, setR, Int.cast_ofNat_Int, Int.natCast_zero, Int.natCast_one, Nat.reduceLeDiff, reduceIte, Nat.reduceEqDiff, Nat.reduceBEq, reduceCtorEq, Nat.reduceAdd, Nat.reduceMul, Nat.reduceSub, Nat.reduceLT, Int.reduceToNat, Int.reduceLT, Int.reduceLE, Int.reduceEq, Int.reduceAdd, Int.reduceNeg, Int.reduceMul, Int.reduceSub]
    refine frz_bool ?_
    have h' : l = l' := by simpa using h
    rw [Bool.eq_iff_iff]
    simp [h']
  · simp -implicitDefEqProofs (disch := omega) only [h, mwx, ne_eq, false_implies, implies_true, forall_eq_or_imp, MW.get, ev, evs, argFr, resK, packV, slHK, partsV, partsS, setR, Int.cast_ofNat_Int, Int.natCast_zero, Int.natCast_one, Nat.reduceLeDiff, reduceIte, Nat.reduceEqDiff, Nat.reduceBEq, reduceCtorEq, Nat.reduceAdd, Nat.reduceMul, Nat.reduceSub, Nat.reduceLT, Int.reduceToNat, Int.reduceLT, Int.reduceLE, Int.reduceEq, Int.reduceAdd, Int.reduceNeg, Int.reduceMul, Int.reduceSub]
    refine frz_bool ?_
    have h' : ¬ l = l' := by simpa using h
    simp [h']

theorem few12 {v : V} {l : List Sg} (hv : IsE segE v l) (b : List UInt8) : Does Tryd.prog G0 false 9 [.agg [v, .str b]] (.bool (decide (l.length ≤ 20) && decide (b.length ≤ 12000))) := by
  refine Does.intro mixed comp9 ?_
  unfold c9
  simp -implicitDefEqProofs (disch := omega) only [lenK_isE hv, mwx, ne_eq, false_implies, implies_true, forall_eq_or_imp, MW.get, ev, evs, argFr, resK, packV, slHK, partsV, partsS, setR, Int.cast_ofNat_Int, Int.natCast_zero, Int.natCast_one, Nat.reduceLeDiff, reduceIte, Nat.reduceEqDiff, Nat.reduceBEq, reduceCtorEq, Nat.reduceAdd, Nat.reduceMul, Nat.reduceSub, Nat.reduceLT, Int.reduceToNat, Int.reduceLT, Int.reduceLE, Int.reduceEq, Int.reduceAdd, Int.reduceNeg, Int.reduceMul, Int.reduceSub]
  refine xg_dec (fun h => ?_) fun h => ?_
  · simp -implicitDefEqProofs (disch := omega) only [h, mwx, ne_eq, false_implies, implies_true, forall_eq_or_imp, MW.get, ev, evs, argFr, resK, packV, slHK, partsV, partsS, setR, Int.cast_ofNat_Int, Int.natCast_zero, Int.natCast_one, Nat.reduceLeDiff, reduceIte, Nat.reduceEqDiff, Nat.reduceBEq, reduceCtorEq, Nat.reduceAdd, Nat.reduceMul, Nat.reduceSub, Nat.reduceLT, Int.reduceToNat, Int.reduceLT, Int.reduceLE, Int.reduceEq, Int.reduceAdd, Int.reduceNeg, Int.reduceMul, Int.reduceSub]
    refine frz_bool ?_
    have h1 : l.length ≤ 20 := by omega
    rw [Bool.eq_iff_iff]
    simp [h1]
    omega
  · simp -implicitDefEqProofs (disch := omega) only [h, mwx, ne_eq, false_implies, implies_true, forall_eq_or_imp, MW.get, ev, evs, argFr, resK, packV, slHK, partsV, partsS, setR, Int.cast_ofNat_Int, Int.natCast_zero, Int.natCast_one, Nat.reduceLeDiff, reduceIte, Nat.reduceEqDiff, Nat.reduceBEq, reduceCtorEq, Nat.reduceAdd, Nat.reduceMul, Nat.reduceSub, Nat.reduceLT, Int.reduceToNat, Int.reduceLT, Int.reduceLE, Int.reduceEq, Int.reduceAdd, Int.reduceNeg, Int.reduceMul, Int.reduceSub]
    refine frz_bool ?_
    have h1 : ¬ l.length ≤ 20 := by omega
    simp [h1]

theorem few_fn {v : V} {l : List (Int × Int)} (hv : IsE slotE v l) : Does Tryd.prog G0 false 10 [v] (.bool (decide (l.length ≤ 100))) := by
  refine Does.intro mixed comp10 ?_
  unfold c10
  simp -implicitDefEqProofs (disch := omega) only [lenK_isE hv, mwx, ne_eq, false_implies, implies_true, forall_eq_or_imp, MW.get, ev, evs, argFr, resK, packV, slHK, partsV, partsS, setR, Int.cast_ofNat_Int, Int.natCast_zero, Int.natCast_one, Nat.reduceLeDiff, reduceIte, Nat.reduceEqDiff, Nat.reduceBEq, reduceCtorEq, Nat.reduceAdd, Nat.reduceMul, Nat.reduceSub, Nat.reduceLT, Int.reduceToNat, Int.reduceLT, Int.reduceLE, Int.reduceEq, Int.reduceAdd, Int.reduceNeg, Int.reduceMul, Int.reduceSub]
  refine frz_bool ?_
  rw [Bool.eq_iff_iff]
  simp
  omega

theorem newS_bad (n : Int) (h : n < 0 ∨ 200 < n) : Does Tryd.prog G0 false 17 [.int .i64 n] (.tup [.agg [.nils, .str []], .int .i64 110]) := by
  refine Does.intro mixed comp17 ?_
  unfold c17
  simp -implicitDefEqProofs (disch := omega) only [mwx, ne_eq, false_implies, implies_true, forall_eq_or_imp, MW.get, ev, evs, argFr, resK, packV, slHK, partsV, partsS, setR, Int.cast_ofNat_Int, Int.natCast_zero, Int.natCast_one, Nat.reduceLeDiff, reduceIte, Nat.reduceEqDiff, Nat.reduceBEq, reduceCtorEq, Nat.reduceAdd, Nat.reduceMul, Nat.reduceSub, Nat.reduceLT, Int.reduceToNat, Int.reduceLT, Int.reduceLE, Int.reduceEq, Int.reduceAdd, Int.reduceNeg, Int.reduceMul, Int.reduceSub]
  refine Does.call (new_bad n h) (fr1 (.int _ _)) ?_
  simp -implicitDefEqProofs (disch := omega) only [mwx, ne_eq, false_implies, implies_true, forall_eq_or_imp, MW.get, ev, evs, argFr, resK, packV, slHK, partsV, partsS, setR, Int.cast_ofNat_Int, Int.natCast_zero, Int.natCast_one, Nat.reduceLeDiff, reduceIte, Nat.reduceEqDiff, Nat.reduceBEq, reduceCtorEq, Nat.reduceAdd, Nat.reduceMul, Nat.reduceSub, Nat.reduceLT, Int.reduceToNat, Int.reduceLT, Int.reduceLE, Int.reduceEq, Int.reduceAdd, Int.reduceNeg, Int.reduceMul, Int.reduceSub]
  exact frz_tup2 (.free (free_agg2 .nils (.str _))) (frz_int rfl)

theorem newS_fn (m : Nat) (hm : m ≤ 200) : Does Tryd.prog G0 true 17 [.int .i64 m] (.tup [.agg [.vs (segE.vs (List.replicate m (-1, 0))), .str (List.replicate (m * 512) 0)], .int .i64 0]) := by
  refine Does.intro mixed comp17 ?_
  unfold c17
  simp -implicitDefEqProofs (disch := omega) only [mwx, ne_eq, false_implies, implies_true, forall_eq_or_imp, MW.get, ev, evs, argFr, resK, packV, slHK, partsV, partsS, setR, Int.cast_ofNat_Int, Int.natCast_zero, Int.natCast_one, Nat.reduceLeDiff, reduceIte, Nat.reduceEqDiff, Nat.reduceBEq, reduceCtorEq, Nat.reduceAdd, Nat.reduceMul, Nat.reduceSub, Nat.reduceLT, Int.reduceToNat, Int.reduceLT, Int.reduceLE, Int.reduceEq, Int.reduceAdd, Int.reduceNeg, Int.reduceMul, Int.reduceSub]
  refine Does.call (new_fn m hm) (fr1 (.int _ _)) ?_
  have hw : IntKind.i64.wrap ((m : Int) * 512) = ((m * 512 : Nat) : Int) := wrap64 (n := ((m * 512 : Nat) : Int)) (by omega) (by omega)
  have h1 : (0 : Int) ≤ ((m * 512 : Nat) : Int) ∧ ((m * 512 : Nat) : Int) ≤ ((m * 512 : Nat) : Int) ∧ ((m * 512 : Nat) : Int) < 2 ^ 63 ∧ (1 : Int) * ((m * 512 : Nat) : Int) ≤ 2 ^ 48 := by omega
  have hz : List.replicate (m * 512) (V.int .u8 0) = u8E.vs (List.replicate (m * 512) 0) := u8_zeros _
  have hL : (u8E.vs (List.replicate (m * 512) 0)).length = m * 512 := by rw [El.vs_length]; simp
  have ht : (u8E.vs (List.replicate (m * 512) 0)).take (m * 512) = u8E.vs (List.replicate (m * 512) 0) := List.take_of_length_le (by omega)
  simp -implicitDefEqProofs (disch := omega) only [hw, h1.1, h1.2.1, h1.2.2.1, h1.2.2.2, hz, hL, ht, mwx, ne_eq, false_implies, implies_true, forall_eq_or_imp, MW.get, ev, evs, argFr, resK, packV, slHK, partsV, partsS, setR, Int.cast_ofNat_Int, Int.natCast_zero, Int.natCast_one, Nat.reduceLeDiff, reduceIte, Nat.reduceEqDiff, Nat.reduceBEq, reduceCtorEq, Nat.reduceAdd, Nat.reduceMul, Nat.reduceSub, Nat.reduceLT, Int.reduceToNat, Int.reduceLT, Int.reduceLE, Int.reduceEq, Int.reduceAdd, Int.reduceNeg, Int.reduceMul, Int.reduceSub]
  refine ⟨List.replicate (m * 512) 0, rfl, ?_⟩
  simp -implicitDefEqProofs (disch := omega) only [mwx, ne_eq, false_implies, implies_true, forall_eq_or_imp, MW.get, ev, evs, argFr, resK, packV, slHK, partsV, partsS, setR, Int.cast_ofNat_Int, Int.natCast_zero, Int.natCast_one, Nat.reduceLeDiff, reduceIte, Nat.reduceEqDiff, Nat.reduceBEq, reduceCtorEq, Nat.reduceAdd, Nat.reduceMul, Nat.reduceSub, Nat.reduceLT, Int.reduceToNat, Int.reduceLT, Int.reduceLE, Int.reduceEq, Int.reduceAdd, Int.reduceNeg, Int.reduceMul, Int.reduceSub]
  exact frz_tup2 (.free (free_agg2 (El.free_vs _) (.str _))) (frz_int rfl)

end Go.Proofs.YtlcbogafgdofgaaDoor

/- Store (chapter 12): objects got. -/
namespace Go.Proofs.YtlcbogafgdofgaaDoor
open Go Go.MW
set_option linter.unusedSimpArgs false
set_option linter.unusedVariables false
set_option maxRecDepth 8000

/-- Where a slot's bytes begin; they; an object. -/
def beg (l : List Sg) (x : Int × Int) : Nat := x.1.toNat * 512 + x.2.toNat * bN (sat l x.1.toNat).1
def rdS (l : List Sg) (b : List UInt8) (x : Int × Int) : List UInt8 := (b.drop (beg l x)).take (bN (sat l x.1.toNat).1)
def hasX (l : List Sg) (x : Int × Int) : Bool := has l x.1 x.2
def getS (l : List Sg) (b : List UInt8) (xs : List (Int × Int)) (size : Int) : List UInt8 × Int :=
  if chkS l b = false ∨ size < 0 then ([], 120) else if xs.all (hasX l) = false then ([], 120) else
    if ((xs.flatMap (rdS l b)).length : Int) < size then ([], 120) else ((xs.flatMap (rdS l b)).take size.toNat, 0)

theorem chkS_of {l : List Sg} {b : List UInt8} (h : chkS l b = true) : chk l = true ∧ b.length = l.length * 512 ∧ zok l b = true := by
  simpa [chkS] using h

/-- A slot that is taken: where it is. -/
theorem has_slot {l : List Sg} (hl : SegOK l) {x : Int × Int} (h : hasX l x = true) : ∃ i a : Nat, x = ((i : Int), (a : Int)) ∧ i < l.length ∧ a < slN (sat l i).1 ∧ a < 64 ∧ (sat l i).2.testBit a = true := by
  obtain ⟨hc, h1, h2, h3, h4⟩ := has_iff.1 h
  obtain ⟨i, hi⟩ : ∃ i : Nat, x.1 = i := ⟨x.1.toNat, by omega⟩
  obtain ⟨a, ha⟩ : ∃ a : Nat, x.2 = a := ⟨x.2.toNat, by omega⟩
  have hx : x = ((i : Int), (a : Int)) := Prod.ext hi ha
  subst hx
  simp only [Int.toNat_natCast] at h4
  have hil : i < l.length := by simpa using h2
  have h4' : (sat l i).2.testBit a = true := h4
  have hu := has_used hc h
  simp only [Int.toNat_natCast] at hu
  obtain ⟨s1, s2, s3⟩ := sgOK_used ((chk_iff.1 hc).2 i hil) hu.2
  have ha : a < slN (sat l i).1 := by
    refine Nat.lt_of_not_le fun hle => ?_
    rw [Nat.testBit_lt_two_pow (Nat.lt_of_lt_of_le s3 (Nat.pow_le_pow_right (by decide) hle))] at h4'
    cases h4'
  exact ⟨i, a, rfl, hil, ha, Nat.lt_of_lt_of_le ha (slN_le _), h4'⟩

theorem rd_length {l : List Sg} {b : List UInt8} (hb : b.length = l.length * 512) {i a : Nat} (hi : i < l.length) (ha : a < slN (sat l i).1) : (rdS l b ((i : Int), (a : Int))).length = bN (sat l i).1 ∧ beg l ((i : Int), (a : Int)) = i * 512 + a * bN (sat l i).1 ∧ i * 512 + a * bN (sat l i).1 + bN (sat l i).1 ≤ b.length := by
  obtain ⟨h1, h2⟩ := slot_end ha
  have : (i + 1) * 512 ≤ l.length * 512 := Nat.mul_le_mul_right _ hi
  refine ⟨?_, rfl, by omega⟩
  show ((b.drop (i * 512 + a * bN (sat l i).1)).take (bN (sat l i).1)).length = _
  rw [List.length_take, List.length_drop]
  omega

theorem get_fn {v : V} {l : List Sg} (hv : IsE segE v l) (hl : SegOK l) (hn : l.length < 2 ^ 50) {b : List UInt8} (hbn : b.length < 2 ^ 62) {w : V} {xs : List (Int × Int)} (hw : IsE slotE w xs) (hx : xs.length < 2 ^ 40) (size : Int) :
    Does Tryd.prog G0 false 14 [.agg [v, .str b], w, .int .i64 size] (.tup [.str (getS l b xs size).1, .int .i64 (getS l b xs size).2]) := by
  refine Does.intro mixed comp14 ?_
  unfold c14
  have fin : ∀ {H : List Blk} {s : List UInt8} {e : Int}, getS l b xs size = (s, e) → Frz false H (.tup [.str s, .int .i64 e]) (.tup [.str (getS l b xs size).1, .int .i64 (getS l b xs size).2]) := by
    intro H s e h
    rw [h]
    exact frz_tup2 (.free (.str _)) (frz_int rfl)
  simp -implicitDefEqProofs (disch := omega) only [mwx, ne_eq, false_implies, implies_true, forall_eq_or_imp, MW.get, ev, evs, argFr, resK, packV, slHK, partsV, partsS, setR, Int.cast_ofNat_Int, Int.natCast_zero, Int.natCast_one, Nat.reduceLeDiff, reduceIte, Nat.reduceEqDiff, Nat.reduceBEq, reduceCtorEq, Nat.reduceAdd, Nat.reduceMul, Nat.reduceSub, Nat.reduceLT, Int.reduceToNat, Int.reduceLT, Int.reduceLE, Int.reduceEq, Int.reduceAdd, Int.reduceNeg, Int.reduceMul, Int.reduceSub]
  refine Does.call (chkS_fn hv hl hn hbn) (fr1 (store_free hv b)) ?_
  simp -implicitDefEqProofs (disch := omega) only [mwx, ne_eq, false_implies, implies_true, forall_eq_or_imp, MW.get, ev, evs, argFr, resK, packV, slHK, partsV, partsS, setR, Int.cast_ofNat_Int, Int.natCast_zero, Int.natCast_one, Nat.reduceLeDiff, reduceIte, Nat.reduceEqDiff, Nat.reduceBEq, reduceCtorEq, Nat.reduceAdd, Nat.reduceMul, Nat.reduceSub, Nat.reduceLT, Int.reduceToNat, Int.reduceLT, Int.reduceLE, Int.reduceEq, Int.reduceAdd, Int.reduceNeg, Int.reduceMul, Int.reduceSub]
  refine xg_any (fun hc => ?_) fun hc => ?_
  rotate_left
  · have hc : chkS l b = false := by simpa using hc
    simp -implicitDefEqProofs (disch := omega) only [hc, mwx, ne_eq, false_implies, implies_true, forall_eq_or_imp, MW.get, ev, evs, argFr, resK, packV, slHK, partsV, partsS, setR, Int.cast_ofNat_Int, Int.natCast_zero, Int.natCast_one, Nat.reduceLeDiff, reduceIte, Nat.reduceEqDiff, Nat.reduceBEq, reduceCtorEq, Nat.reduceAdd, Nat.reduceMul, Nat.reduceSub, Nat.reduceLT, Int.reduceToNat, Int.reduceLT, Int.reduceLE, Int.reduceEq, Int.reduceAdd, Int.reduceNeg, Int.reduceMul, Int.reduceSub]
    exact fin (by simp [getS, hc])
  have hc : chkS l b = true := by simpa using hc
  obtain ⟨hc1, hb, hz⟩ := chkS_of hc
  have hn2 := chk_len hc1
  simp -implicitDefEqProofs (disch := omega) only [hc, mwx, ne_eq, false_implies, implies_true, forall_eq_or_imp, MW.get, ev, evs, argFr, resK, packV, slHK, partsV, partsS, setR, Int.cast_ofNat_Int, Int.natCast_zero, Int.natCast_one, Nat.reduceLeDiff, reduceIte, Nat.reduceEqDiff, Nat.reduceBEq, reduceCtorEq, Nat.reduceAdd, Nat.reduceMul, Nat.reduceSub, Nat.reduceLT, Int.reduceToNat, Int.reduceLT, Int.reduceLE, Int.reduceEq, Int.reduceAdd, Int.reduceNeg, Int.reduceMul, Int.reduceSub]
  refine xc_dec (fun h0 => ?_) fun h0 => ?_
  · simp -implicitDefEqProofs (disch := omega) only [mwx, ne_eq, false_implies, implies_true, forall_eq_or_imp, MW.get, ev, evs, argFr, resK, packV, slHK, partsV, partsS, setR, Int.cast_ofNat_Int, Int.natCast_zero, Int.natCast_one, Nat.reduceLeDiff, reduceIte, Nat.reduceEqDiff, Nat.reduceBEq, reduceCtorEq, Nat.reduceAdd, Nat.reduceMul, Nat.reduceSub, Nat.reduceLT, Int.reduceToNat, Int.reduceLT, Int.reduceLE, Int.reduceEq, Int.reduceAdd, Int.reduceNeg, Int.reduceMul, Int.reduceSub]
    exact fin (by simp [getS, h0])
  simp -implicitDefEqProofs (disch := omega) only [lenK_isE hw, mwx, ne_eq, false_implies, implies_true, forall_eq_or_imp, MW.get, ev, evs, argFr, resK, packV, slHK, partsV, partsS, setR, Int.cast_ofNat_Int, Int.natCast_zero, Int.natCast_one, Nat.reduceLeDiff, reduceIte, Nat.reduceEqDiff, Nat.reduceBEq, reduceCtorEq, Nat.reduceAdd, Nat.reduceMul, Nat.reduceSub, Nat.reduceLT, Int.reduceToNat, Int.reduceLT, Int.reduceLE, Int.reduceEq, Int.reduceAdd, Int.reduceNeg, Int.reduceMul, Int.reduceSub]
  refine xl_loop (fun k st => ∃ i : Nat, k + i = xs.length ∧ getB st.H 0 = .row 2 [.agg [v, .str b]] false false ∧ get st.fr 2 = .int .i64 size ∧ get st.fr 3 = .ptr 0 1 0 0 ∧ get st.fr 8 = .str ((xs.take i).flatMap (rdS l b)) ∧ get st.fr 20 = w ∧ get st.fr 21 = .int .i64 xs.length ∧ get st.fr 22 = .int .i64 i ∧
      (∀ x ∈ xs.take i, hasX l x = true) ∧ ((xs.take i).flatMap (rdS l b)).length ≤ 64 * i) xs.length ⟨0, by omega, rfl, rfl, rfl, rfl, rfl, rfl, rfl, by simp, by simp⟩ ?_
  rintro J hJ k fr H ⟨i, k1, hH, h2, h3, h8, h20, h21, h22, hall, hlen⟩
  simp -implicitDefEqProofs (disch := omega) only [h21, h22, mwx, ne_eq, false_implies, implies_true, forall_eq_or_imp, MW.get, ev, evs, argFr, resK, packV, slHK, partsV, partsS, setR, Int.cast_ofNat_Int, Int.natCast_zero, Int.natCast_one, Nat.reduceLeDiff, reduceIte, Nat.reduceEqDiff, Nat.reduceBEq, reduceCtorEq, Nat.reduceAdd, Nat.reduceMul, Nat.reduceSub, Nat.reduceLT, Int.reduceToNat, Int.reduceLT, Int.reduceLE, Int.reduceEq, Int.reduceAdd, Int.reduceNeg, Int.reduceMul, Int.reduceSub]
  refine xc_dec (fun h9 => ?_) fun h9 => ?_
  · have hi : i < xs.length := by omega
    have hi0 : (0 : Int) ≤ (i : Int) := by omega
    have hi1 : (i : Int).toNat < xs.length := by simpa using hi
    have hw1 : IntKind.i64.wrap ((i : Int) + 1) = ((i + 1 : Nat) : Int) := wrap64 (n := ((i + 1 : Nat) : Int)) (by omega) (by omega)
    have k0 : ∀ T : List Blk, getB (H ++ T) 0 = .row 2 [.agg [v, .str b]] false false := fun T => getB_app hH
    have htk := take_succ_at hi (d := ((0 : Int), (0 : Int)))
    generalize hxi : xs.getD i (0, 0) = x at *
    have hia : ∀ {H : List Blk} {K : V → Prop}, iaK H 2 w (.int .i64 (i : Int)) K = K (.vp [.int .i64 x.1, .int .i64 x.2]) := by
      intro H K
      rw [iaK_slot hw hi0 hi1, Int.toNat_natCast, hxi]
    simp -implicitDefEqProofs (disch := omega) only [h3, h20, h22, hia, k0, mwx, ne_eq, false_implies, implies_true, forall_eq_or_imp, MW.get, ev, evs, argFr, resK, packV, slHK, partsV, partsS, setR, Int.cast_ofNat_Int, Int.natCast_zero, Int.natCast_one, Nat.reduceLeDiff, reduceIte, Nat.reduceEqDiff, Nat.reduceBEq, reduceCtorEq, Nat.reduceAdd, Nat.reduceMul, Nat.reduceSub, Nat.reduceLT, Int.reduceToNat, Int.reduceLT, Int.reduceLE, Int.reduceEq, Int.reduceAdd, Int.reduceNeg, Int.reduceMul, Int.reduceSub]
    refine Does.call (has_fn hv hl x.1 x.2) (fr2 hv.free (slot_free _ _)) ?_
    simp -implicitDefEqProofs (disch := omega) only [mwx, ne_eq, false_implies, implies_true, forall_eq_or_imp, MW.get, ev, evs, argFr, resK, packV, slHK, partsV, partsS, setR, Int.cast_ofNat_Int, Int.natCast_zero, Int.natCast_one, Nat.reduceLeDiff, reduceIte, Nat.reduceEqDiff, Nat.reduceBEq, reduceCtorEq, Nat.reduceAdd, Nat.reduceMul, Nat.reduceSub, Nat.reduceLT, Int.reduceToNat, Int.reduceLT, Int.reduceLE, Int.reduceEq, Int.reduceAdd, Int.reduceNeg, Int.reduceMul, Int.reduceSub]
    refine xc_any (fun hx' => ?_) fun hx' => ?_
    · obtain ⟨s, a, rfl, hs, ha, ha64, hbit⟩ := has_slot hl (x := x) hx'
      obtain ⟨r1, r2, r3⟩ := rd_length hb hs ha
      have hsp := span_fn hv (s := s) (a := a) hs (by omega) (by omega)
      simp -implicitDefEqProofs (disch := omega) only [h3, k0, mwx, ne_eq, false_implies, implies_true, forall_eq_or_imp, MW.get, ev, evs, argFr, resK, packV, slHK, partsV, partsS, setR, Int.cast_ofNat_Int, Int.natCast_zero, Int.natCast_one, Nat.reduceLeDiff, reduceIte, Nat.reduceEqDiff, Nat.reduceBEq, reduceCtorEq, Nat.reduceAdd, Nat.reduceMul, Nat.reduceSub, Nat.reduceLT, Int.reduceToNat, Int.reduceLT, Int.reduceLE, Int.reduceEq, Int.reduceAdd, Int.reduceNeg, Int.reduceMul, Int.reduceSub]
      refine Does.call hsp (fr2 hv.free (slot_free _ _)) ?_
      have w1 : IntKind.i64.wrap (((s * 512 + a * bN (sat l s).1 : Nat) : Int) + (bN (sat l s).1 : Int)) = ((s * 512 + a * bN (sat l s).1 + bN (sat l s).1 : Nat) : Int) := wrap64 (n := ((s * 512 + a * bN (sat l s).1 + bN (sat l s).1 : Nat) : Int)) (by omega) (by omega)
      have hle1 : s * 512 + a * bN (sat l s).1 + bN (sat l s).1 ≤ b.length := r3
      have hle2 : s * 512 + a * bN (sat l s).1 ≤ s * 512 + a * bN (sat l s).1 + bN (sat l s).1 := by omega
      have hrd : (b.drop (s * 512 + a * bN (sat l s).1)).take (s * 512 + a * bN (sat l s).1 + bN (sat l s).1 - (s * 512 + a * bN (sat l s).1)) = rdS l b ((s : Int), (a : Int)) := by
        rw [rdS, r2, Int.toNat_natCast]; congr 1; omega
      have hcat : (xs.take (i + 1)).flatMap (rdS l b) = (xs.take i).flatMap (rdS l b) ++ rdS l b ((s : Int), (a : Int)) := by rw [htk, List.flatMap_append]; simp
      have hbl := bN_le (sat l s).1
      have hsz : ((xs.take i).flatMap (rdS l b)).length + (rdS l b ((s : Int), (a : Int))).length < 2 ^ 63 := by rw [r1]; omega
      simp -implicitDefEqProofs (disch := omega) only [h3, h8, k0, w1, hle1, hle2, hrd, hsz, hw1, h22, mwx, ne_eq, false_implies, implies_true, forall_eq_or_imp, MW.get, ev, evs, argFr, resK, packV, slHK, partsV, partsS, setR, Int.cast_ofNat_Int, Int.natCast_zero, Int.natCast_one, Nat.reduceLeDiff, reduceIte, Nat.reduceEqDiff, Nat.reduceBEq, reduceCtorEq, Nat.reduceAdd, Nat.reduceMul, Nat.reduceSub, Nat.reduceLT, Int.reduceToNat, Int.reduceLT, Int.reduceLE, Int.reduceEq, Int.reduceAdd, Int.reduceNeg, Int.reduceMul, Int.reduceSub]
      exact ⟨k - 1, by omega, hJ _ _ ⟨i + 1, by omega, k0 _, h2, h3, by rw [hcat]; rfl, h20, h21, rfl, fun y hy => by
        rw [htk] at hy
        rcases List.mem_append.1 hy with hy | hy
        · exact hall y hy
        · rw [List.mem_singleton.1 hy]; exact hx', by rw [hcat, List.length_append, r1]; omega⟩⟩
    · simp -implicitDefEqProofs (disch := omega) only [mwx, ne_eq, false_implies, implies_true, forall_eq_or_imp, MW.get, ev, evs, argFr, resK, packV, slHK, partsV, partsS, setR, Int.cast_ofNat_Int, Int.natCast_zero, Int.natCast_one, Nat.reduceLeDiff, reduceIte, Nat.reduceEqDiff, Nat.reduceBEq, reduceCtorEq, Nat.reduceAdd, Nat.reduceMul, Nat.reduceSub, Nat.reduceLT, Int.reduceToNat, Int.reduceLT, Int.reduceLE, Int.reduceEq, Int.reduceAdd, Int.reduceNeg, Int.reduceMul, Int.reduceSub]
      refine fin ?_
      have : xs.all (hasX l) = false := by
        rw [List.all_eq_false]
        refine ⟨x, ?_, by simpa [hasX] using hx'⟩
        rw [← hxi, List.getD_eq_getElem?_getD, List.getElem?_eq_getElem hi]
        exact List.getElem_mem _
      simp [getS, hc, h0, this]
  · have hi : xs.take i = xs := List.take_of_length_le (by omega)
    rw [hi] at h8 hall hlen
    have hall' : xs.all (hasX l) = true := List.all_eq_true.2 hall
    simp -implicitDefEqProofs (disch := omega) only [h2, h8, mwx, ne_eq, false_implies, implies_true, forall_eq_or_imp, MW.get, ev, evs, argFr, resK, packV, slHK, partsV, partsS, setR, Int.cast_ofNat_Int, Int.natCast_zero, Int.natCast_one, Nat.reduceLeDiff, reduceIte, Nat.reduceEqDiff, Nat.reduceBEq, reduceCtorEq, Nat.reduceAdd, Nat.reduceMul, Nat.reduceSub, Nat.reduceLT, Int.reduceToNat, Int.reduceLT, Int.reduceLE, Int.reduceEq, Int.reduceAdd, Int.reduceNeg, Int.reduceMul, Int.reduceSub]
    refine xc_dec (fun h10 => ?_) fun h10 => ?_
    · simp -implicitDefEqProofs (disch := omega) only [mwx, ne_eq, false_implies, implies_true, forall_eq_or_imp, MW.get, ev, evs, argFr, resK, packV, slHK, partsV, partsS, setR, Int.cast_ofNat_Int, Int.natCast_zero, Int.natCast_one, Nat.reduceLeDiff, reduceIte, Nat.reduceEqDiff, Nat.reduceBEq, reduceCtorEq, Nat.reduceAdd, Nat.reduceMul, Nat.reduceSub, Nat.reduceLT, Int.reduceToNat, Int.reduceLT, Int.reduceLE, Int.reduceEq, Int.reduceAdd, Int.reduceNeg, Int.reduceMul, Int.reduceSub]
      exact fin (by unfold getS; rw [if_neg (by simp [hc, h0]), if_neg (by simp [hall']), if_pos h10])
    · have h11 : 0 ≤ size := by omega
      have h12 : size.toNat ≤ (xs.flatMap (rdS l b)).length := by omega
      simp -implicitDefEqProofs (disch := omega) only [h2, h8, h11, h12, mwx, ne_eq, false_implies, implies_true, forall_eq_or_imp, MW.get, ev, evs, argFr, resK, packV, slHK, partsV, partsS, setR, Int.cast_ofNat_Int, Int.natCast_zero, Int.natCast_one, Nat.reduceLeDiff, reduceIte, Nat.reduceEqDiff, Nat.reduceBEq, reduceCtorEq, Nat.reduceAdd, Nat.reduceMul, Nat.reduceSub, Nat.reduceLT, Int.reduceToNat, Int.reduceLT, Int.reduceLE, Int.reduceEq, Int.reduceAdd, Int.reduceNeg, Int.reduceMul, Int.reduceSub]
      exact fin (by unfold getS; rw [if_neg (by simp [hc, h0]), if_neg (by simp [hall']), if_neg h10])

end Go.Proofs.YtlcbogafgdofgaaDoor

/- Store (chapter 12): objects put. -/
namespace Go.Proofs.YtlcbogafgdofgaaDoor
open Go Go.MW
set_option linter.unusedSimpArgs false
set_option linter.unusedVariables false
set_option maxRecDepth 8000

/-- Segments, bytes. -/
abbrev SB := List Sg × List UInt8
/-- Slots of classes taken, one by one, and written. -/
def putL : List Int → List UInt8 → List Sg → List UInt8 → (SB × List (Int × Int)) × Int
  | [], _, l, b => (((l, b), []), 0)
  | c :: cs, d, l, b => if (tak l c).2.2 = 0 then
      (((putL cs (d.drop (min (bN c) d.length)) (tak l c).1 (takB l b c (d.take (min (bN c) d.length)))).1.1, (tak l c).2.1 :: (putL cs (d.drop (min (bN c) d.length)) (tak l c).1 (takB l b c (d.take (min (bN c) d.length)))).1.2),
        (putL cs (d.drop (min (bN c) d.length)) (tak l c).1 (takB l b c (d.take (min (bN c) d.length)))).2)
    else (((l, b), []), (tak l c).2.2)
def putS (l : List Sg) (b d : List UInt8) : (SB × List (Int × Int)) × Int :=
  if chkS l b = false then (((l, b), []), 120) else if d.length < 1 ∨ 4096 < d.length then (((l, b), []), 100) else
    if (putL (cut d.length) d l b).2 = 0 then putL (cut d.length) d l b else (((l, b), []), (putL (cut d.length) d l b).2)

theorem tak_len {l : List Sg} {c : Int} (hl : SegOK l) (hc : chk l = true) : SegOK (tak l c).1 ∧ chk (tak l c).1 = true ∧ (tak l c).1.length = l.length := by
  by_cases h : (tak l c).2.2 = 0
  · obtain ⟨_, _, _, _, b5, b6, b7, _⟩ := back_law hl hc h 0 0
    exact ⟨b6, b5, b7⟩
  · rw [tak_same h]; exact ⟨hl, hc, rfl⟩
theorem takB_length {l : List Sg} {b : List UInt8} {c : Int} {d : List UInt8} (hl : SegOK l) (hc : chk l = true) (hb : b.length = l.length * 512) (hd : d.length ≤ bN c) : (takB l b c d).length = b.length := by
  unfold takB
  split
  · rename_i h
    obtain ⟨j, q, hj, hq, h0, htk, _⟩ := tak_ok hl hc h
    rw [htk]
    refine wrB_length ?_
    simp only [Int.toNat_natCast]
    have h1 : (j + 1) * 512 ≤ l.length * 512 := Nat.mul_le_mul_right _ hj
    have h2 : (q + 1) * bN c ≤ slN c * bN c := Nat.mul_le_mul_right _ hq
    rcases bN_slN c with h3 | ⟨h3, _⟩
    · rw [Nat.add_mul, Nat.one_mul] at h2; omega
    · omega
  · rfl

theorem Desk.aside {H H' : List Blk} {bd br : Nat} {v : V} {b : List UInt8} (h : Desk H bd br v b) {o : V} (k : KeepsBut o H H') (h1 : ¬ hasB o bd) (h2 : ¬ hasB o br) : Desk H' bd br v b :=
  ⟨h.ne, by rw [k.2 _ (getB_lt' h.d) h1]; exact h.d, by rw [k.2 _ (getB_lt' h.r) h2]; exact h.r⟩
theorem Own.aside {sz : Nat} {H H' : List Blk} {bd br : Nat} {o : V} {xs : List V} (h : Own sz H o xs) (k : Aside bd br H H') (h1 : ¬ hasB o bd) (h2 : ¬ hasB o br) : Own sz H' o xs := by
  rcases h with h | ⟨c, cap, opn, rfl, hc, h3⟩
  · exact .inl h
  · exact .inr ⟨c, cap, opn, rfl, by rw [k.2 c (getB_lt' hc) (fun e => h1 e) (fun e => h2 e)]; exact hc, h3⟩

theorem cut_len {n : Int} (h : 1 ≤ n ∧ n ≤ 4096) : (cut n).length ≤ 65 := by
  have := (cut_room h).2
  split at this <;> omega

theorem put_fn {v : V} {l : List Sg} (hv : IsE segE v l) (hl : SegOK l) (hn : l.length < 1099511627776) {b : List UInt8} (hbn : b.length < 2 ^ 62) {d : List UInt8} (hd : d.length < 2 ^ 62) :
    ∃ v' w, IsE segE v' (putS l b d).1.1.1 ∧ IsE slotE w (putS l b d).1.2 ∧ Does Tryd.prog G0 true 12 [.agg [v, .str b], .str d] (.tup [.agg [v', .str (putS l b d).1.1.2], w, .int .i64 (putS l b d).2]) := by
  obtain ⟨vo, hvo, down⟩ := own_fn hv (by omega) b
  by_cases hc : chkS l b = true
  rotate_left
  · have hc : chkS l b = false := by simpa using hc
    have hp : putS l b d = (((l, b), []), 120) := by simp [putS, hc]
    rw [hp]
    refine ⟨vo, .nils, hvo, isE_nil, ?_⟩
    refine Does.intro mixed comp12 ?_
    unfold c12
    simp -implicitDefEqProofs (disch := omega) only [mwx, ne_eq, false_implies, implies_true, forall_eq_or_imp, MW.get, ev, evs, argFr, resK, packV, slHK, partsV, partsS, setR, Int.cast_ofNat_Int, Int.natCast_zero, Int.natCast_one, Nat.reduceLeDiff, reduceIte, Nat.reduceEqDiff, Nat.reduceBEq, reduceCtorEq, Nat.reduceAdd, Nat.reduceMul, Nat.reduceSub, Nat.reduceLT, Int.reduceToNat, Int.reduceLT, Int.reduceLE, Int.reduceEq, Int.reduceAdd, Int.reduceNeg, Int.reduceMul, Int.reduceSub]
    refine Does.call (chkS_fn hv hl (by omega) hbn) (fr1 (store_free hv b)) ?_
    simp -implicitDefEqProofs (disch := omega) only [hc, mwx, ne_eq, false_implies, implies_true, forall_eq_or_imp, MW.get, ev, evs, argFr, resK, packV, slHK, partsV, partsS, setR, Int.cast_ofNat_Int, Int.natCast_zero, Int.natCast_one, Nat.reduceLeDiff, reduceIte, Nat.reduceEqDiff, Nat.reduceBEq, reduceCtorEq, Nat.reduceAdd, Nat.reduceMul, Nat.reduceSub, Nat.reduceLT, Int.reduceToNat, Int.reduceLT, Int.reduceLE, Int.reduceEq, Int.reduceAdd, Int.reduceNeg, Int.reduceMul, Int.reduceSub]
    refine Does.call down (fr1 (store_free hv b)) ?_
    have hgd : (∀ c ∈ [vo, .str b], c.one = true) = True := eq_true (by
      intro c hc
      simp only [List.mem_cons, List.not_mem_nil, or_false] at hc
      rcases hc with rfl | rfl
      · exact (isE_one hvo).2.2
      · rfl)
    simp -implicitDefEqProofs (disch := omega) only [hgd, (isE_one hvo).2.2, mwx, ne_eq, false_implies, implies_true, forall_eq_or_imp, MW.get, ev, evs, argFr, resK, packV, slHK, partsV, partsS, setR, Int.cast_ofNat_Int, Int.natCast_zero, Int.natCast_one, Nat.reduceLeDiff, reduceIte, Nat.reduceEqDiff, Nat.reduceBEq, reduceCtorEq, Nat.reduceAdd, Nat.reduceMul, Nat.reduceSub, Nat.reduceLT, Int.reduceToNat, Int.reduceLT, Int.reduceLE, Int.reduceEq, Int.reduceAdd, Int.reduceNeg, Int.reduceMul, Int.reduceSub]
    exact frz_tup3 (frz_store hvo hvo.free b) (.free .nils) (frz_int rfl)
  obtain ⟨hc1, hb, hz⟩ := chkS_of hc
  have hn2 := chk_len hc1
  have hgd : (∀ c ∈ [vo, .str b], c.one = true) = True := eq_true (by
    intro c hc
    simp only [List.mem_cons, List.not_mem_nil, or_false] at hc
    rcases hc with rfl | rfl
    · exact (isE_one hvo).2.2
    · rfl)
  by_cases hsz : d.length < 1 ∨ 4096 < d.length
  · have hp : putS l b d = (((l, b), []), 100) := by unfold putS; rw [if_neg (by simp [hc]), if_pos hsz]
    rw [hp]
    refine ⟨vo, .nils, hvo, isE_nil, ?_⟩
    refine Does.intro mixed comp12 ?_
    unfold c12
    simp -implicitDefEqProofs (disch := omega) only [mwx, ne_eq, false_implies, implies_true, forall_eq_or_imp, MW.get, ev, evs, argFr, resK, packV, slHK, partsV, partsS, setR, Int.cast_ofNat_Int, Int.natCast_zero, Int.natCast_one, Nat.reduceLeDiff, reduceIte, Nat.reduceEqDiff, Nat.reduceBEq, reduceCtorEq, Nat.reduceAdd, Nat.reduceMul, Nat.reduceSub, Nat.reduceLT, Int.reduceToNat, Int.reduceLT, Int.reduceLE, Int.reduceEq, Int.reduceAdd, Int.reduceNeg, Int.reduceMul, Int.reduceSub]
    refine Does.call (chkS_fn hv hl (by omega) hbn) (fr1 (store_free hv b)) ?_
    simp -implicitDefEqProofs (disch := omega) only [hc, mwx, ne_eq, false_implies, implies_true, forall_eq_or_imp, MW.get, ev, evs, argFr, resK, packV, slHK, partsV, partsS, setR, Int.cast_ofNat_Int, Int.natCast_zero, Int.natCast_one, Nat.reduceLeDiff, reduceIte, Nat.reduceEqDiff, Nat.reduceBEq, reduceCtorEq, Nat.reduceAdd, Nat.reduceMul, Nat.reduceSub, Nat.reduceLT, Int.reduceToNat, Int.reduceLT, Int.reduceLE, Int.reduceEq, Int.reduceAdd, Int.reduceNeg, Int.reduceMul, Int.reduceSub]
    refine Does.call (cut_bad d.length (by omega)) (fr1 (.int _ _)) ?_
    simp -implicitDefEqProofs (disch := omega) only [mwx, ne_eq, false_implies, implies_true, forall_eq_or_imp, MW.get, ev, evs, argFr, resK, packV, slHK, partsV, partsS, setR, Int.cast_ofNat_Int, Int.natCast_zero, Int.natCast_one, Nat.reduceLeDiff, reduceIte, Nat.reduceEqDiff, Nat.reduceBEq, reduceCtorEq, Nat.reduceAdd, Nat.reduceMul, Nat.reduceSub, Nat.reduceLT, Int.reduceToNat, Int.reduceLT, Int.reduceLE, Int.reduceEq, Int.reduceAdd, Int.reduceNeg, Int.reduceMul, Int.reduceSub]
    refine Does.call down (fr1 (store_free hv b)) ?_
    simp -implicitDefEqProofs (disch := omega) only [hgd, (isE_one hvo).2.2, mwx, ne_eq, false_implies, implies_true, forall_eq_or_imp, MW.get, ev, evs, argFr, resK, packV, slHK, partsV, partsS, setR, Int.cast_ofNat_Int, Int.natCast_zero, Int.natCast_one, Nat.reduceLeDiff, reduceIte, Nat.reduceEqDiff, Nat.reduceBEq, reduceCtorEq, Nat.reduceAdd, Nat.reduceMul, Nat.reduceSub, Nat.reduceLT, Int.reduceToNat, Int.reduceLT, Int.reduceLE, Int.reduceEq, Int.reduceAdd, Int.reduceNeg, Int.reduceMul, Int.reduceSub]
    exact frz_tup3 (frz_store hvo hvo.free b) (.free .nils) (frz_int rfl)
  have hcut := cut_len (n := d.length) (by omega)
  have hp : putS l b d = if (putL (cut d.length) d l b).2 = 0 then putL (cut d.length) d l b else (((l, b), []), (putL (cut d.length) d l b).2) := by unfold putS; rw [if_neg (by simp [hc]), if_neg hsz]
  generalize hcs : cut (d.length : Int) = cs at *
  obtain ⟨r, H0, hsim, bd, br, v', rfl, hv', hD, hk, hbd, hbr⟩ := of_sim hv (by omega) b ([] ++ [.row 2 [.agg [v, .str b]] false false] ++ [.row 2 [.agg [.nils, .str []]] false false])
  simp only [List.nil_append, List.cons_append, List.length_cons, List.length_nil, Nat.zero_add] at hsim hk hbd hbr
  have key : SimX Tryd.prog G0 12 [.agg [v, .str b], .str d] [] fun r H => ∃ x : V × V, (IsE segE x.1 (putS l b d).1.1.1 ∧ IsE slotE x.2 (putS l b d).1.2) ∧ Frz true H r (.tup [.agg [x.1, .str (putS l b d).1.1.2], x.2, .int .i64 (putS l b d).2]) := by
    refine SimX.intro mixed comp12 ?_
    unfold c12
    have hcf := cut_fn d.length (by omega)
    rw [hcs] at hcf
    simp -implicitDefEqProofs (disch := omega) only [mwx, ne_eq, false_implies, implies_true, forall_eq_or_imp, MW.get, ev, evs, argFr, resK, packV, slHK, partsV, partsS, setR, Int.cast_ofNat_Int, Int.natCast_zero, Int.natCast_one, Nat.reduceLeDiff, reduceIte, Nat.reduceEqDiff, Nat.reduceBEq, reduceCtorEq, Nat.reduceAdd, Nat.reduceMul, Nat.reduceSub, Nat.reduceLT, Int.reduceToNat, Int.reduceLT, Int.reduceLE, Int.reduceEq, Int.reduceAdd, Int.reduceNeg, Int.reduceMul, Int.reduceSub]
    refine Does.call (chkS_fn hv hl (by omega) hbn) (fr1 (store_free hv b)) ?_
    simp -implicitDefEqProofs (disch := omega) only [hc, mwx, ne_eq, false_implies, implies_true, forall_eq_or_imp, MW.get, ev, evs, argFr, resK, packV, slHK, partsV, partsS, setR, Int.cast_ofNat_Int, Int.natCast_zero, Int.natCast_one, Nat.reduceLeDiff, reduceIte, Nat.reduceEqDiff, Nat.reduceBEq, reduceCtorEq, Nat.reduceAdd, Nat.reduceMul, Nat.reduceSub, Nat.reduceLT, Int.reduceToNat, Int.reduceLT, Int.reduceLE, Int.reduceEq, Int.reduceAdd, Int.reduceNeg, Int.reduceMul, Int.reduceSub]
    refine Does.call hcf (fr1 (.int _ _)) ?_
    simp -implicitDefEqProofs (disch := omega) only [mwx, ne_eq, false_implies, implies_true, forall_eq_or_imp, MW.get, ev, evs, argFr, resK, packV, slHK, partsV, partsS, setR, Int.cast_ofNat_Int, Int.natCast_zero, Int.natCast_one, Nat.reduceLeDiff, reduceIte, Nat.reduceEqDiff, Nat.reduceBEq, reduceCtorEq, Nat.reduceAdd, Nat.reduceMul, Nat.reduceSub, Nat.reduceLT, Int.reduceToNat, Int.reduceLT, Int.reduceLE, Int.reduceEq, Int.reduceAdd, Int.reduceNeg, Int.reduceMul, Int.reduceSub]
    refine callK_sim hsim ?_
    simp -implicitDefEqProofs (disch := omega) only [mwx, ne_eq, false_implies, implies_true, forall_eq_or_imp, MW.get, ev, evs, argFr, resK, packV, slHK, partsV, partsS, setR, Int.cast_ofNat_Int, Int.natCast_zero, Int.natCast_one, Nat.reduceLeDiff, reduceIte, Nat.reduceEqDiff, Nat.reduceBEq, reduceCtorEq, Nat.reduceAdd, Nat.reduceMul, Nat.reduceSub, Nat.reduceLT, Int.reduceToNat, Int.reduceLT, Int.reduceLE, Int.reduceEq, Int.reduceAdd, Int.reduceNeg, Int.reduceMul, Int.reduceSub]
    refine xl_loop (fun k st => ∃ (i : Nat) (li : List Sg) (bi di : List UInt8) (xs : List (Int × Int)) (vi o : V), k + i = cs.length ∧ IsE segE vi li ∧ SegOK li ∧ chk li = true ∧ li.length = l.length ∧ bi.length = b.length ∧ di.length ≤ d.length ∧ xs.length = i ∧ Desk st.H bd br vi bi ∧ Own 2 st.H o (slotE.vs xs) ∧ ¬ hasB o bd ∧ ¬ hasB o br ∧ ¬ hasB o 0 ∧ ¬ hasB o 1 ∧
        getB st.H 0 = .row 2 [.agg [v, .str b]] false false ∧ getB st.H 1 = .row 2 [.agg [.nils, .str []]] false false ∧
        putL cs d l b = (((putL (cs.drop i) di li bi).1.1, xs ++ (putL (cs.drop i) di li bi).1.2), (putL (cs.drop i) di li bi).2) ∧
        get st.fr 1 = .str di ∧ get st.fr 2 = .ptr 0 1 0 0 ∧ get st.fr 4 = .ptr 1 1 0 0 ∧ get st.fr 9 = .ptr bd 1 0 0 ∧ get st.fr 10 = .fn (.func 32) [.ptr bd 1 0 0] [] ∧ get st.fr 11 = o ∧ get st.fr 37 = .vs (ints cs) ∧ get st.fr 38 = .int .i64 cs.length ∧ get st.fr 39 = .int .i64 i) cs.length
      ⟨0, l, b, d, [], v', .nils, by omega, hv', hl, hc1, rfl, rfl, by omega, rfl, hD, .nil _ _, fun h => h, fun h => h, fun h => h, fun h => h, by rw [hk.2 0 (by simp)]; rfl, by rw [hk.2 1 (by simp)]; rfl, by simp, rfl, rfl, rfl, rfl, rfl, rfl, rfl, rfl, rfl⟩ ?_
    rintro J hJ k fr H ⟨i, li, bi, di, xs, vi, o, k1, iv, hli, hci, hll, hbl, hdl, hxl, hDi, hO, n1, n2, n3, n4, b0, b1, hput, h1, h2, h4, h9, h10, h11, h37, h38, h39⟩
    simp -implicitDefEqProofs (disch := omega) only [h38, h39, mwx, ne_eq, false_implies, implies_true, forall_eq_or_imp, MW.get, ev, evs, argFr, resK, packV, slHK, partsV, partsS, setR, Int.cast_ofNat_Int, Int.natCast_zero, Int.natCast_one, Nat.reduceLeDiff, reduceIte, Nat.reduceEqDiff, Nat.reduceBEq, reduceCtorEq, Nat.reduceAdd, Nat.reduceMul, Nat.reduceSub, Nat.reduceLT, Int.reduceToNat, Int.reduceLT, Int.reduceLE, Int.reduceEq, Int.reduceAdd, Int.reduceNeg, Int.reduceMul, Int.reduceSub]
    refine xc_dec (fun h12 => ?_) fun h12 => ?_
    · have hi : i < cs.length := by omega
      have hi0 : (0 : Int) ≤ (i : Int) := by omega
      have hbd := getB_lt' hDi.d
      have hbr := getB_lt' hDi.r
      have hl0 := getB_lt' b0
      have hl1 := getB_lt' b1
      have hdr : cs.drop i = cs.getD i 0 :: cs.drop (i + 1) := by
        rw [List.drop_eq_getElem_cons hi, List.getD_eq_getElem?_getD, List.getElem?_eq_getElem hi]; rfl
      rw [hdr] at hput
      simp only [putL] at hput
      have hw1 : IntKind.i64.wrap ((i : Int) + 1) = ((i + 1 : Nat) : Int) := wrap64 (n := ((i + 1 : Nat) : Int)) (by omega) (by omega)
      simp -implicitDefEqProofs (disch := omega) only [h37, h39, hi, mwx, ne_eq, false_implies, implies_true, forall_eq_or_imp, MW.get, ev, evs, argFr, resK, packV, slHK, partsV, partsS, setR, Int.cast_ofNat_Int, Int.natCast_zero, Int.natCast_one, Nat.reduceLeDiff, reduceIte, Nat.reduceEqDiff, Nat.reduceBEq, reduceCtorEq, Nat.reduceAdd, Nat.reduceMul, Nat.reduceSub, Nat.reduceLT, Int.reduceToNat, Int.reduceLT, Int.reduceLE, Int.reduceEq, Int.reduceAdd, Int.reduceNeg, Int.reduceMul, Int.reduceSub]
      refine Does.call (bytes_fn _) (fr1 (.int _ _)) ?_
      have hia : cs.getD i 0 = cs.getD i 0 := rfl
      generalize cs.getD i 0 = c at *
      have hmin : (if (di.length : Int) < (bN c : Int) then (di.length : Int) else (bN c : Int)) = ((min (bN c) di.length : Nat) : Int) := by split <;> omega
      have hle : min (bN c) di.length ≤ di.length := Nat.min_le_right _ _
      have hle2 : (di.take (min (bN c) di.length)).length ≤ bN c := by rw [List.length_take]; omega
      generalize hm : min (bN c) di.length = m at *
      simp -implicitDefEqProofs (disch := omega) only [h1, h10, bN_byts, hmin, hle, callvK_of bodied32, mwx, ne_eq, false_implies, implies_true, forall_eq_or_imp, MW.get, ev, evs, argFr, resK, packV, slHK, partsV, partsS, setR, Int.cast_ofNat_Int, Int.natCast_zero, Int.natCast_one, Nat.reduceLeDiff, reduceIte, Nat.reduceEqDiff, Nat.reduceBEq, reduceCtorEq, Nat.reduceAdd, Nat.reduceMul, Nat.reduceSub, Nat.reduceLT, Int.reduceToNat, Int.reduceLT, Int.reduceLE, Int.reduceEq, Int.reduceAdd, Int.reduceNeg, Int.reduceMul, Int.reduceSub]
      refine (take_sim hDi iv hli hci (by omega) c (di.take m) hle2).call fun r H' hr => ?_
      obtain ⟨v'', iv', rfl, hD', hA⟩ := hr
      have b0' : ∀ T : List Blk, getB (H' ++ T) 0 = .row 2 [.agg [v, .str b]] false false := fun T => by
        rw [getB_app' (Nat.lt_of_lt_of_le hl0 hA.1), hA.2 0 hl0 (by omega) (by omega)]; exact b0
      have b1' : ∀ T : List Blk, getB (H' ++ T) 1 = .row 2 [.agg [.nils, .str []]] false false := fun T => by
        rw [getB_app' (Nat.lt_of_lt_of_le hl1 hA.1), hA.2 1 hl1 (by omega) (by omega)]; exact b1
      simp -implicitDefEqProofs (disch := omega) only [mwx, ne_eq, false_implies, implies_true, forall_eq_or_imp, MW.get, ev, evs, argFr, resK, packV, slHK, partsV, partsS, setR, Int.cast_ofNat_Int, Int.natCast_zero, Int.natCast_one, Nat.reduceLeDiff, reduceIte, Nat.reduceEqDiff, Nat.reduceBEq, reduceCtorEq, Nat.reduceAdd, Nat.reduceMul, Nat.reduceSub, Nat.reduceLT, Int.reduceToNat, Int.reduceLT, Int.reduceLE, Int.reduceEq, Int.reduceAdd, Int.reduceNeg, Int.reduceMul, Int.reduceSub]
      refine xc_dec (fun he => ?_) fun he => ?_
      rotate_left
      · have he' : ¬ (tak li c).2.2 = 0 := by simpa using he
        rw [if_neg he'] at hput
        have hps : putS l b d = (((l, b), []), (tak li c).2.2) := by rw [hp, hput, if_neg he']
        simp -implicitDefEqProofs (disch := omega) only [h2, b0', he, mwx, ne_eq, false_implies, implies_true, forall_eq_or_imp, MW.get, ev, evs, argFr, resK, packV, slHK, partsV, partsS, setR, Int.cast_ofNat_Int, Int.natCast_zero, Int.natCast_one, Nat.reduceLeDiff, reduceIte, Nat.reduceEqDiff, Nat.reduceBEq, reduceCtorEq, Nat.reduceAdd, Nat.reduceMul, Nat.reduceSub, Nat.reduceLT, Int.reduceToNat, Int.reduceLT, Int.reduceLE, Int.reduceEq, Int.reduceAdd, Int.reduceNeg, Int.reduceMul, Int.reduceSub]
        refine Does.call down (fr1 (store_free hv b)) ?_
        have hlt : 1 < (H' ++ [Blk.row 2 [.agg [.int .i64 (tak li c).2.1.1, .int .i64 (tak li c).2.1.2]] false false]).length := by simp; have := hA.1; omega
        simp -implicitDefEqProofs (disch := omega) only [h4, b1', hgd, (isE_one hvo).2.2, getB_set _ hlt, mwx, ne_eq, false_implies, implies_true, forall_eq_or_imp, MW.get, ev, evs, argFr, resK, packV, slHK, partsV, partsS, setR, Int.cast_ofNat_Int, Int.natCast_zero, Int.natCast_one, Nat.reduceLeDiff, reduceIte, Nat.reduceEqDiff, Nat.reduceBEq, reduceCtorEq, Nat.reduceAdd, Nat.reduceMul, Nat.reduceSub, Nat.reduceLT, Int.reduceToNat, Int.reduceLT, Int.reduceLE, Int.reduceEq, Int.reduceAdd, Int.reduceNeg, Int.reduceMul, Int.reduceSub]
        rw [hps]
        exact ⟨(vo, .nils), ⟨hvo, isE_nil⟩, frz_tup3 (frz_store hvo hvo.free b) (.free .nils) (frz_int rfl)⟩
      rw [if_pos he] at hput
      obtain ⟨t1, t2, t3⟩ := tak_len hli hci (c := c)
      have htB := takB_length (b := bi) hli hci (by omega) hle2
      have hO' : Own 2 (H' ++ [.row 2 [.agg [.int .i64 (tak li c).2.1.1, .int .i64 (tak li c).2.1.2]] false false, .row 2 [.agg [.int .i64 (tak li c).2.1.1, .int .i64 (tak li c).2.1.2]] false false]) o (slotE.vs xs) := (Own.aside hO hA n1 n2).keep (.app _ _)
      have hD2 := hD'.keep (.app H' [.row 2 [.agg [.int .i64 (tak li c).2.1.1, .int .i64 (tak li c).2.1.2]] false false, .row 2 [.agg [.int .i64 (tak li c).2.1.1, .int .i64 (tak li c).2.1.2]] false false])
      simp -implicitDefEqProofs (disch := omega) only [h11, List.length_append, getB_plus, getB_plus0, mwx, ne_eq, false_implies, implies_true, forall_eq_or_imp, MW.get, ev, evs, argFr, resK, packV, slHK, partsV, partsS, setR, Int.cast_ofNat_Int, Int.natCast_zero, Int.natCast_one, Nat.reduceLeDiff, reduceIte, Nat.reduceEqDiff, Nat.reduceBEq, reduceCtorEq, Nat.reduceAdd, Nat.reduceMul, Nat.reduceSub, Nat.reduceLT, Int.reduceToNat, Int.reduceLT, Int.reduceLE, Int.reduceEq, Int.reduceAdd, Int.reduceNeg, Int.reduceMul, Int.reduceSub]
      refine hO'.appS (El.vs_goods _) (El.vs_goods (e := slotE) [(tak li c).2.1]) (roomy_of (by simp [El.vs_length]; omega) (by decide)) fun o' H5 hO5 hK hN => ?_
      simp -implicitDefEqProofs (disch := omega) only [h1, h39, hw1, hle, mwx, ne_eq, false_implies, implies_true, forall_eq_or_imp, MW.get, ev, evs, argFr, resK, packV, slHK, partsV, partsS, setR, Int.cast_ofNat_Int, Int.natCast_zero, Int.natCast_one, Nat.reduceLeDiff, reduceIte, Nat.reduceEqDiff, Nat.reduceBEq, reduceCtorEq, Nat.reduceAdd, Nat.reduceMul, Nat.reduceSub, Nat.reduceLT, Int.reduceToNat, Int.reduceLT, Int.reduceLE, Int.reduceEq, Int.reduceAdd, Int.reduceNeg, Int.reduceMul, Int.reduceSub]
      have q0 : H.length ≤ H'.length := hA.1
      have lt5 : ∀ x, x < H.length → ¬ hasB o x → ¬ hasB o' x := fun x hx hn hh => by
        rcases hN x hh with h | h
        · exact hn h
        · simp at h; omega
      refine ⟨k - 1, by omega, hJ _ _ ⟨i + 1, _, _, di.drop m, xs ++ [(tak li c).2.1], v'', o', by omega, iv', t1, t2, by omega, by omega, by simp; omega, by simp; omega, hD2.aside hK n1 n2, ?_, lt5 _ hbd n1, lt5 _ hbr n2, lt5 _ hl0 n3, lt5 _ hl1 n4, ?_, ?_, ?_, ?_, h2, h4, h9, h10, rfl, h37, h38, rfl⟩⟩
      · show Own 2 H5 o' (slotE.vs (xs ++ [(tak li c).2.1]))
        rw [← El.vs_append]
        exact hO5
      · rw [hK.2 0 (by simp) n3]; exact b0' _
      · rw [hK.2 1 (by simp) n4]; exact b1' _
      · rw [hput]; simp
      · show V.str _ = V.str _
        congr 1
        exact List.take_of_length_le (by simp)
    · have hd0 : cs.drop i = [] := List.drop_of_length_le (by omega)
      rw [hd0] at hput
      simp only [putL, List.append_nil] at hput
      have hps : putS l b d = (((li, bi), xs), 0) := by rw [hp, hput, if_pos rfl]
      simp -implicitDefEqProofs (disch := omega) only [h9, mwx, ne_eq, false_implies, implies_true, forall_eq_or_imp, MW.get, ev, evs, argFr, resK, packV, slHK, partsV, partsS, setR, Int.cast_ofNat_Int, Int.natCast_zero, Int.natCast_one, Nat.reduceLeDiff, reduceIte, Nat.reduceEqDiff, Nat.reduceBEq, reduceCtorEq, Nat.reduceAdd, Nat.reduceMul, Nat.reduceSub, Nat.reduceLT, Int.reduceToNat, Int.reduceLT, Int.reduceLE, Int.reduceEq, Int.reduceAdd, Int.reduceNeg, Int.reduceMul, Int.reduceSub]
      refine (store_sim hDi (isE_one iv)).call fun r H' hr => ?_
      obtain ⟨rfl, hk2⟩ := hr
      have b1' : getB H' 1 = .row 2 [.agg [.nils, .str []]] false false := by rw [hk2.2 1 (getB_lt' b1)]; exact b1
      have hgd2 : (∀ c ∈ [vi, .str bi], c.one = true) = True := eq_true (by
        intro c hc
        simp only [List.mem_cons, List.not_mem_nil, or_false] at hc
        rcases hc with rfl | rfl
        · exact (isE_one iv).2.2
        · rfl)
      have hlt := getB_lt' b1'
      simp -implicitDefEqProofs (disch := omega) only [h4, h11, b1', hgd2, (isE_one iv).2.2, getB_set _ hlt, mwx, ne_eq, false_implies, implies_true, forall_eq_or_imp, MW.get, ev, evs, argFr, resK, packV, slHK, partsV, partsS, setR, Int.cast_ofNat_Int, Int.natCast_zero, Int.natCast_one, Nat.reduceLeDiff, reduceIte, Nat.reduceEqDiff, Nat.reduceBEq, reduceCtorEq, Nat.reduceAdd, Nat.reduceMul, Nat.reduceSub, Nat.reduceLT, Int.reduceToNat, Int.reduceLT, Int.reduceLE, Int.reduceEq, Int.reduceAdd, Int.reduceNeg, Int.reduceMul, Int.reduceSub]
      rw [hps]
      have hO2 : Own 2 (H'.set 1 (.row 2 [.agg [vi, .str bi]] false false)) o (slotE.vs xs) := by
        have h1 := hO.keep hk2
        rcases h1 with h1 | ⟨c, cap, opn, rfl, hc, h3⟩
        · exact .inl h1
        · exact .inr ⟨c, cap, opn, rfl, by rw [getB_set_ne _ (fun e => n4 e.symm)]; exact hc, h3⟩
      obtain ⟨w, hw, hfw⟩ := hO2.isE (im := true) (e := slotE) rfl (by decide)
      exact ⟨(vi, w), ⟨iv, hw⟩, frz_tup3 (frz_store iv iv.free bi) hfw (frz_int rfl)⟩
  obtain ⟨x, ⟨h1, h2⟩, h3⟩ := Does.ofX key
  exact ⟨x.1, x.2, h1, h2, h3⟩

end Go.Proofs.YtlcbogafgdofgaaDoor

/- Store (chapter 12): objects dropped. -/
namespace Go.Proofs.YtlcbogafgdofgaaDoor
open Go Go.MW
set_option linter.unusedSimpArgs false
set_option linter.unusedVariables false
set_option maxRecDepth 8000

/-- The bytes without a slot's. -/
def clrX (l : List Sg) (b : List UInt8) (x : Int × Int) : List UInt8 := wrB b (beg l x) (List.replicate (bN (sat l x.1.toNat).1) 0)
def dropL : List (Int × Int) → List Sg → List UInt8 → SB × Int
  | [], l, b => ((l, b), 0)
  | x :: xs, l, b => if hasX l x = true then dropL xs (fre l x.1 x.2).1 (clrX l b x) else ((l, b), 120)
def dropS (l : List Sg) (b : List UInt8) (xs : List (Int × Int)) : SB × Int :=
  if chkS l b = false then ((l, b), 120) else if (dropL xs l b).2 = 0 then dropL xs l b else ((l, b), 120)
theorem dropL_err : ∀ (xs : List (Int × Int)) (l : List Sg) (b : List UInt8), (dropL xs l b).2 = 0 ∨ (dropL xs l b).2 = 120
  | [], _, _ => .inl rfl
  | x :: xs, l, b => by
    unfold dropL
    split
    · exact dropL_err xs _ _
    · exact .inr rfl

theorem clrX_length {l : List Sg} {b : List UInt8} (hl : SegOK l) (hb : b.length = l.length * 512) {x : Int × Int} (h : hasX l x = true) : (clrX l b x).length = b.length := by
  obtain ⟨s, a, rfl, hs, ha, _, _⟩ := has_slot hl h
  obtain ⟨r1, r2, r3⟩ := rd_length hb hs ha
  refine wrB_length ?_
  rw [r2, List.length_replicate, Int.toNat_natCast]
  exact r3

theorem drop_fn {v : V} {l : List Sg} (hv : IsE segE v l) (hl : SegOK l) (hn : l.length < 1099511627776) {b : List UInt8} (hbn : b.length < 2 ^ 62) {w : V} {xs : List (Int × Int)} (hw : IsE slotE w xs) (hx : xs.length < 2 ^ 40) :
    ∃ v', IsE segE v' (dropS l b xs).1.1 ∧ Does Tryd.prog G0 true 15 [.agg [v, .str b], w] (.tup [.agg [v', .str (dropS l b xs).1.2], .int .i64 (dropS l b xs).2]) := by
  obtain ⟨vo, hvo, down⟩ := own_fn hv (by omega) b
  have hgd : (∀ c ∈ [vo, .str b], c.one = true) = True := eq_true (by
    intro c hc
    simp only [List.mem_cons, List.not_mem_nil, or_false] at hc
    rcases hc with rfl | rfl
    · exact (isE_one hvo).2.2
    · rfl)
  by_cases hc : chkS l b = true
  rotate_left
  · have hc : chkS l b = false := by simpa using hc
    have hp : dropS l b xs = ((l, b), 120) := by simp [dropS, hc]
    rw [hp]
    refine ⟨vo, hvo, ?_⟩
    refine Does.intro mixed comp15 ?_
    unfold c15
    simp -implicitDefEqProofs (disch := omega) only [mwx, ne_eq, false_implies, implies_true, forall_eq_or_imp, MW.get, ev, evs, argFr, resK, packV, slHK, partsV, partsS, setR, Int.cast_ofNat_Int, Int.natCast_zero, Int.natCast_one, Nat.reduceLeDiff, reduceIte, Nat.reduceEqDiff, Nat.reduceBEq, reduceCtorEq, Nat.reduceAdd, Nat.reduceMul, Nat.reduceSub, Nat.reduceLT, Int.reduceToNat, Int.reduceLT, Int.reduceLE, Int.reduceEq, Int.reduceAdd, Int.reduceNeg, Int.reduceMul, Int.reduceSub]
    refine Does.call (chkS_fn hv hl (by omega) hbn) (fr1 (store_free hv b)) ?_
    simp -implicitDefEqProofs (disch := omega) only [hc, mwx, ne_eq, false_implies, implies_true, forall_eq_or_imp, MW.get, ev, evs, argFr, resK, packV, slHK, partsV, partsS, setR, Int.cast_ofNat_Int, Int.natCast_zero, Int.natCast_one, Nat.reduceLeDiff, reduceIte, Nat.reduceEqDiff, Nat.reduceBEq, reduceCtorEq, Nat.reduceAdd, Nat.reduceMul, Nat.reduceSub, Nat.reduceLT, Int.reduceToNat, Int.reduceLT, Int.reduceLE, Int.reduceEq, Int.reduceAdd, Int.reduceNeg, Int.reduceMul, Int.reduceSub]
    refine Does.call down (fr1 (store_free hv b)) ?_
    simp -implicitDefEqProofs (disch := omega) only [hgd, (isE_one hvo).2.2, mwx, ne_eq, false_implies, implies_true, forall_eq_or_imp, MW.get, ev, evs, argFr, resK, packV, slHK, partsV, partsS, setR, Int.cast_ofNat_Int, Int.natCast_zero, Int.natCast_one, Nat.reduceLeDiff, reduceIte, Nat.reduceEqDiff, Nat.reduceBEq, reduceCtorEq, Nat.reduceAdd, Nat.reduceMul, Nat.reduceSub, Nat.reduceLT, Int.reduceToNat, Int.reduceLT, Int.reduceLE, Int.reduceEq, Int.reduceAdd, Int.reduceNeg, Int.reduceMul, Int.reduceSub]
    exact frz_tup2 (frz_store hvo hvo.free b) (frz_int rfl)
  obtain ⟨hc1, hb, hz⟩ := chkS_of hc
  have hn2 := chk_len hc1
  have hp : dropS l b xs = if (dropL xs l b).2 = 0 then dropL xs l b else ((l, b), 120) := by unfold dropS; rw [if_neg (by simp [hc])]
  obtain ⟨r, H0, hsim, bd, br, v', rfl, hv', hD, hk, hbd, hbr⟩ := of_sim hv (by omega) b ([] ++ [.row 2 [.agg [v, .str b]] false false] ++ [.row 2 [.agg [.nils, .str []]] false false])
  simp only [List.nil_append, List.cons_append, List.length_cons, List.length_nil, Nat.zero_add] at hsim hk hbd hbr
  have key : SimX Tryd.prog G0 15 [.agg [v, .str b], w] [] fun r H => ∃ x : V, IsE segE x (dropS l b xs).1.1 ∧ Frz true H r (.tup [.agg [x, .str (dropS l b xs).1.2], .int .i64 (dropS l b xs).2]) := by
    refine SimX.intro mixed comp15 ?_
    unfold c15
    simp -implicitDefEqProofs (disch := omega) only [mwx, ne_eq, false_implies, implies_true, forall_eq_or_imp, MW.get, ev, evs, argFr, resK, packV, slHK, partsV, partsS, setR, Int.cast_ofNat_Int, Int.natCast_zero, Int.natCast_one, Nat.reduceLeDiff, reduceIte, Nat.reduceEqDiff, Nat.reduceBEq, reduceCtorEq, Nat.reduceAdd, Nat.reduceMul, Nat.reduceSub, Nat.reduceLT, Int.reduceToNat, Int.reduceLT, Int.reduceLE, Int.reduceEq, Int.reduceAdd, Int.reduceNeg, Int.reduceMul, Int.reduceSub]
    refine Does.call (chkS_fn hv hl (by omega) hbn) (fr1 (store_free hv b)) ?_
    simp -implicitDefEqProofs (disch := omega) only [hc, mwx, ne_eq, false_implies, implies_true, forall_eq_or_imp, MW.get, ev, evs, argFr, resK, packV, slHK, partsV, partsS, setR, Int.cast_ofNat_Int, Int.natCast_zero, Int.natCast_one, Nat.reduceLeDiff, reduceIte, Nat.reduceEqDiff, Nat.reduceBEq, reduceCtorEq, Nat.reduceAdd, Nat.reduceMul, Nat.reduceSub, Nat.reduceLT, Int.reduceToNat, Int.reduceLT, Int.reduceLE, Int.reduceEq, Int.reduceAdd, Int.reduceNeg, Int.reduceMul, Int.reduceSub]
    refine callK_sim hsim ?_
    simp -implicitDefEqProofs (disch := omega) only [lenK_isE hw, mwx, ne_eq, false_implies, implies_true, forall_eq_or_imp, MW.get, ev, evs, argFr, resK, packV, slHK, partsV, partsS, setR, Int.cast_ofNat_Int, Int.natCast_zero, Int.natCast_one, Nat.reduceLeDiff, reduceIte, Nat.reduceEqDiff, Nat.reduceBEq, reduceCtorEq, Nat.reduceAdd, Nat.reduceMul, Nat.reduceSub, Nat.reduceLT, Int.reduceToNat, Int.reduceLT, Int.reduceLE, Int.reduceEq, Int.reduceAdd, Int.reduceNeg, Int.reduceMul, Int.reduceSub]
    refine xl_loop (fun k st => ∃ (i : Nat) (li : List Sg) (bi : List UInt8) (vi : V), k + i = xs.length ∧ IsE segE vi li ∧ SegOK li ∧ chk li = true ∧ li.length = l.length ∧ bi.length = b.length ∧ Desk st.H bd br vi bi ∧
        getB st.H 0 = .row 2 [.agg [v, .str b]] false false ∧ getB st.H 1 = .row 2 [.agg [.nils, .str []]] false false ∧
        dropL xs l b = dropL (xs.drop i) li bi ∧
        get st.fr 2 = .ptr 0 1 0 0 ∧ get st.fr 4 = .ptr 1 1 0 0 ∧ get st.fr 6 = .ptr bd 1 0 0 ∧ get st.fr 18 = w ∧ get st.fr 19 = .int .i64 xs.length ∧ get st.fr 20 = .int .i64 i) xs.length
      ⟨0, l, b, v', by omega, hv', hl, hc1, rfl, rfl, hD, by rw [hk.2 0 (by simp)]; rfl, by rw [hk.2 1 (by simp)]; rfl, by simp, rfl, rfl, rfl, rfl, rfl, rfl⟩ ?_
    rintro J hJ k fr H ⟨i, li, bi, vi, k1, iv, hli, hci, hll, hbl, hDi, b0, b1, hdr, h2, h4, h6, h18, h19, h20⟩
    have e1 : H.length = H.length := rfl
    simp -implicitDefEqProofs (disch := omega) only [h19, h20, mwx, ne_eq, false_implies, implies_true, forall_eq_or_imp, MW.get, ev, evs, argFr, resK, packV, slHK, partsV, partsS, setR, Int.cast_ofNat_Int, Int.natCast_zero, Int.natCast_one, Nat.reduceLeDiff, reduceIte, Nat.reduceEqDiff, Nat.reduceBEq, reduceCtorEq, Nat.reduceAdd, Nat.reduceMul, Nat.reduceSub, Nat.reduceLT, Int.reduceToNat, Int.reduceLT, Int.reduceLE, Int.reduceEq, Int.reduceAdd, Int.reduceNeg, Int.reduceMul, Int.reduceSub]
    refine xc_dec (fun h12 => ?_) fun h12 => ?_
    · have hi : i < xs.length := by omega
      have hi0 : (0 : Int) ≤ (i : Int) := by omega
      have hi1 : (i : Int).toNat < xs.length := by simpa using hi
      have hbd : bd < H.length := getB_lt' hDi.d
      have hbr : br < H.length := getB_lt' hDi.r
      have hl0 : 0 < H.length := getB_lt' b0
      have hl1 : 1 < H.length := getB_lt' b1
      have hdd : xs.drop i = xs.getD i (0, 0) :: xs.drop (i + 1) := by
        rw [List.drop_eq_getElem_cons hi, List.getD_eq_getElem?_getD, List.getElem?_eq_getElem hi]; rfl
      rw [hdd] at hdr
      simp only [dropL] at hdr
      have hw1 : IntKind.i64.wrap ((i : Int) + 1) = ((i + 1 : Nat) : Int) := wrap64 (n := ((i + 1 : Nat) : Int)) (by omega) (by omega)
      generalize hxi : xs.getD i (0, 0) = x at *
      have hia : ∀ {H : List Blk} {K : V → Prop}, iaK H 2 w (.int .i64 (i : Int)) K = K (.vp [.int .i64 x.1, .int .i64 x.2]) := by
        intro H K
        rw [iaK_slot hw hi0 hi1, Int.toNat_natCast, hxi]
      have kd : ∀ T : List Blk, getB (H ++ T) bd = .row 2 [.agg [vi, .hs br bi.length 0 0 bi.length none 1]] false false := fun T => getB_app hDi.d
      have kr : ∀ T : List Blk, getB (H ++ T) br = .row 1 (u8E.vs bi) true false := fun T => getB_app hDi.r
      have k0 : ∀ T : List Blk, getB (H ++ T) 0 = .row 2 [.agg [v, .str b]] false false := fun T => getB_app b0
      have k1' : ∀ T : List Blk, getB (H ++ T) 1 = .row 2 [.agg [.nils, .str []]] false false := fun T => getB_app b1
      simp -implicitDefEqProofs (disch := omega) only [h6, h18, h20, hia, kd, mwx, ne_eq, false_implies, implies_true, forall_eq_or_imp, MW.get, ev, evs, argFr, resK, packV, slHK, partsV, partsS, setR, Int.cast_ofNat_Int, Int.natCast_zero, Int.natCast_one, Nat.reduceLeDiff, reduceIte, Nat.reduceEqDiff, Nat.reduceBEq, reduceCtorEq, Nat.reduceAdd, Nat.reduceMul, Nat.reduceSub, Nat.reduceLT, Int.reduceToNat, Int.reduceLT, Int.reduceLE, Int.reduceEq, Int.reduceAdd, Int.reduceNeg, Int.reduceMul, Int.reduceSub]
      refine Does.call (has_fn iv hli x.1 x.2) (fr2 iv.free (slot_free _ _)) ?_
      simp -implicitDefEqProofs (disch := omega) only [mwx, ne_eq, false_implies, implies_true, forall_eq_or_imp, MW.get, ev, evs, argFr, resK, packV, slHK, partsV, partsS, setR, Int.cast_ofNat_Int, Int.natCast_zero, Int.natCast_one, Nat.reduceLeDiff, reduceIte, Nat.reduceEqDiff, Nat.reduceBEq, reduceCtorEq, Nat.reduceAdd, Nat.reduceMul, Nat.reduceSub, Nat.reduceLT, Int.reduceToNat, Int.reduceLT, Int.reduceLE, Int.reduceEq, Int.reduceAdd, Int.reduceNeg, Int.reduceMul, Int.reduceSub]
      refine xc_any (fun hx' => ?_) fun hx' => ?_
      rotate_left
      · rw [if_neg (by simp [hasX, hx'])] at hdr
        have hps : dropS l b xs = ((l, b), 120) := by rw [hp, hdr, if_neg (by simp)]
        simp -implicitDefEqProofs (disch := omega) only [h2, k0, mwx, ne_eq, false_implies, implies_true, forall_eq_or_imp, MW.get, ev, evs, argFr, resK, packV, slHK, partsV, partsS, setR, Int.cast_ofNat_Int, Int.natCast_zero, Int.natCast_one, Nat.reduceLeDiff, reduceIte, Nat.reduceEqDiff, Nat.reduceBEq, reduceCtorEq, Nat.reduceAdd, Nat.reduceMul, Nat.reduceSub, Nat.reduceLT, Int.reduceToNat, Int.reduceLT, Int.reduceLE, Int.reduceEq, Int.reduceAdd, Int.reduceNeg, Int.reduceMul, Int.reduceSub]
        refine Does.call down (fr1 (store_free hv b)) ?_
        have hlt : 1 < (H ++ [Blk.row 2 [.agg [.int .i64 x.1, .int .i64 x.2]] false false]).length := by simp; omega
        simp -implicitDefEqProofs (disch := omega) only [h4, k1', hgd, (isE_one hvo).2.2, getB_set _ hlt, mwx, ne_eq, false_implies, implies_true, forall_eq_or_imp, MW.get, ev, evs, argFr, resK, packV, slHK, partsV, partsS, setR, Int.cast_ofNat_Int, Int.natCast_zero, Int.natCast_one, Nat.reduceLeDiff, reduceIte, Nat.reduceEqDiff, Nat.reduceBEq, reduceCtorEq, Nat.reduceAdd, Nat.reduceMul, Nat.reduceSub, Nat.reduceLT, Int.reduceToNat, Int.reduceLT, Int.reduceLE, Int.reduceEq, Int.reduceAdd, Int.reduceNeg, Int.reduceMul, Int.reduceSub]
        rw [hps]
        exact ⟨vo, hvo, frz_tup2 (frz_store hvo hvo.free b) (frz_int rfl)⟩
      have hx2 : hasX li x = true := hx'
      rw [if_pos hx2] at hdr
      obtain ⟨s, a, rfl, hs, ha, ha64, hbit⟩ := has_slot hli hx2
      obtain ⟨r1, r2, r3⟩ := rd_length (b := bi) (by omega) hs ha
      have hsp := span_fn iv (s := s) (a := a) hs (by omega) (by omega)
      simp -implicitDefEqProofs (disch := omega) only [h6, kd, mwx, ne_eq, false_implies, implies_true, forall_eq_or_imp, MW.get, ev, evs, argFr, resK, packV, slHK, partsV, partsS, setR, Int.cast_ofNat_Int, Int.natCast_zero, Int.natCast_one, Nat.reduceLeDiff, reduceIte, Nat.reduceEqDiff, Nat.reduceBEq, reduceCtorEq, Nat.reduceAdd, Nat.reduceMul, Nat.reduceSub, Nat.reduceLT, Int.reduceToNat, Int.reduceLT, Int.reduceLE, Int.reduceEq, Int.reduceAdd, Int.reduceNeg, Int.reduceMul, Int.reduceSub]
      refine Does.call hsp (fr2 iv.free (slot_free _ _)) ?_
      obtain ⟨g1, g2, g3, _⟩ := fre_ok hli hci (s : Int) (a : Int)
      obtain ⟨vf, hvf, dfr⟩ := fre_fn iv hli (by omega) (s : Int) (a : Int)
      have hf0 : (fre li (s : Int) (a : Int)).2 = 0 := by
        unfold fre
        rw [if_pos hx']
      rw [hf0] at dfr
      have hcx := clrX_length (b := bi) hli (by omega) hx2
      have hcl : clrX li bi ((s : Int), (a : Int)) = wrB bi (s * 512 + a * bN (sat li s).1) (List.replicate (bN (sat li s).1) 0) := by
        unfold clrX; rw [r2, Int.toNat_natCast]
      obtain ⟨se1, se2⟩ := slot_end ha
      have w1 : IntKind.i64.wrap (((s * 512 + a * bN (sat li s).1 : Nat) : Int) + (bN (sat li s).1 : Int)) = ((s * 512 + a * bN (sat li s).1 + bN (sat li s).1 : Nat) : Int) := wrap64 (n := ((s * 512 + a * bN (sat li s).1 + bN (sat li s).1 : Nat) : Int)) (by omega) (by omega)
      have hL : (u8E.vs bi).length = bi.length := El.vs_length bi
      have hg : Goods 1 (u8E.vs (List.replicate (bN (sat li s).1) 0)) = True := eq_true (El.vs_goods (e := u8E) _)
      have hz : (u8E.vs (List.replicate (bN (sat li s).1) 0)).length = bN (sat li s).1 := by rw [El.vs_length]; simp
      have hle : s * 512 + a * bN (sat li s).1 + bN (sat li s).1 ≤ bi.length := r3
      have hwr := u8_wr bi (List.replicate (bN (sat li s).1) 0) (s * 512 + a * bN (sat li s).1)
      rw [hz, List.append_assoc, ← hcl] at hwr
      have hsub : s * 512 + a * bN (sat li s).1 + bN (sat li s).1 - (s * 512 + a * bN (sat li s).1) = bN (sat li s).1 := by omega
      have setR' : ∀ (T : List Blk) (X : Blk), (H ++ T).set br X = H.set br X ++ T := fun T X => List.set_append_left _ _ hbr
      have kd' : ∀ (T : List Blk) (X : Blk), getB (H.set br X ++ T) bd = .row 2 [.agg [vi, .hs br bi.length 0 0 bi.length none 1]] false false := fun T X => by
        rw [getB_app' (by simpa using hbd), getB_set_ne _ (Ne.symm hDi.ne), hDi.d]
      have g1' : ∀ (X : Blk) (T : List Blk) (k : Nat), getB (H.set br X ++ T) (H.length + k) = getB T k := fun X T k => by
        have := getB_plus (H.set br X) T k
        rwa [List.length_set] at this
      have g0' : ∀ (X : Blk) (T : List Blk), getB (H.set br X ++ T) H.length = getB T 0 := fun X T => g1' X T 0
      have hw1' := isE_one hvf
      have hgd2 : MW.Good 1 vf = True := eq_true ⟨by rw [hw1'.2.1]; rfl, fun c hc => by rw [hw1'.2.1, List.mem_singleton] at hc; rw [hc]; exact hw1'.2.2⟩
      simp -implicitDefEqProofs (disch := omega) only [h6, kd, w1, slK3 (p := s * 512 + a * bN (sat li s).1) (e := s * 512 + a * bN (sat li s).1 + bN (sat li s).1) (kr _) hL (by omega) (by omega), hsub, u8_zeros, kr, hL, hg, hz, hle, hwr, setR', kd', g0', mwx, ne_eq, false_implies, implies_true, forall_eq_or_imp, MW.get, ev, evs, argFr, resK, packV, slHK, partsV, partsS, setR, Int.cast_ofNat_Int, Int.natCast_zero, Int.natCast_one, Nat.reduceLeDiff, reduceIte, Nat.reduceEqDiff, Nat.reduceBEq, reduceCtorEq, Nat.reduceAdd, Nat.reduceMul, Nat.reduceSub, Nat.reduceLT, Int.reduceToNat, Int.reduceLT, Int.reduceLE, Int.reduceEq, Int.reduceAdd, Int.reduceNeg, Int.reduceMul, Int.reduceSub]
      refine Does.call dfr (fr2 iv.free (slot_free _ _)) ?_
      simp -implicitDefEqProofs (disch := omega) only [h20, hw1, kd', hgd2, hw1'.2.1, mwx, ne_eq, false_implies, implies_true, forall_eq_or_imp, MW.get, ev, evs, argFr, resK, packV, slHK, partsV, partsS, setR, Int.cast_ofNat_Int, Int.natCast_zero, Int.natCast_one, Nat.reduceLeDiff, reduceIte, Nat.reduceEqDiff, Nat.reduceBEq, reduceCtorEq, Nat.reduceAdd, Nat.reduceMul, Nat.reduceSub, Nat.reduceLT, Int.reduceToNat, Int.reduceLT, Int.reduceLE, Int.reduceEq, Int.reduceAdd, Int.reduceNeg, Int.reduceMul, Int.reduceSub]
      refine ⟨k - 1, by omega, hJ _ _ ⟨i + 1, _, _, vf, by omega, hvf, g2, g1, by omega, by rw [hcx]; exact hbl, ⟨hDi.ne, ?_, ?_⟩, ?_, ?_, hdr, h2, h4, h6, h18, h19, rfl⟩⟩
      · show getB (List.set _ bd _) bd = _
        rw [getB_set _ (by simp; omega), hcx]
      · show getB (List.set _ bd _) br = _
        rw [getB_set_ne _ hDi.ne, getB_app' (by simpa using hbr), getB_set _ hbr]
      · show getB (List.set _ bd _) 0 = _
        rw [getB_set_ne _ (by omega), getB_app' (by simpa using hl0), getB_set_ne _ (by omega)]
        exact b0
      · show getB (List.set _ bd _) 1 = _
        rw [getB_set_ne _ (by omega), getB_app' (by simpa using hl1), getB_set_ne _ (by omega)]
        exact b1
    · have hd0 : xs.drop i = [] := List.drop_of_length_le (by omega)
      rw [hd0] at hdr
      simp only [dropL] at hdr
      have hps : dropS l b xs = ((li, bi), 0) := by rw [hp, hdr, if_pos rfl]
      simp -implicitDefEqProofs (disch := omega) only [h6, mwx, ne_eq, false_implies, implies_true, forall_eq_or_imp, MW.get, ev, evs, argFr, resK, packV, slHK, partsV, partsS, setR, Int.cast_ofNat_Int, Int.natCast_zero, Int.natCast_one, Nat.reduceLeDiff, reduceIte, Nat.reduceEqDiff, Nat.reduceBEq, reduceCtorEq, Nat.reduceAdd, Nat.reduceMul, Nat.reduceSub, Nat.reduceLT, Int.reduceToNat, Int.reduceLT, Int.reduceLE, Int.reduceEq, Int.reduceAdd, Int.reduceNeg, Int.reduceMul, Int.reduceSub]
      refine (store_sim hDi (isE_one iv)).call fun r H' hr => ?_
      obtain ⟨rfl, hk2⟩ := hr
      have b1' : getB H' 1 = .row 2 [.agg [.nils, .str []]] false false := by rw [hk2.2 1 (getB_lt' b1)]; exact b1
      have hgd2 : (∀ c ∈ [vi, .str bi], c.one = true) = True := eq_true (by
        intro c hc
        simp only [List.mem_cons, List.not_mem_nil, or_false] at hc
        rcases hc with rfl | rfl
        · exact (isE_one iv).2.2
        · rfl)
      have hlt := getB_lt' b1'
      simp -implicitDefEqProofs (disch := omega) only [h4, b1', hgd2, (isE_one iv).2.2, getB_set _ hlt, mwx, ne_eq, false_implies, implies_true, forall_eq_or_imp, MW.get, ev, evs, argFr, resK, packV, slHK, partsV, partsS, setR, Int.cast_ofNat_Int, Int.natCast_zero, Int.natCast_one, Nat.reduceLeDiff, reduceIte, Nat.reduceEqDiff, Nat.reduceBEq, reduceCtorEq, Nat.reduceAdd, Nat.reduceMul, Nat.reduceSub, Nat.reduceLT, Int.reduceToNat, Int.reduceLT, Int.reduceLE, Int.reduceEq, Int.reduceAdd, Int.reduceNeg, Int.reduceMul, Int.reduceSub]
      rw [hps]
      exact ⟨vi, iv, frz_tup2 (frz_store iv iv.free bi) (frz_int rfl)⟩
  obtain ⟨x, h1, h3⟩ := Does.ofX key
  exact ⟨x, h1, h3⟩

end Go.Proofs.YtlcbogafgdofgaaDoor

/- Store (chapter 12): lists of slots, one behind the other; all laid anew. -/
namespace Go.Proofs.YtlcbogafgdofgaaDoor
open Go Go.MW
set_option linter.unusedSimpArgs false
set_option linter.unusedVariables false
set_option maxRecDepth 8000

/-- A list of slots that memory holds. -/
structure Ch where
  v : V
  xs : List (Int × Int)
  h : IsE slotE v xs
def chE : El Ch where
  sz := 1
  f c := c.v
  d := ⟨.nils, [], isE_nil⟩
  im := true
  good c := by
    rcases c.h with ⟨h, _⟩ | h <;> rw [h] <;> exact ⟨rfl, by simp [V.cells, V.one]⟩
  free c j hj := by
    obtain rfl : j = 0 := by omega
    have : (c.v).cells.getD 0 .junk = c.v := by rcases c.h with ⟨h, _⟩ | h <;> rw [h] <;> rfl
    rw [this]
    exact c.h.free
theorem iaK_ch {v : V} {l : List Ch} (h : IsE chE v l) {H : List Blk} {k : IntKind} {n : Int} {K : V → Prop} (h0 : 0 ≤ n) (hn : n.toNat < l.length) : iaK H 1 v (.int k n) K = K (.vp (l.getD n.toNat chE.d).v.cells) :=
  iaK_isE h (e := chE) rfl h0 hn

theorem grow_sim (n : Nat) (hn : n ≤ 1099511627776) (H : List Blk) : SimX Tryd.prog G0 51 [.nils, .int .i64 n] H fun r H' =>
    (n = 0 ∧ r = .nils ∧ H' = H) ∨ (0 < n ∧ r = .hs H.length n 0 0 0 none 2 ∧ H' = H ++ [.row 2 (slotE.vs (List.replicate n (0, 0))) true false]) := by
  refine SimX.intro mixed comp51 ?_
  unfold c51
  have h0 : ¬ ((n : Int) < 0) := by omega
  have hs0 : (n : Int) - 0 = n := by omega
  simp -implicitDefEqProofs (disch := omega) only [h0, hs0, mwx, ne_eq, false_implies, implies_true, forall_eq_or_imp, MW.get, ev, evs, argFr, resK, packV, slHK, partsV, partsS, setR, Int.cast_ofNat_Int, Int.natCast_zero, Int.natCast_one, Nat.reduceLeDiff, reduceIte, Nat.reduceEqDiff, Nat.reduceBEq, reduceCtorEq, Nat.reduceAdd, Nat.reduceMul, Nat.reduceSub, Nat.reduceLT, Int.reduceToNat, Int.reduceLT, Int.reduceLE, Int.reduceEq, Int.reduceAdd, Int.reduceNeg, Int.reduceMul, Int.reduceSub]
  refine xc_dec (fun h1 => ?_) fun h1 => ?_
  · have h2 : (0 : Int) ≤ (n : Int) ∧ (n : Int) < 2 ^ 63 ∧ (n : Int) * ((16 : Nat) : Int) ≤ 2 ^ 48 := by
      refine ⟨by omega, by omega, ?_⟩
      have : ((16 : Nat) : Int) = 16 := rfl
      rw [this]; omega
    have hz : List.replicate n (V.agg [.int .i64 0, .int .i64 0]) = slotE.vs (List.replicate n (0, 0)) := by simp [El.vs, slotE]
    simp -implicitDefEqProofs (disch := omega) only [mwx, ne_eq, false_implies, implies_true, forall_eq_or_imp, MW.get, ev, evs, argFr, resK, packV, slHK, partsV, partsS, setR, Int.cast_ofNat_Int, Int.natCast_zero, Int.natCast_one, Nat.reduceLeDiff, reduceIte, Nat.reduceEqDiff, Nat.reduceBEq, reduceCtorEq, Nat.reduceAdd, Nat.reduceMul, Nat.reduceSub, Nat.reduceLT, Int.reduceToNat, Int.reduceLT, Int.reduceLE, Int.reduceEq, Int.reduceAdd, Int.reduceNeg, Int.reduceMul, Int.reduceSub]
    refine ⟨by omega, ?_⟩
    rw [hz, eq_app1, if_neg (by intro h; have := congrArg List.length h; rw [El.vs_length, List.length_replicate] at this; simp at this; omega)]
    refine ⟨El.vs_goods (e := slotE) _, by rw [El.vs_length, List.length_replicate]; exact roomy_of (by omega) (by decide), ?_⟩
    have hL : (slotE.vs (List.replicate n (0, 0))).length = n := by rw [El.vs_length]; simp
    simp -implicitDefEqProofs (disch := omega) only [hL, mwx, ne_eq, false_implies, implies_true, forall_eq_or_imp, MW.get, ev, evs, argFr, resK, packV, slHK, partsV, partsS, setR, Int.cast_ofNat_Int, Int.natCast_zero, Int.natCast_one, Nat.reduceLeDiff, reduceIte, Nat.reduceEqDiff, Nat.reduceBEq, reduceCtorEq, Nat.reduceAdd, Nat.reduceMul, Nat.reduceSub, Nat.reduceLT, Int.reduceToNat, Int.reduceLT, Int.reduceLE, Int.reduceEq, Int.reduceAdd, Int.reduceNeg, Int.reduceMul, Int.reduceSub]
    omega
  · simp -implicitDefEqProofs (disch := omega) only [mwx, ne_eq, false_implies, implies_true, forall_eq_or_imp, MW.get, ev, evs, argFr, resK, packV, slHK, partsV, partsS, setR, Int.cast_ofNat_Int, Int.natCast_zero, Int.natCast_one, Nat.reduceLeDiff, reduceIte, Nat.reduceEqDiff, Nat.reduceBEq, reduceCtorEq, Nat.reduceAdd, Nat.reduceMul, Nat.reduceSub, Nat.reduceLT, Int.reduceToNat, Int.reduceLT, Int.reduceLE, Int.reduceEq, Int.reduceAdd, Int.reduceNeg, Int.reduceMul, Int.reduceSub]
    omega

/-- The first ones of a row that is long enough. -/
def Part (H : List Blk) (v : V) (N : Nat) (ys : List (Int × Int)) : Prop :=
  (N = 0 ∧ v = .nils ∧ ys = []) ∨ (0 < N ∧ ∃ b zs, v = .hs b N 0 0 ys.length none 2 ∧ getB H b = .row 2 (slotE.vs zs) true false ∧ zs.length = N ∧ zs.take ys.length = ys)

theorem concat_fn {v : V} {l : List Ch} (hv : IsE chE v l) (hn : l.length < 2 ^ 40) (hs : (l.flatMap (·.xs)).length ≤ 1099511627776) :
    ∃ w, IsE slotE w (l.flatMap (·.xs)) ∧ Does Tryd.prog G0 false 43 [v] w := by
  refine Does.ofX (α := V) (C := fun w => IsE slotE w (l.flatMap (·.xs))) (R := fun w => w) ?_
  refine SimX.intro mixed comp43 ?_
  unfold c43
  simp -implicitDefEqProofs (disch := omega) only [lenK_isE hv, mwx, ne_eq, false_implies, implies_true, forall_eq_or_imp, MW.get, ev, evs, argFr, resK, packV, slHK, partsV, partsS, setR, Int.cast_ofNat_Int, Int.natCast_zero, Int.natCast_one, Nat.reduceLeDiff, reduceIte, Nat.reduceEqDiff, Nat.reduceBEq, reduceCtorEq, Nat.reduceAdd, Nat.reduceMul, Nat.reduceSub, Nat.reduceLT, Int.reduceToNat, Int.reduceLT, Int.reduceLE, Int.reduceEq, Int.reduceAdd, Int.reduceNeg, Int.reduceMul, Int.reduceSub]
  have pre : ∀ i, ((l.take i).flatMap (·.xs)).length ≤ (l.flatMap (·.xs)).length := fun i => by
    have h1 : (l.take i).flatMap (·.xs) ++ (l.drop i).flatMap (·.xs) = l.flatMap (·.xs) := by rw [← List.flatMap_append, List.take_append_drop]
    rw [← h1, List.length_append]; omega
  refine xl_loop (fun k st => ∃ i : Nat, k + i = l.length ∧ st.H = [] ∧ get st.fr 0 = v ∧ get st.fr 3 = .int .i64 ((l.take i).flatMap (·.xs)).length ∧ get st.fr 9 = v ∧ get st.fr 10 = .int .i64 l.length ∧ get st.fr 11 = .int .i64 i) l.length ⟨0, by omega, rfl, rfl, rfl, rfl, rfl, rfl⟩ ?_
  rintro J hJ k fr H ⟨i, k1, hH, h0, h3, h9, h10, h11⟩
  obtain rfl : H = [] := hH
  simp -implicitDefEqProofs (disch := omega) only [h10, h11, mwx, ne_eq, false_implies, implies_true, forall_eq_or_imp, MW.get, ev, evs, argFr, resK, packV, slHK, partsV, partsS, setR, Int.cast_ofNat_Int, Int.natCast_zero, Int.natCast_one, Nat.reduceLeDiff, reduceIte, Nat.reduceEqDiff, Nat.reduceBEq, reduceCtorEq, Nat.reduceAdd, Nat.reduceMul, Nat.reduceSub, Nat.reduceLT, Int.reduceToNat, Int.reduceLT, Int.reduceLE, Int.reduceEq, Int.reduceAdd, Int.reduceNeg, Int.reduceMul, Int.reduceSub]
  refine xc_dec (fun h12 => ?_) fun h12 => ?_
  · have hi : i < l.length := by omega
    have hi0 : (0 : Int) ≤ (i : Int) := by omega
    have hi1 : (i : Int).toNat < l.length := by simpa using hi
    have hw1 : IntKind.i64.wrap ((i : Int) + 1) = ((i + 1 : Nat) : Int) := wrap64 (n := ((i + 1 : Nat) : Int)) (by omega) (by omega)
    have htk := take_succ_at hi (d := chE.d)
    generalize hc : l.getD i chE.d = c at *
    have hcc : c.v.cells = [c.v] := by rcases c.h with ⟨h, _⟩ | h <;> rw [h] <;> rfl
    have hia : ∀ {H : List Blk} {K : V → Prop}, iaK H 1 v (.int .i64 (i : Int)) K = K (.vp [c.v]) := by
      intro H K
      rw [iaK_ch hv hi0 hi1, Int.toNat_natCast, hc, hcc]
    have hcat : (l.take (i + 1)).flatMap (·.xs) = (l.take i).flatMap (·.xs) ++ c.xs := by rw [htk, List.flatMap_append]; simp
    have hp1 := pre (i + 1)
    rw [hcat, List.length_append] at hp1
    have hw2 : IntKind.i64.wrap ((((l.take i).flatMap (·.xs)).length : Int) + (c.xs.length : Int)) = (((l.take (i + 1)).flatMap (·.xs)).length : Int) := by
      rw [hcat, List.length_append]
      exact wrap64 (n := ((((l.take i).flatMap (·.xs)).length + c.xs.length : Nat) : Int)) (by omega) (by omega)
    have hneg : ¬ ((((l.take (i + 1)).flatMap (·.xs)).length : Int) < 0) := by omega
    simp -implicitDefEqProofs (disch := omega) only [h3, h9, h11, hia, lenK_isE c.h, hw2, hneg, hw1, mwx, ne_eq, false_implies, implies_true, forall_eq_or_imp, MW.get, ev, evs, argFr, resK, packV, slHK, partsV, partsS, setR, Int.cast_ofNat_Int, Int.natCast_zero, Int.natCast_one, Nat.reduceLeDiff, reduceIte, Nat.reduceEqDiff, Nat.reduceBEq, reduceCtorEq, Nat.reduceAdd, Nat.reduceMul, Nat.reduceSub, Nat.reduceLT, Int.reduceToNat, Int.reduceLT, Int.reduceLE, Int.reduceEq, Int.reduceAdd, Int.reduceNeg, Int.reduceMul, Int.reduceSub]
    exact ⟨k - 1, by omega, hJ _ _ ⟨i + 1, by omega, rfl, h0, rfl, h9, h10, rfl⟩⟩
  have hti : l.take i = l := List.take_of_length_le (by omega)
  rw [hti] at h3
  simp -implicitDefEqProofs (disch := omega) only [h3, mwx, ne_eq, false_implies, implies_true, forall_eq_or_imp, MW.get, ev, evs, argFr, resK, packV, slHK, partsV, partsS, setR, Int.cast_ofNat_Int, Int.natCast_zero, Int.natCast_one, Nat.reduceLeDiff, reduceIte, Nat.reduceEqDiff, Nat.reduceBEq, reduceCtorEq, Nat.reduceAdd, Nat.reduceMul, Nat.reduceSub, Nat.reduceLT, Int.reduceToNat, Int.reduceLT, Int.reduceLE, Int.reduceEq, Int.reduceAdd, Int.reduceNeg, Int.reduceMul, Int.reduceSub]
  refine (grow_sim _ hs []).call fun r H1 hr => ?_
  have hP : Part H1 r (l.flatMap (·.xs)).length [] := by
    rcases hr with ⟨g1, rfl, rfl⟩ | ⟨g1, rfl, rfl⟩
    · exact .inl ⟨g1, rfl, rfl⟩
    · exact .inr ⟨g1, _, _, rfl, rfl, by simp, by simp⟩
  simp -implicitDefEqProofs (disch := omega) only [h0, lenK_isE hv, mwx, ne_eq, false_implies, implies_true, forall_eq_or_imp, MW.get, ev, evs, argFr, resK, packV, slHK, partsV, partsS, setR, Int.cast_ofNat_Int, Int.natCast_zero, Int.natCast_one, Nat.reduceLeDiff, reduceIte, Nat.reduceEqDiff, Nat.reduceBEq, reduceCtorEq, Nat.reduceAdd, Nat.reduceMul, Nat.reduceSub, Nat.reduceLT, Int.reduceToNat, Int.reduceLT, Int.reduceLE, Int.reduceEq, Int.reduceAdd, Int.reduceNeg, Int.reduceMul, Int.reduceSub]
  refine xl_loop (fun k st => ∃ (i : Nat) (r : V), k + i = l.length ∧ Part st.H r (l.flatMap (·.xs)).length ((l.take i).flatMap (·.xs)) ∧ get st.fr 6 = r ∧ get st.fr 25 = v ∧ get st.fr 26 = .int .i64 l.length ∧ get st.fr 27 = .int .i64 i) l.length ⟨0, r, by omega, hP, rfl, rfl, rfl, rfl⟩ ?_
  clear h0 h3 h9 h10 h11 h12 hti k1 hJ J
  rintro J hJ k fr H ⟨i, r, k1, hP, h6, h25, h26, h27⟩
  simp -implicitDefEqProofs (disch := omega) only [h26, h27, mwx, ne_eq, false_implies, implies_true, forall_eq_or_imp, MW.get, ev, evs, argFr, resK, packV, slHK, partsV, partsS, setR, Int.cast_ofNat_Int, Int.natCast_zero, Int.natCast_one, Nat.reduceLeDiff, reduceIte, Nat.reduceEqDiff, Nat.reduceBEq, reduceCtorEq, Nat.reduceAdd, Nat.reduceMul, Nat.reduceSub, Nat.reduceLT, Int.reduceToNat, Int.reduceLT, Int.reduceLE, Int.reduceEq, Int.reduceAdd, Int.reduceNeg, Int.reduceMul, Int.reduceSub]
  refine xc_dec (fun h12 => ?_) fun h12 => ?_
  · have hi : i < l.length := by omega
    have hi0 : (0 : Int) ≤ (i : Int) := by omega
    have hi1 : (i : Int).toNat < l.length := by simpa using hi
    have hw1 : IntKind.i64.wrap ((i : Int) + 1) = ((i + 1 : Nat) : Int) := wrap64 (n := ((i + 1 : Nat) : Int)) (by omega) (by omega)
    have htk := take_succ_at hi (d := chE.d)
    generalize hc : l.getD i chE.d = c at *
    have hcc : c.v.cells = [c.v] := by rcases c.h with ⟨h, _⟩ | h <;> rw [h] <;> rfl
    have hia : ∀ {H : List Blk} {K : V → Prop}, iaK H 1 v (.int .i64 (i : Int)) K = K (.vp [c.v]) := by
      intro H K
      rw [iaK_ch hv hi0 hi1, Int.toNat_natCast, hc, hcc]
    have hcat : (l.take (i + 1)).flatMap (·.xs) = (l.take i).flatMap (·.xs) ++ c.xs := by rw [htk, List.flatMap_append]; simp
    have hp1 := pre (i + 1)
    rw [hcat, List.length_append] at hp1
    simp -implicitDefEqProofs (disch := omega) only [h6, h25, h27, hia, elemsK_isE c.h, mwx, ne_eq, false_implies, implies_true, forall_eq_or_imp, MW.get, ev, evs, argFr, resK, packV, slHK, partsV, partsS, setR, Int.cast_ofNat_Int, Int.natCast_zero, Int.natCast_one, Nat.reduceLeDiff, reduceIte, Nat.reduceEqDiff, Nat.reduceBEq, reduceCtorEq, Nat.reduceAdd, Nat.reduceMul, Nat.reduceSub, Nat.reduceLT, Int.reduceToNat, Int.reduceLT, Int.reduceLE, Int.reduceEq, Int.reduceAdd, Int.reduceNeg, Int.reduceMul, Int.reduceSub]
    rcases hP with ⟨g1, rfl, g3⟩ | ⟨g1, b, zs, rfl, g3, g4, g5⟩
    · have hcn : c.xs = [] := List.length_eq_zero_iff.1 (by omega)
      have hcn2 : slotE.vs c.xs = [] := by rw [hcn]; rfl
      rw [eq_app1, hcn2, if_pos rfl]
      refine ⟨by simp [Goods], ?_⟩
      simp -implicitDefEqProofs (disch := omega) only [h27, hw1, mwx, ne_eq, false_implies, implies_true, forall_eq_or_imp, MW.get, ev, evs, argFr, resK, packV, slHK, partsV, partsS, setR, Int.cast_ofNat_Int, Int.natCast_zero, Int.natCast_one, Nat.reduceLeDiff, reduceIte, Nat.reduceEqDiff, Nat.reduceBEq, reduceCtorEq, Nat.reduceAdd, Nat.reduceMul, Nat.reduceSub, Nat.reduceLT, Int.reduceToNat, Int.reduceLT, Int.reduceLE, Int.reduceEq, Int.reduceAdd, Int.reduceNeg, Int.reduceMul, Int.reduceSub]
      exact ⟨k - 1, by omega, hJ _ _ ⟨i + 1, .nils, by omega, .inl ⟨g1, rfl, by rw [hcat, g3, hcn]; rfl⟩, rfl, h25, h26, rfl⟩⟩
    · have hL : (slotE.vs zs).length = zs.length := El.vs_length zs
      have hcl : (slotE.vs c.xs).length = c.xs.length := El.vs_length _
      rw [eq_app4, g3]
      refine ⟨El.vs_goods (e := slotE) _, rfl, rfl, ?_⟩
      simp only [Nat.zero_add, hcl, hL]
      refine ⟨trivial, g4, by omega, El.vs_goods (e := slotE) _, ?_⟩
      rw [if_pos (by omega)]
      refine ⟨trivial, ?_⟩
      have e1 : (slotE.vs zs).take ((l.take i).flatMap (·.xs)).length ++ slotE.vs c.xs ++ (slotE.vs zs).drop (((l.take i).flatMap (·.xs)).length + c.xs.length) = slotE.vs ((l.take i).flatMap (·.xs) ++ c.xs ++ zs.drop (((l.take i).flatMap (·.xs)).length + c.xs.length)) := by
        rw [El.vs_take, El.vs_drop, El.vs_append, El.vs_append, g5]
      rw [e1]
      simp -implicitDefEqProofs (disch := omega) only [h27, hw1, mwx, ne_eq, false_implies, implies_true, forall_eq_or_imp, MW.get, ev, evs, argFr, resK, packV, slHK, partsV, partsS, setR, Int.cast_ofNat_Int, Int.natCast_zero, Int.natCast_one, Nat.reduceLeDiff, reduceIte, Nat.reduceEqDiff, Nat.reduceBEq, reduceCtorEq, Nat.reduceAdd, Nat.reduceMul, Nat.reduceSub, Nat.reduceLT, Int.reduceToNat, Int.reduceLT, Int.reduceLE, Int.reduceEq, Int.reduceAdd, Int.reduceNeg, Int.reduceMul, Int.reduceSub]
      refine ⟨k - 1, by omega, hJ _ _ ⟨i + 1, _, by omega, .inr ⟨g1, b, _, ?_, getB_set _ (getB_lt' g3), ?_, ?_⟩, rfl, h25, h26, rfl⟩⟩
      · show V.hs _ _ _ _ _ _ _ = V.hs _ _ _ _ _ _ _
        rw [hcat, List.length_append]
      · simp only [List.length_append, List.length_drop]; omega
      · rw [hcat, ← List.append_assoc]; exact List.take_left' rfl
  · have hti : l.take i = l := List.take_of_length_le (by omega)
    rw [hti] at hP
    simp -implicitDefEqProofs (disch := omega) only [h6, mwx, ne_eq, false_implies, implies_true, forall_eq_or_imp, MW.get, ev, evs, argFr, resK, packV, slHK, partsV, partsS, setR, Int.cast_ofNat_Int, Int.natCast_zero, Int.natCast_one, Nat.reduceLeDiff, reduceIte, Nat.reduceEqDiff, Nat.reduceBEq, reduceCtorEq, Nat.reduceAdd, Nat.reduceMul, Nat.reduceSub, Nat.reduceLT, Int.reduceToNat, Int.reduceLT, Int.reduceLE, Int.reduceEq, Int.reduceAdd, Int.reduceNeg, Int.reduceMul, Int.reduceSub]
    rcases hP with ⟨g1, rfl, g3⟩ | ⟨g1, b, zs, rfl, g3, g4, g5⟩
    · exact ⟨.nils, .inl ⟨rfl, g3⟩, .free .nils⟩
    · have hzs : zs = l.flatMap (·.xs) := by rw [← g5]; exact (List.take_of_length_le (by omega)).symm
      subst hzs
      exact ⟨_, isE_vs _, frz_rowE (e := slotE) rfl (by decide) g3 rfl rfl⟩

end Go.Proofs.YtlcbogafgdofgaaDoor

