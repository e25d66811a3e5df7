/- Appending, copying, clearing. -/
import Derived.Test.YtphbhoggcddgmaaDoorMwOps5
import Derived.Laws.Append
namespace Go.MW
open Go Go.RowKit
set_option linter.unusedVariables false
set_option linter.unusedSimpArgs false

section
variable {P : Program} {G : Nat → Option (List V)} {B : Nat} {Φ : Nat → Option Pl} {Z : Nat → Prop} {H : List Blk} {w : World} {a : Act} {fr : Fr} {K : V → List Blk → Prop} {o : Oper}

theorem getD_left {l r : List V} {i : Nat} (h : i < l.length) : (l ++ r).getD i .junk = l.getD i .junk := by
  simp [List.getD_eq_getElem?_getD, List.getElem?_append_left h]
theorem getD_right {l r : List V} {i : Nat} (h : l.length ≤ i) : (l ++ r).getD i .junk = r.getD (i - l.length) .junk := by
  simp [List.getD_eq_getElem?_getD, List.getElem?_append_right h]

theorem size_zeroCells (z : Array Value) (n : Nat) : (Builtin.zeroCells z n).size = n * z.size := by simp [Builtin.zeroCells]

theorem not_int {d : TypeDesc} (h : ∀ k, d ≠ .int k) : (match d with | .int _ => true | _ => false) = false := by
  cases d <;> first | rfl | exact absurd rfl (h _)

section
variable {t u ty e : TypeId} {d : TypeDesc} {z : V} {sz by_ : Nat} {base : Option Addr} {sLen sCap n : Nat} {x : Value}

theorem append_in (ht : P.underlying t = some (.slice e)) (hu : P.underlying u = some d) (hd : ∀ k, d ≠ .int k) (hs : sizeT P e = some sz) (hx : (Builtin.lenOf x).run P w = .ok n w)
    (hn : sLen + n ≤ sCap) {new : Array Value} (hf : (Builtin.firstCells sz n x).run P w = .ok new w) {w' : World}
    (hst : ∀ ad, base = some ad → (storeCells (ad.add (sLen * sz)) new.toList).run P w = .ok () w') (hb : base = none → w' = w) :
    (Builtin.append_ #[t, u] ty #[.slice base sLen sCap, x]).run P w = .ok (.slice base (sLen + n) sCap) w' := by
  have hd' := not_int hd
  cases base with
  | none =>
    rw [hb rfl]
    simp [Builtin.append_, run_underlying ht, run_underlying hu, run_sizeT hs, hx, hn, hf, hd']
  | some ad => simp [Builtin.append_, run_underlying ht, run_underlying hu, run_sizeT hs, hx, hn, hf, hd', hst ad rfl]

theorem append_grow (ht : P.underlying t = some (.slice e)) (hu : P.underlying u = some d) (hd : ∀ k, d ≠ .int k) {zv : Value} (hz : ∀ w, (zeroValue e).run P w = .ok zv w) (hs : sizeT P e = some sz) (hb : bytesT P e = some by_) (hb0 : by_ ≠ 0)
    (hx : (Builtin.lenOf x).run P w = .ok n w) (hn : sCap < sLen + n) (hr : (sLen + n) * by_ ≤ 2 ^ 47) {new old : Array Value} (hf : (Builtin.firstCells sz n x).run P w.drew = .ok new w.drew)
    (hfo : (Builtin.firstCells sz sLen (.slice base sLen sCap)).run P w.drew = .ok old w.drew) :
    (Builtin.append_ #[t, u] ty #[.slice base sLen sCap, x]).run P w =
      .ok (.slice (some ⟨w.heap.size, 0, none⟩) (sLen + n) (grownCap w (sLen + n) sCap e)) (w.drew.alloc (.cells (old ++ new ++ Builtin.zeroCells zv.cells (grownCap w (sLen + n) sCap e - (sLen + n))) e)) := by
  have hd' := not_int hd
  obtain ⟨i, hi, hib⟩ : ∃ i, P.info? e = some i ∧ i.bytes = by_ := by simpa [bytesT] using hb
  have h1 : Builtin.nextslicecap (sLen + n) sCap ≤ 2 * (sLen + n) := nextslicecap_le hn
  have h2 : Builtin.nextslicecap (sLen + n) sCap * by_ ≤ 2 * (sLen + n) * by_ := Nat.mul_le_mul_right _ h1
  rw [Nat.mul_assoc] at h2
  have h3 : ¬ (281474976710656 < Builtin.nextslicecap (sLen + n) sCap * i.bytes) := by rw [hib]; omega
  have h4 : sLen + n ≤ 2 ^ 47 := Nat.le_trans (Nat.le_mul_of_pos_right _ (by omega)) hr
  have h5 : ¬ (9223372036854775807 < ((sLen : Int) + (n : Int))) := by omega
  have h6 : ¬ (sLen + n ≤ sCap) := by omega
  simp [Builtin.append_, run_underlying ht, run_underlying hu, run_sizeT hs, typeInfo, hi, hx, h6, h5, h3, hd', Question.forced, hf, hfo, hz, newRow, grownCap]

end

theorem grownCap_le (w : World) (need old : Nat) (e : TypeId) : need ≤ grownCap w need old e := by
  simp [grownCap, Question.cut]

theorem range_map_size (f : Nat → Value) (n : Nat) : (((List.range n).map f).toArray).size = n := by simp

/-- Old cells, new ones, and zeros: the elements of the longer row. -/
theorem ElR.append {sz n m : Nat} {xs ys : List V} {f g : Nat → Value} (zs : Array Value) (h1 : ElR Φ Z w sz n xs f) (h2 : ElR Φ Z w sz m ys g) (hn : xs.length = n) (hm : ys.length = m) :
    ElR Φ Z w sz (n + m) (xs ++ ys) fun q => (((List.range (n * sz)).map f).toArray ++ ((List.range (m * sz)).map g).toArray ++ zs).getD q undef := by
  intro i j hi hj
  simp only [Array.getD_eq_getD_getElem?]
  by_cases h : i < n
  · rw [getD_left (by omega)]
    have hq := mul_in (i := i) (n := n) (sz := sz) (j := j) h hj
    rw [Array.getElem?_append_left (by simp; omega), Array.getElem?_append_left (by simp; omega)]
    have := h1 i j h hj
    simpa [hq] using this
  · rw [getD_right (by omega), hn]
    have hq := mul_in (i := i - n) (n := m) (sz := sz) (j := j) (by omega) hj
    have e1 : i * sz + j = n * sz + ((i - n) * sz + j) := by
      rw [← Nat.add_assoc, ← Nat.add_mul]
      congr 2
      omega
    rw [Array.getElem?_append_left (by simp; omega), Array.getElem?_append_right (by simp; omega)]
    have := h2 (i - n) j (by omega) hj
    rw [e1]
    simpa [hq] using this

theorem goods_len {sz : Nat} {ys : List V} (h : Goods sz ys) : ∀ y ∈ ys, y.cells.length = sz := fun y hy => (h y hy).1

/-- Cells that elements have may be stored. -/
theorem goods_one {sz m : Nat} {ys : List V} {f : Nat → Value} (h : Goods sz ys) (hm : m ≤ ys.length) (he : ElR Φ Z w sz m ys f) : ∀ v ∈ (List.range (m * sz)).map f, v.oneCell' = true := by
  intro v hv
  simp only [List.mem_map, List.mem_range] at hv
  obtain ⟨q, hq, rfl⟩ := hv
  obtain ⟨h1, h2, h3⟩ := div_in hq
  have hvr := he (q / sz) (q % sz) h1 h2
  rw [h3] at hvr
  have hg := h _ (getD_mem (l := ys) (i := q / sz) (by omega))
  refine oneCell_of hvr (hg.2 _ ?_)
  exact getD_mem (by rw [hg.1]; exact h2)

theorem range_getD (f : Nat → Value) (n q : Nat) (h : q < n) : ((List.range n).map f).getD q undef = f q := by
  simp [List.getD_eq_getElem?_getD, h]

/-- Elements stored over some of a row's, or right behind it. -/
theorem Rel.storeEls {b i m : Nat} {p : Pl} {sz : Nat} {xs ys : List V} {opn : Bool} {f : Nat → Value} (hrel : Rel G B Φ Z H w) (hp : Φ b = some p) (ok : RowOK Φ Z w p sz xs opn false) (hg : Goods sz ys) (hm : ys.length = m) (he : ElR Φ Z w sz m ys f)
    (hi : i ≤ xs.length) (hle : (i + m) * sz ≤ p.re) (hop : opn = false → i + m ≤ xs.length) :
    ∃ w' p', (storeCells ⟨p.rb, i * sz, none⟩ ((List.range (m * sz)).map f)).run P w = .ok () w' ∧ Rel G B (put1 Φ b p') Z (H.set b (.row sz (xs.take i ++ ys ++ xs.drop (i + m)) opn false)) w' ∧ Ev B Φ Z w (put1 Φ b p') Z w' ∧
      p'.n = (xs.take i ++ ys ++ xs.drop (i + m)).length ∧ p'.rb = p.rb ∧ p'.sz = p.sz ∧ p'.re = p.re := by
  have hx : ∀ q, q < (xs.take i ++ ys ++ xs.drop (i + m)).length → (xs.take i ++ ys ++ xs.drop (i + m)).getD q .junk = if i ≤ q ∧ q < i + m then ys.getD (q - i) .junk else xs.getD q .junk := by
    intro q hq
    by_cases h1 : q < i
    · rw [if_neg (by omega), List.append_assoc, getD_left (by simp; omega), getD_take _ _ _ _ h1]
    · by_cases h2 : q < i + m
      · rw [if_pos (by omega), List.append_assoc, getD_right (by simp; omega), getD_left (by simp; omega)]
        simp [Nat.min_eq_left hi]
      · rw [if_neg (by omega), getD_right (by simp; omega), getD_drop]
        congr 1
        simp [Nat.min_eq_left hi]
        omega
  have hlen : (xs.take i ++ ys ++ xs.drop (i + m)).length = if i + m ≤ xs.length then xs.length else i + m := by
    simp
    split <;> omega
  have hxs := ok.row
  obtain ⟨c, t, fz, hcb, hfz, hsz, hle0, hop0, hcv⟩ := hxs
  have hex : (i + m) * sz = i * sz + m * sz := Nat.add_mul _ _ _
  have := hrel.storeRow (P := P) (off := i * sz) (xs' := xs.take i ++ ys ++ xs.drop (i + m)) (vs := (List.range (m * sz)).map f) hp ok (by simp; omega) (goods_one hg (by omega) he) (fun q hq => ?_) (by rw [hlen]; split <;> omega) (by rw [hlen]; split <;> omega) (fun h => by rw [hlen, if_pos (hop h)]) (fun q j hq hj => ?_)
  · exact this
  · rw [hx q hq]
    split
    · exact goods_len hg _ (getD_mem (by omega))
    · refine ok.csz _ ?_
      rw [hlen] at hq
      split at hq <;> omega
  · rw [hx q hq]
    simp only [List.length_map, List.length_range]
    have hiff : (i * sz ≤ q * sz + j ∧ q * sz + j < i * sz + m * sz) ↔ (i ≤ q ∧ q < i + m) := by
      constructor
      · rintro ⟨h1, h2⟩
        have h3 : i * sz < (q + 1) * sz := by rw [Nat.add_mul]; omega
        have h4 : q * sz < (i + m) * sz := by rw [Nat.add_mul]; omega
        have h5 := Nat.lt_of_mul_lt_mul_right h3
        have h6 := Nat.lt_of_mul_lt_mul_right h4
        omega
      · rintro ⟨h1, h2⟩
        have h3 : i * sz ≤ q * sz := Nat.mul_le_mul_right _ h1
        have h4 := mul_in (i := q) (n := i + m) (sz := sz) (j := j) h2 hj
        omega
    constructor
    · intro h
      have h' := hiff.1 h
      rw [if_pos h']
      have e1 : q * sz + j - i * sz = (q - i) * sz + j := by
        rw [Nat.sub_mul]
        have : i * sz ≤ q * sz := Nat.mul_le_mul_right _ h'.1
        omega
      rw [e1, range_getD _ _ _ (mul_in (by omega) hj)]
      exact he _ _ (by omega) hj
    · intro h
      have h' : ¬ (i ≤ q ∧ q < i + m) := fun hh => h (hiff.2 hh)
      rw [if_neg h']
      refine ⟨?_, rfl⟩
      rw [hlen] at hq
      split at hq <;> omega

end
end Go.MW
