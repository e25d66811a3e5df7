/- What the model's parts do, in the forms that the operations' proofs want. -/
import Derived.Test.YtphbhoggcddgmaaDoorMwRel
namespace Go.MW
open Go Go.RowKit

theorem add_eq {a : Addr} (h : a.spot = none) (n : Nat) : a.add n = ⟨a.block, a.off + n, none⟩ := by
  unfold Addr.add
  split
  · subst_vars; cases a; simp_all
  · rfl

/-- A world with another block in the place of one. -/
def setBlk (w : World) (b : Nat) (o : Obj) : World := { w with heap := w.heap.setIfInBounds b o }

theorem setBlk_ne (w : World) (b : Nat) (o : Obj) {r : Nat} (h : r ≠ b) : (setBlk w b o).heap[r]? = w.heap[r]? := by
  simp only [setBlk, Array.getElem?_setIfInBounds]
  rw [if_neg (Ne.symm h)]

theorem setBlk_same {w : World} {b : Nat} (o : Obj) (h : b < w.heap.size) : (setBlk w b o).heap[b]? = some o := by
  simp [setBlk, h]

theorem setBlk_size (w : World) (b : Nat) (o : Obj) : (setBlk w b o).heap.size = w.heap.size := by simp [setBlk]

theorem setBlk_below {B : Nat} {w : World} {b : Nat} {o : Obj} (h : B ≤ b) : Below B w (setBlk w b o) :=
  ⟨rfl, rfl, rfl, by rw [setBlk_size]; exact Nat.le_refl _, fun k hk => setBlk_ne _ _ _ (by omega)⟩

theorem setBlk_setBlk (w : World) (b : Nat) (o o' : Obj) : setBlk (setBlk w b o) b o' = setBlk w b o' := by
  simp [setBlk]

theorem setBlk_self {w : World} {b : Nat} {o : Obj} (h : w.heap[b]? = some o) : setBlk w b o = w := by
  unfold setBlk
  obtain ⟨h1, h2⟩ := Array.getElem?_eq_some_iff.1 h
  have : w.heap.setIfInBounds b o = w.heap := by
    apply Array.ext
    · simp
    · intro i h3 h4
      rw [Array.getElem_setIfInBounds]
      split
      · subst_vars; rfl
      · rfl
  rw [this]

theorem cell_of {w : World} {b : Nat} {c : Array Value} {t : TypeId} {fz : Nat × Nat} (h : w.heap[b]? = some (.cells c t fz)) (o : Nat) : w.cell? ⟨b, o, none⟩ = c[o]? := by
  simp [World.cell?, h]

theorem cell_getD {w : World} {b : Nat} {c : Array Value} {t : TypeId} {fz : Nat × Nat} (h : w.heap[b]? = some (.cells c t fz)) {o : Nat} (ho : o < c.size) : w.cell? ⟨b, o, none⟩ = some (c.getD o undef) := by
  rw [cell_of h]
  simp [Array.getD, ho]

theorem frozen_of {w : World} {b : Nat} {c : Array Value} {t : TypeId} {fz : Nat × Nat} (h : w.heap[b]? = some (.cells c t fz)) (hfz : fz.2 ≤ fz.1 ∨ c.size ≤ fz.1) {o : Nat} (ho : o < c.size) : w.frozen? ⟨b, o, none⟩ = false := by
  simp only [World.frozen?, h]
  obtain ⟨lo, hi⟩ := fz
  simp only at hfz ⊢
  simp
  omega

theorem setCell_of {w : World} {b : Nat} {c : Array Value} {t : TypeId} {fz : Nat × Nat} (h : w.heap[b]? = some (.cells c t fz)) (o : Nat) (v : Value) : w.setCell ⟨b, o, none⟩ v = setBlk w b (.cells (c.setIfInBounds o v) t fz) := by
  obtain ⟨h1, h2⟩ := Array.getElem?_eq_some_iff.1 h
  unfold World.setCell setBlk
  congr 1
  apply Array.ext
  · simp
  · intro i h3 h4
    have h5 : i < w.heap.size := by simpa using h4
    rw [Array.getElem_modify, Array.getElem_setIfInBounds h5]
    by_cases hi : b = i
    · subst hi; simp [h2]
    · simp [hi]

section
variable {P : Program}

theorem run_storeCells_of : ∀ (vs : List Value) (b o i : Nat) (w : World) (c : Array Value) (t : TypeId) (fz : Nat × Nat), w.heap[b]? = some (.cells c t fz) → (fz.2 ≤ fz.1 ∨ c.size ≤ fz.1) →
    o + i + vs.length ≤ c.size → (∀ v ∈ vs, v.oneCell' = true) →
    ∃ c' : Array Value, c'.size = c.size ∧ (storeCells ⟨b, o, none⟩ vs i).run P w = .ok () (setBlk w b (.cells c' t fz)) ∧
      ∀ q, c'.getD q undef = if o + i ≤ q ∧ q < o + i + vs.length then vs.getD (q - (o + i)) undef else c.getD q undef
  | [], b, o, i, w, c, t, fz, hg, _, _, _ => ⟨c, rfl, by rw [setBlk_self hg]; rfl, fun q => by rw [if_neg (by rintro ⟨h1, h2⟩; simp at h2; omega)]⟩
  | v :: r, b, o, i, w, c, t, fz, hg, hf, hl, h1 => by
    have hi : o + i < c.size := by simp at hl; omega
    have hlt : b < w.heap.size := (Array.getElem?_eq_some_iff.1 hg).1
    have hst : (store ((⟨b, o, none⟩ : Addr).add i) v).run P w = .ok () (setBlk w b (.cells (c.setIfInBounds (o + i) v) t fz)) := by
      rw [add_eq rfl, run_store P w _ v _ (h1 v (by simp)), cell_getD hg hi]
      simp only [frozen_of hg hf hi, setCell_of hg]
      simp
    obtain ⟨c', hs, hr, hq⟩ := run_storeCells_of r b o (i + 1) (setBlk w b (.cells (c.setIfInBounds (o + i) v) t fz)) _ t fz (setBlk_same _ hlt) (by simpa using hf) (by simp at hl ⊢; omega) (fun x hx => h1 x (by simp [hx]))
    refine ⟨c', by simpa using hs, ?_, fun q => ?_⟩
    · simp only [storeCells, Sem.run_bind, hst, Result.andThen_ok, hr, setBlk_setBlk]
    · rw [hq]
      simp only [List.length_cons]
      by_cases h2 : q = o + i
      · subst h2
        rw [if_neg (by omega), if_pos (by omega), Nat.sub_self]
        simp [Array.getD, hi]
      · by_cases h3 : o + (i + 1) ≤ q ∧ q < o + (i + 1) + r.length
        · rw [if_pos h3, if_pos (by omega)]
          have : q - (o + i) = (q - (o + (i + 1))) + 1 := by omega
          rw [this, List.getD_cons_succ]
        · rw [if_neg h3, if_neg (by omega)]
          simp only [Array.getD_eq_getD_getElem?, Array.getElem?_setIfInBounds]
          rw [if_neg (Ne.symm h2)]

theorem aggT_none {t : TypeId} (h : aggT P t = some none) (w : World) : (isAgg t).run P w = .ok false w ∧ sizeT P t = some 1 := by
  unfold aggT at h
  split at h <;> simp_all
  rename_i d i hd hi h1 h2
  constructor
  · simp only [isAgg, Sem.run_bind, run_underlying h1, Result.andThen_ok]
    cases d <;> simp_all
  · simp [sizeT, h2, h]

theorem aggT_some {t : TypeId} {n : Nat} (h : aggT P t = some (some n)) (w : World) : (isAgg t).run P w = .ok true w ∧ (sizeOf t).run P w = .ok n w ∧ sizeT P t = some n := by
  unfold aggT at h
  split at h <;> simp_all
  · rename_i h1 h2
    refine ⟨by simp [isAgg, run_underlying h1], by simp [sizeOf, typeInfo, h2, h], by simp [sizeT, h2, h]⟩
  · rename_i h1 h2
    refine ⟨by simp [isAgg, run_underlying h1], by simp [sizeOf, typeInfo, h2, h], by simp [sizeT, h2, h]⟩

theorem run_sizeT {t : TypeId} {n : Nat} (h : sizeT P t = some n) (w : World) : (sizeOf t).run P w = .ok n w := by
  simp only [sizeT, Option.map_eq_some_iff] at h
  obtain ⟨i, hi, rfl⟩ := h
  simp [sizeOf, typeInfo, hi]

theorem run_bytesT {t : TypeId} {n : Nat} (h : bytesT P t = some n) (w : World) : ∃ i, (typeInfo t).run P w = .ok i w ∧ i.bytes = n := by
  simp only [bytesT, Option.map_eq_some_iff] at h
  obtain ⟨i, hi, rfl⟩ := h
  exact ⟨i, by simp [typeInfo, hi], rfl⟩

theorem ofVal1_sound {Φ : Nat → Option Pl} {Z : Nat → Prop} {w : World} {v : Value} {x : V} (h : ofVal1 v = some x) : VR Φ Z w x v ∧ x.cells = [x] ∧ v.cells = #[v] := by
  unfold ofVal1 at h
  split at h <;> simp at h <;> subst h
  · exact ⟨.bool _, rfl, rfl⟩
  · exact ⟨.int _ _, rfl, rfl⟩
  · rename_i s
    refine ⟨?_, rfl, rfl⟩
    have := VR.str (Φ := Φ) (Z := Z) (w := w) s.data.toList
    rw [Array.toArray_toList] at this
    exact this
  · exact ⟨.nilp, rfl, rfl⟩
  · exact ⟨.nils, rfl, rfl⟩
  · exact ⟨.nilf, rfl, rfl⟩

theorem ofVals_sound {Φ : Nat → Option Pl} {Z : Nat → Prop} {w : World} : ∀ {vs : List Value} {xs : List V}, ofVals vs = some xs → xs.length = vs.length ∧ ∀ i, i < xs.length → VR Φ Z w (xs.getD i .junk) (vs.getD i undef)
  | [], xs, h => by simp [ofVals] at h; subst h; simp
  | v :: r, xs, h => by
    simp only [ofVals] at h
    split at h <;> simp at h
    subst h
    rename_i x ys hx hy
    obtain ⟨h1, h2⟩ := ofVals_sound hy (Φ := Φ) (Z := Z) (w := w)
    refine ⟨by simp [h1], fun i hi => ?_⟩
    cases i with
    | zero => exact (ofVal1_sound hx).1
    | succ i => simp only [List.getD_cons_succ]; exact h2 i (by simpa using hi)

theorem ofVal_sound {Φ : Nat → Option Pl} {Z : Nat → Prop} {w : World} {v : Value} {x : V} (h : ofVal v = some x) : VR Φ Z w x v := by
  unfold ofVal at h
  split at h
  · simp only [Option.map_eq_some_iff] at h
    obtain ⟨xs, h1, rfl⟩ := h
    rename_i cs
    obtain ⟨h2, h3⟩ := ofVals_sound h1 (Φ := Φ) (Z := Z) (w := w)
    refine .agg _ _ (by simpa using h2.symm) fun i hi => ?_
    have := h3 i hi
    simpa [Array.getD_eq_getD_getElem?, List.getD_eq_getElem?_getD] using this
  · exact (ofVal1_sound h).1

/-- A value's cells, against the abstract one's. -/
theorem VR.cells {Φ : Nat → Option Pl} {Z : Nat → Prop} {w : World} {x : V} {v : Value} (h : VR Φ Z w x v) (hs : x.solid = true) :
    v.cells.size = x.cells.length ∧ ∀ j, j < x.cells.length → VR Φ Z w (x.cells.getD j .junk) (v.cells.getD j undef) := by
  cases h with
  | junk v => simp [V.solid] at hs
  | tup => simp [V.solid] at hs
  | agg cs rs hl h =>
    exact ⟨hl, h⟩
  | _ => 
    refine ⟨rfl, fun j hj => ?_⟩
    obtain rfl : j = 0 := by simp [V.cells] at hj; omega
    first
      | exact .bool _ | exact .int _ _ | exact .str _ | exact .nilp | exact .nilf | exact .nils | exact .vs0 _ _
      | (simp [V.cells, Value.cells, Array.getD]; constructor <;> assumption)
      | (simp [V.cells, Value.cells, Array.getD]; constructor)

theorem one_of_good {x : V} (h : x.one = true) : x.solid = true ∧ x.cells = [x] := by
  cases x <;> simp_all [V.one, V.solid, V.cells]

theorem oneCell_of {Φ : Nat → Option Pl} {Z : Nat → Prop} {w : World} {x : V} {v : Value} (h : VR Φ Z w x v) (hs : x.one = true) : v.oneCell' = true := by
  cases h <;> first | rfl | simp [V.one] at hs

theorem good_solid {n : Nat} {v : V} (h : Good n v) : v.solid = true := by
  cases v <;> first | rfl | (have := h.2 _ (by simp [V.cells]; rfl); simp [V.one] at this)

theorem zeroT_spec {t : TypeId} {z : V} {n : Nat} (h : zeroT P t = some (z, n)) : ∃ (i : TypeInfo) (zv : Value), P.info? t = some i ∧ i.zero = some zv ∧ ofVal zv = some z ∧ z.cells.length = n ∧ i.size = n := by
  unfold zeroT at h
  split at h
  · cases h
  rename_i i hi
  split at h
  · cases h
  rename_i zv hz
  split at h
  · cases h
  rename_i v hv
  split at h
  · rename_i hl
    simp at h
    obtain ⟨rfl, rfl⟩ := h
    exact ⟨i, zv, hi, hz, hv, hl, rfl⟩
  · cases h

theorem run_zeroValue_of {t : TypeId} {i : TypeInfo} {zv : Value} (hi : P.info? t = some i) (hz : i.zero = some zv) (w : World) : (zeroValue t).run P w = .ok zv w := by
  simp [zeroValue, typeInfo, hi, hz]

theorem solid_of_ofVal {zv : Value} {z : V} (h : ofVal zv = some z) : z.solid = true := by
  unfold ofVal at h
  split at h
  · simp only [Option.map_eq_some_iff] at h
    obtain ⟨xs, h1, rfl⟩ := h
    rfl
  · unfold ofVal1 at h
    split at h <;> simp at h <;> subst h <;> rfl

end
end Go.MW
