/- Copying, clearing, bytes and strings, and what else makes rows. -/
import Derived.Test.YtphbhoggcddgmaaDoorMwOps7
namespace Go.MW
open Go Go.RowKit
set_option linter.unusedVariables false
set_option linter.unusedSimpArgs false

section
variable {P : Program} {G : Nat → Option (List V)} {B : Nat} {Φ : Nat → Option Pl} {Z : Nat → Prop} {H : List Blk} {w : World} {a : Act} {fr : Fr} {K : V → List Blk → Prop} {o : Oper}

theorem ElR.take {sz n m : Nat} {ys : List V} {f : Nat → Value} (h : ElR Φ Z w sz n ys f) (hm : n ≤ m) : ElR Φ Z w sz n (ys.take m) f := by
  intro i j hi hj
  rw [getD_take _ _ _ _ (by omega)]
  exact h i j hi hj

/-- Elements written over those of a slice. -/
theorem wr_sound {sz : Nat} {xa : V} {base : Option Addr} {len cap : Nat} {ys : List V} {f : Nat → Value} {C : List Blk → Prop} (hrel : Rel G B Φ Z H w) (hv : VR Φ Z w xa (.slice base len cap)) (hlen : ys.length ≤ len) (he : ElR Φ Z w sz ys.length ys f)
    (h : wrK sz xa ys H C) : ∃ w' Φ' H', C H' ∧ Rel G B Φ' Z H' w' ∧ Ev B Φ Z w Φ' Z w' ∧ (∀ ad, base = some ad → (storeCells ad ((List.range (ys.length * sz)).map f)).run P w = .ok () w') ∧ (base = none → w' = w) := by
  obtain ⟨hg, h⟩ := h
  have none' : ∀ {H'}, ys = [] → C H → H' = H → ∃ w' Φ' H', C H' ∧ Rel G B Φ' Z H' w' ∧ Ev B Φ Z w Φ' Z w' ∧ (∀ ad, base = some ad → (storeCells ad ((List.range (ys.length * sz)).map f)).run P w = .ok () w') ∧ (base = none → w' = w) := by
    intro H' h0 hC _
    subst h0
    exact ⟨w, Φ, H, hC, hrel, Ev.refl _ _ _ _, fun ad _ => (by simp [storeCells]), fun _ => rfl⟩
  split at h
  · rename_i b n i j len' cap' sz'
    obtain ⟨rfl, hle, h⟩ := h
    split at h
    · rename_i rsz xs opn frz hH
      obtain ⟨hn, rfl, h⟩ := h
      obtain ⟨p, rcap, hp, ok, hsl, hle', hcap⟩ := hs_inv hrel hv hH hn
      obtain ⟨rfl, rfl, rfl⟩ := Value.slice.inj hsl
      have hrow := ok.row
      obtain ⟨c0, t0, fz0, hcb0, hfz0, hre0, hle0, hop0, hcv0⟩ := hrow
      split at h
      · rename_i hc
        obtain ⟨rfl, rfl⟩ := hc
        obtain ⟨h1, hC⟩ := h
        obtain ⟨w', p', hst, hr', hev, _⟩ := Rel.storeEls (P := P) (i := i) (m := ys.length) hrel hp ok hg rfl he (by omega) (by
          have : (i + ys.length) * rsz ≤ xs.length * rsz := Nat.mul_le_mul_right _ (by omega)
          omega) (fun _ => by omega)
        exact ⟨w', _, _, hC, hr', hev, fun ad had => by obtain rfl := Option.some.inj had; exact hst, fun h => by cases h⟩
      · obtain ⟨rfl, h1, h2, h3, hC⟩ := h
        have hcs := ok.csz i (by omega)
        obtain ⟨w', Φ', hst, hr', hev⟩ := Rel.setCells (P := P) (i := i) (j := j) (x := .agg (setR (xs.getD i .junk).cells j ys)) (vs := (List.range (ys.length * 1)).map f) (m := 0) (xv := .junk) (r0 := 0) hrel hp ok (by omega) (by simp; omega)
          (goods_one hg (Nat.le_refl _) he) (by rw [agg_cells, setR_length]; exact hcs) (fun q hq => by
            simp only [List.length_map, List.length_range, Nat.mul_one, agg_cells]
            rw [setR_getD _ _ _ _ (by omega)]
            refine ⟨fun hh => ?_, fun hh => by rw [if_neg hh]⟩
            rw [if_pos hh, range_getD _ _ _ (by omega)]
            have h4 := he (q - j) 0 (by omega) (by omega)
            rw [one_cells (h3 _ (getD_mem (by omega)))] at h4
            simpa using h4)
        exact ⟨w', Φ', _, hC, hr', hev, fun ad had => by obtain rfl := Option.some.inj had; exact hst, fun h => by cases h⟩
    · exact h.elim
  · exact none' h.1 h.2 rfl
  · exact none' h.1 h.2 rfl
  · exact h.elim

theorem lenK1_inv {xa : V} {rv : Value} {C : V → Prop} (hv : VR Φ Z w xa rv) (h : lenK 1 H xa C) : ∃ base len cap, rv = .slice base len cap ∧ C (.int .i64 len) := by
  unfold lenK at h
  split at h
  · omega
  · cases hv with
    | vs _ ad sz cap => exact ⟨_, _, _, rfl, h⟩
    | vs0 b cap => exact ⟨_, _, _, rfl, h⟩
  · cases hv with
    | nils => exact ⟨_, _, _, rfl, h⟩
  · cases hv with
    | hs => exact ⟨_, _, _, rfl, h⟩
  · omega
  · exact h.elim

theorem cpy_sound {t u e : TypeId} {sz : Nat} {x y : Operand} {x' y' : Opd} {c : Call} (hrel : Rel G B Φ Z H w) (hf : FrR Φ Z w fr a) (ho : o.op = .call c) (hc : c.callee = .builtin .copy) (hat : c.argTypes = #[t, u]) (hargs : c.args = #[x, y])
    (ht : P.underlying t = some (.slice e)) (hs : sizeT P e = some sz) (hx : opd x = some x') (hy : opd y = some y')
    (h : elemsK H (ev G fr y') fun ys => lenK 1 H (ev G fr x') fun l => match l with
      | .int _ n => wrK sz (ev G fr x') (ys.take n.toNat) H fun H' => K (.int .i64 (Nat.min ys.length n.toNat)) H'
      | _ => False) : Comes' P G B o a w Φ Z K := by
  have hv := ev_sound (x := x) hrel.glob hf hx
  have hv2 := ev_sound (x := y) hrel.glob hf hy
  have hex : (execOp a.eval o).run P w = ((Builtin.copy_ #[t, u] o.type #[a.eval x, a.eval y]).run P w).andThen fun v w => .ok (.value v) w := by
    simp [execOp, ho, resolve, hc, hat, hargs, invoke, builtin]
  generalize a.eval x = xv at hv hex
  generalize a.eval y = yv at hv2 hex
  generalize ev G fr x' = xa at hv h
  generalize ev G fr y' = ya at hv2 h
  obtain ⟨ys, h, hel⟩ := elems_sound (P := P) hrel hv2 h
  obtain ⟨base, len, cap, rfl, h⟩ := lenK1_inv hv h
  simp only [Int.toNat_natCast] at h
  have hmin : Nat.min ys.length len = (ys.take len).length := by rw [List.length_take]; exact Nat.min_comm _ _
  have hg := h.1
  obtain ⟨f, hf1, hfr⟩ := hel.2 sz (ys.take len).length (by simp; omega) (fun i hi => by
    rw [← getD_take _ len _ _ (by simp at hi; omega)]
    exact goods_len hg _ (getD_mem hi))
  obtain ⟨w', Φ', H', hK, hr', hev, hst, hno⟩ := wr_sound (P := P) hrel hv (by simp; omega) (hfr.take (by simp; omega)) h
  refine .value (w' := w') (rv := .int .i64 (Nat.min ys.length len : Nat)) ?_ hK (.int _ _) hr' hev
  rw [hex]
  rw [← hmin] at hf1 hst
  cases base with
  | none =>
    rw [hno rfl]
    simp [Builtin.copy_, run_underlying ht, run_sizeT hs, hel.1]
    rw [hf1]
    simp
    rfl
  | some ad =>
    have := hst ad rfl
    simp [Builtin.copy_, run_underlying ht, run_sizeT hs, hel.1]
    rw [hf1]
    simp [this]
    rfl

theorem range_zero (zv : Array Value) (n : Nat) : (Builtin.zeroCells zv n).toList = (List.range (n * zv.size)).map fun q => zv[q % zv.size]! := by
  simp [Builtin.zeroCells]

theorem ElR.zeros {z : V} {zv : Array Value} {sz : Nat} (h : CellsR Φ Z w z.cells zv) (hl : z.cells.length = sz) (n : Nat) : ElR Φ Z w sz n (List.replicate n z) fun q => zv[q % sz]! := by
  intro i j hi hj
  have h1 : (i * sz + j) % sz = j := by
    rw [Nat.mul_comm, Nat.mul_add_mod, Nat.mod_eq_of_lt hj]
  have h2 : (List.replicate n z).getD i .junk = z := by simp [List.getD_eq_getElem?_getD, hi]
  simp only [h1, h2]
  have := h.2 j (by omega)
  have hlt : j < zv.size := by rw [h.1]; omega
  simpa [hlt, Array.getD] using this

theorem clr_sound {t e : TypeId} {z : V} {sz : Nat} {x : Operand} {x' : Opd} {c : Call} (hrel : Rel G B Φ Z H w) (hf : FrR Φ Z w fr a) (ho : o.op = .call c) (hc : c.callee = .builtin .clear) (hat : c.argTypes = #[t]) (hargs : c.args = #[x])
    (ht : P.underlying t = some (.slice e)) (hz : zeroT P e = some (z, sz)) (hx : opd x = some x')
    (h : lenK 1 H (ev G fr x') fun l => match l with
      | .int _ n => wrK sz (ev G fr x') (List.replicate n.toNat z) H fun H' => K .junk H'
      | _ => False) : Comes' P G B o a w Φ Z K := by
  have hv := ev_sound (x := x) hrel.glob hf hx
  have hex : (execOp a.eval o).run P w = ((Builtin.clear_ #[t] o.type #[a.eval x]).run P w).andThen fun v w => .ok (.value v) w := by
    simp [execOp, ho, resolve, hc, hat, hargs, invoke, builtin]
  generalize a.eval x = xv at hv hex
  generalize ev G fr x' = xa at hv h
  obtain ⟨zv, hzr, _, hzc, hzl, _, hs⟩ := zero_cells (Φ := Φ) (Z := Z) (w := w) hz
  have hzs : zv.cells.size = sz := by rw [hzc.1, hzl]
  obtain ⟨base, len, cap, rfl, h⟩ := lenK1_inv hv h
  simp only [Int.toNat_natCast] at h
  obtain ⟨w', Φ', H', hK, hr', hev, hst, hno⟩ := wr_sound (P := P) (f := fun q => zv.cells[q % sz]!) hrel hv (by simp) (by simpa using ElR.zeros hzc hzl len) h
  refine .value (w' := w') (rv := .tuple #[]) ?_ hK (.junk _) hr' hev
  rw [hex]
  simp only [List.length_replicate] at hst
  cases base with
  | none =>
    rw [hno rfl]
    simp [Builtin.clear_, run_underlying ht]
  | some ad =>
    have h1 := hst ad rfl
    have h2 : (storeCells ad (Builtin.zeroCells zv.cells len).toList).run P w = .ok () w' := by rw [range_zero, hzs]; exact h1
    cases len with
    | zero =>
      have : w' = w := by
        simp [storeCells] at h1
        exact h1.symm
      rw [this]
      simp [Builtin.clear_, run_underlying ht]
    | succ n =>
      simp [Builtin.clear_, run_underlying ht, hzr, -Array.toList_map, h2]

theorem map_u8_inj : ∀ {a b : List UInt8}, a.map u8V = b.map u8V → a = b
  | [], [], _ => rfl
  | [], _ :: _, h => by simp at h
  | _ :: _, [], h => by simp at h
  | x :: a, y :: b, h => by
    simp only [List.map_cons, List.cons.injEq] at h
    have h1 : x = y := by
      have := h.1
      simp [u8V] at this
      exact UInt8.toNat_inj.1 (by omega)
    rw [h1, map_u8_inj h.2]

theorem slice_of_elems {xa : V} {xv : Value} {C : List V → Prop} (hv : VR Φ Z w xa xv) (hns : xa.isStr = false) (h : elemsK H xa C) : ∃ base len cap, xv = .slice base len cap := by
  cases hv <;> first | exact ⟨_, _, _, rfl⟩ | (exfalso; exact h) | cases hns

theorem b2s_sound {s d e : TypeId} {x : Operand} {x' : Opd} (hrel : Rel G B Φ Z H w) (hf : FrR Φ Z w fr a) (ho : o.op = .convert s d x) (hs : P.underlying s = some (.slice e)) (hd : P.underlying d = some .string) (he : P.underlying e = some (.int .u8)) (hx : opd x = some x')
    (hns : (ev G fr x').isStr = false) (h : elemsK H (ev G fr x') fun xs => bytesK xs (K · H)) : Reads P o a w Φ Z (K · H) := by
  have hv := ev_sound (x := x) hrel.glob hf hx
  have hex : (execOp a.eval o).run P w = ((convert s d (a.eval x)).run P w).andThen fun v w => .ok (.value v) w := by simp [execOp, ho]
  generalize a.eval x = xv at hv hex
  generalize ev G fr x' = xa at hv h hns
  obtain ⟨base, len, cap, rfl⟩ := slice_of_elems hv hns h
  obtain ⟨xs, ⟨l, rfl, hK⟩, hel⟩ := elems_sound (P := P) hrel hv h
  have hlen := hel.1
  obtain ⟨f, hf1, hfr⟩ := hel.2 1 l.length (by simp) (fun i hi => by simp [List.getD_eq_getElem?_getD, hi, u8V, V.cells])
  refine .here (rv := .string ⟨l.toArray⟩) ?_ hrel hK (.str _)
  rw [hex]
  have hcell : ∀ q, q < l.length → f q = .int .u8 ((l.getD q 0).toNat : Int) := by
    intro q hq
    have := hfr q 0 hq (by omega)
    rw [show ((l.map u8V).getD q .junk) = u8V (l.getD q 0) by simp [List.getD_eq_getElem?_getD, hq]] at this
    simpa [u8V, V.cells] using this.int_inv
  have hmap : (List.range (l.length * 1)).map f = (l.map fun b => (b.toNat : Int)).map (Value.int .u8) := by
    apply List.ext_getElem?
    intro q
    by_cases hq : q < l.length
    · simp [hq, hcell q hq]
    · simp [hq]
  rw [hmap] at hf1
  have hle : len = l.length := by simpa [Builtin.lenOf] using hlen
  subst hle
  rw [run_convert_bytes_string w s d e base l.length cap hs he hd]
  cases base with
  | none =>
    have : l = [] := by
      simp [Builtin.firstCells] at hf1
      exact hf1
    subst this
    simp [Conv.bytesToString]
    rfl
  | some ad =>
    simp only [Builtin.firstCells, Nat.mul_one] at hf1
    rw [run_bytesToString w ad l.length cap _ hf1, foldl_push_byteCells]
    have he0 : ByteArray.empty.data = #[] := rfl
    rw [he0]
    simp

/-- A slice's elements laid. -/
theorem fillS_sound {sz n : Nat} (hg : GlobOK G Z w) (hf : FrR Φ Z w fr a) {C : List V → Prop} : ∀ (parts : List (Nat × Operand)) (parts' : List (Nat × Opd)) (xs : List V) (rs : Array Value), compPartsS n parts = some parts' →
    xs.length = n → rs.size = n * sz → (∀ i, i < n → (xs.getD i .junk).cells.length = sz) → ElR Φ Z w sz n xs (fun q => rs.getD q undef) → partsS G fr sz xs parts' C →
    ∃ xs' rs', C xs' ∧ xs'.length = n ∧ rs'.size = n * sz ∧ (∀ i, i < n → (xs'.getD i .junk).cells.length = sz) ∧ ElR Φ Z w sz n xs' (fun q => rs'.getD q undef) ∧
      Instr.fill (fun i => some (i * sz, sz)) rs (parts.map fun (i, x) => (i, a.eval x)) = some rs'
  | [], parts', xs, rs, hp, hn, hs, hc, he, h => by
    simp [compPartsS] at hp
    subst hp
    exact ⟨xs, rs, h, hn, hs, hc, he, rfl⟩
  | (i, x) :: parts, parts', xs, rs, hp, hn, hs, hc, he, h => by
    simp only [compPartsS] at hp
    split at hp <;> try (simp at hp; done)
    rename_i y as hy has
    split at hp <;> simp at hp
    rename_i hin
    subst hp
    obtain ⟨h1, h2, h3⟩ := h
    obtain ⟨h4, h5⟩ := (ev_sound hg hf hy).cells h1
    have e1 : (a.eval x).cells.zipIdx.foldl (fun cs (c, j) => cs.setIfInBounds (i * sz + j) c) rs = ((a.eval x).cells.toList.zipIdx 0).foldl (fun cs (c, j) => cs.setIfInBounds (i * sz + j) c) rs := by
      rw [← Array.foldl_toList, Array.toList_zipIdx]
    have hls : (a.eval x).cells.toList.length = sz := by simp; omega
    have hle : (i + 1) * sz ≤ n * sz := Nat.mul_le_mul_right _ hin
    rw [Nat.add_mul] at hle
    obtain ⟨h6, h7⟩ := foldl_set (i * sz) (a.eval x).cells.toList 0 rs (by omega)
    obtain ⟨xs', rs', g1, g2, g3, g4, g5, g6⟩ := fillS_sound hg hf parts as (xs.set i (ev G fr y)) ((a.eval x).cells.zipIdx.foldl (fun cs (c, j) => cs.setIfInBounds (i * sz + j) c) rs) has (by simpa using hn) (by rw [e1, h6]; exact hs) (fun q hq => by
      by_cases hqi : q = i
      · subst hqi; simp [List.getD_eq_getElem?_getD, hn, hq, h2]
      · have := hc q hq
        simpa [List.getD_eq_getElem?_getD, List.getElem?_set_ne (Ne.symm hqi)] using this) (fun q j hq hj => by
      simp only [e1]
      rw [h7]
      simp only [Nat.add_zero, hls]
      by_cases hqi : q = i
      · subst hqi
        rw [if_pos (by omega), show q * sz + j - q * sz = j by omega]
        have := h5 j (by omega)
        simp only [List.getD_eq_getElem?_getD, Array.getD_eq_getD_getElem?] at this ⊢
        rw [List.getElem?_set_self (by omega)]
        simpa using this
      · rw [if_neg]
        · have := he q j hq hj
          simpa [List.getD_eq_getElem?_getD, List.getElem?_set_ne (Ne.symm hqi)] using this
        · intro hh
          have h8 : i * sz < (q + 1) * sz := by rw [Nat.add_mul]; omega
          have h9 : q * sz < (i + 1) * sz := by rw [Nat.add_mul]; omega
          have h10 := Nat.lt_of_mul_lt_mul_right h8
          have h11 := Nat.lt_of_mul_lt_mul_right h9
          omega) h3
    refine ⟨xs', rs', g1, g2, g3, g4, g5, ?_⟩
    simp only [List.map_cons, Instr.fill]
    rw [if_neg]
    · exact g6
    · have h12 : (a.eval x).cells.size = sz := by omega
      simp [h12]
      omega

theorem replicate_getD {z : V} {n i : Nat} (h : i < n) : (List.replicate n z).getD i .junk = z := by simp [List.getD_eq_getElem?_getD, h]

theorem bslice_sound {t e : TypeId} {len : Nat} {parts : Array (Nat × Operand)} {parts' : List (Nat × Opd)} {z : V} {sz : Nat} {C : (Nat → V) → Blk → Prop} (hrel : Rel G B Φ Z H w) (hf : FrR Φ Z w fr a) (ho : o.op = .buildSlice t len parts)
    (ht : P.underlying t = some (.slice e)) (hz : zeroT P e = some (z, sz)) (hle : ¬ (len * sz > 2 ^ 24)) (hp : compPartsS len parts.toList = some parts')
    (h : partsS G fr sz (List.replicate len z) parts' fun xs => C (fun q => .hs q len 0 0 len (some len) sz) (.row sz xs false false)) : Makes P G B o a w Φ Z C := by
  obtain ⟨zv, hzr, _, hzc, hzl, _, hs⟩ := zero_cells (Φ := Φ) (Z := Z) (w := w) hz
  have hzs : zv.cells.size = sz := by rw [hzc.1, hzl]
  have hel := ElR.zeros hzc hzl len
  have hrs : ∃ zc : Array Value, (∀ rs', Instr.fill (fun i => some (i * sz, sz)) ((Array.range (len * sz)).map (zc[· % zc.size]!)) (parts.toList.map fun (i, x) => (i, a.eval x)) = some rs' →
      (execOp a.eval o).run P w = .ok (.value (.slice (some ⟨w.heap.size, 0, none⟩) len len)) (w.alloc (.cells rs' e))) ∧ ElR Φ Z w sz len (List.replicate len z) (fun q => ((Array.range (len * sz)).map (zc[· % zc.size]!)).getD q undef) := by
    by_cases h0 : len * sz = 0
    · refine ⟨#[], fun rs' hf => ?_, fun i j hi hj => ?_⟩
      · simp [h0] at hf
        simp [execOp, ho, Instr.buildSlice, run_underlying ht, run_sizeT hs, h0, newRow, hf]
      have := mul_in (n := len) hi hj
      omega
    · refine ⟨zv.cells, fun rs' hf => ?_, fun i j hi hj => ?_⟩
      · have hle' : ¬ (16777216 < len * sz) := by omega
        simp at hf
        simp [execOp, ho, Instr.buildSlice, run_underlying ht, run_sizeT hs, h0, hle', hzr, newRow, hf]
      have hq := mul_in (n := len) hi hj
      have := hel i j hi hj
      simpa [Array.getD_eq_getD_getElem?, hq, hzs] using this
  obtain ⟨zc, hzrun, hel⟩ := hrs
  obtain ⟨xs', rs', g1, g2, g3, g4, g5, g6⟩ := fillS_sound (sz := sz) hrel.glob hf parts.toList parts' (List.replicate len z) ((Array.range (len * sz)).map (zc[· % zc.size]!)) hp (by simp) (by simp) (fun i hi => by rw [replicate_getD hi]; exact hzl) hel h
  refine makes_row (rv := .slice (some ⟨w.heap.size, 0, none⟩) len len) (c := rs') (e := e) (fz := (0, 0)) (w0 := w) ?_ (.inl rfl) g1 (.inl (Nat.le_refl _)) (by rw [g2, g3]; exact Nat.le_refl _) (fun _ => by rw [g2, g3]) (fun i hi => g4 i (by omega)) (fun i j hi hj => g5 i j (by omega) hj) ?_
  · exact hzrun _ g6
  · intro Φ' b w' hp
    exact .hs _ _ _ _ _ _ _ _ _ _ hp (by simp [g2]) fun _ => ⟨by simp, Nat.le_refl _, rfl⟩

theorem mks_sound {t e : TypeId} {l c : Operand} {l' c' : Opd} {z : V} {sz by_ : Nat} {C : (Nat → V) → Blk → Prop} (hrel : Rel G B Φ Z H w) (hf : FrR Φ Z w fr a) (ho : o.op = .makeSlice t l c)
    (ht : P.underlying t = some (.slice e)) (hz : zeroT P e = some (z, sz)) (hb : bytesT P e = some by_) (hl : opd l = some l') (hc : opd c = some c')
    (h : mksK sz by_ z (ev G fr l') (ev G fr c') C) : Makes P G B o a w Φ Z C := by
  have hv := ev_sound (x := l) hrel.glob hf hl
  have hv2 := ev_sound (x := c) hrel.glob hf hc
  have hex : (execOp a.eval o).run P w = ((Instr.makeSlice t (a.eval l) (a.eval c)).run P w).andThen fun v w => .ok (.value v) w := by simp [execOp, ho]
  generalize a.eval l = lv at hv hex
  generalize a.eval c = cv at hv2 hex
  generalize ev G fr l' = la at hv h
  generalize ev G fr c' = ca at hv2 h
  obtain ⟨zv, hzr, _, hzc, hzl, _, hs⟩ := zero_cells (Φ := Φ) (Z := Z) (w := w) hz
  obtain ⟨i, zv', hi, hz0, hov, hzl', hisz⟩ := zeroT_spec hz
  have hzv : zv' = zv := by
    have e1 := run_zeroValue_of hi hz0 w
    rw [hzr w] at e1
    injection e1 with e1 _
    exact e1.symm
  subst hzv
  have hzs : zv'.cells.size = sz := by rw [hzc.1, hzl]
  unfold mksK at h
  split at h
  · rename_i k1 p k2 q
    obtain ⟨h0, hle, h63, h48, hC⟩ := h
    obtain rfl := hv.int_inv
    obtain rfl := hv2.int_inv
    have hib : i.bytes = by_ := by simpa [bytesT, hi] using hb
    have hrun := run_make (P := P) w t e i zv' ht hi hz0 k1 k2 p q h0 hle (by rw [hib]; omega) (by omega)
    rw [hisz] at hrun
    refine makes_row (rv := .slice (some ⟨w.heap.size, 0, none⟩) p.toNat q.toNat) (c := madeCells zv'.cells (q.toNat * sz)) (e := e) (fz := (0, 0)) (w0 := w) (by rw [hex, hrun]; rfl) (.inl rfl) hC (.inl (Nat.le_refl _))
      (by rw [size_madeCells]; simp) (fun _ => by rw [size_madeCells]; simp) (fun j hj => by simp at hj; rw [replicate_getD (by omega)]; exact hzl) (fun j m hj hm => ?_) ?_
    · simp only [List.length_replicate] at hj
      have hq := mul_in (n := q.toNat) hj hm
      have := ElR.zeros hzc hzl q.toNat j m hj hm
      simpa [madeCells, Array.getD_eq_getD_getElem?, hq, hzs] using this
    · intro Φ' b w' hp
      exact .hs _ _ _ _ _ _ _ _ _ _ hp (by simp) fun _ => ⟨by simp, by omega, rfl⟩
  · exact h.elim

theorem s2b_sound {s d e : TypeId} {x : Operand} {x' : Opd} {l : List UInt8} {C : (Nat → V) → Blk → Prop} (hrel : Rel G B Φ Z H w) (hf : FrR Φ Z w fr a) (ho : o.op = .convert s d x) (hs : P.underlying s = some .string) (hd : P.underlying d = some (.slice e)) (he : P.underlying e = some (.int .u8)) (hx : opd x = some x')
    (hl : ev G fr x' = .str l) (h : C (fun q => .hs q l.length 0 0 l.length none 1) (.row 1 (l.map u8V) true false)) : Makes P G B o a w Φ Z C := by
  have hv := ev_sound (x := x) hrel.glob hf hx
  rw [hl] at hv
  have hs' := hv.str_inv
  have hrun := run_bytes_of_string (P := P) w s d e ⟨l.toArray⟩ hs hd he
  have hsize : (⟨l.toArray⟩ : ByteArray).size = l.length := bytes_size l
  rw [hsize] at hrun
  have hcap := grownCap_le w l.length 0 e
  have hbs : (bytesRow ⟨l.toArray⟩ (grownCap w l.length 0 e)).size = grownCap w l.length 0 e := by
    simp [bytesRow, hsize]
    omega
  refine makes_row (rv := .slice (some ⟨w.heap.size, 0, none⟩) l.length (grownCap w l.length 0 e)) (xs := l.map u8V) (sz := 1) (w0 := w.drew) (opn := true) (by simp only [execOp, ho, Sem.run_bind, hs', hrun]; rfl) (.inr rfl) h (.inr (Nat.le_refl _))
    (by rw [hbs]; simpa using hcap) (by simp) (fun i hi => by simp at hi; simp [List.getD_eq_getElem?_getD, hi, u8V, V.cells]) (fun i j hi hj => ?_) ?_
  · simp at hi
    obtain rfl : j = 0 := by omega
    have := bytesRow_at ⟨l.toArray⟩ (grownCap w l.length 0 e) i (by simpa using hi)
    simp [List.getD_eq_getElem?_getD, hi, u8V, V.cells, Array.getD_eq_getD_getElem?, this]
    exact .int _ _
  · intro Φ' b w' hp
    refine .hs _ _ _ _ _ _ _ _ _ _ hp (by simp) fun _ => ⟨by simp, hcap, ?_⟩
    simp [capOK, hbs]

theorem mkm_sound {t : TypeId} {C : (Nat → V) → Blk → Prop} (ho : o.op = .makeMap t none) (h : C (fun q => .map q) (.map [])) : Makes P G B o a w Φ Z C := by
  refine ⟨.map (some w.heap.size), _, _, w.alloc (.map #[] 0), by simp [execOp, ho, Instr.makeMap], h, fun H b hrel hH hb => ⟨⟨w.heap.size, 0, 0, 0⟩, ?_⟩⟩
  have := hrel.make (p := ⟨w.heap.size, 0, 0, 0⟩) (.map #[] 0) hb hH rfl (fun w' hw' vr => by
    refine ⟨rfl, ⟨#[], 0, ?_, rfl, fun i hi => by simp at hi⟩, fun hz => ?_⟩
    · rw [hw']
      show (w.heap.push _)[w.heap.size]? = _
      simp
    · have := hrel.zin _ hz
      simp at this)
  exact ⟨this.1, this.2, .map _ _ _ (put1_same _ _ _) fun _ => rfl⟩

end
end Go.MW
