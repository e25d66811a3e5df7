/- What is built, and what makes a block. -/
import Derived.Test.YtphbhoggcddgmaaDoorMwEqT
namespace Go.MW
open Go Go.RowKit
set_option linter.unusedVariables false
set_option linter.unusedSimpArgs false

section
variable {P : Program} {G : Nat → Option (List V)} {B : Nat} {Φ : Nat → Option Pl} {Z : Nat → Prop} {H : List Blk} {w : World} {a : Act} {fr : Fr} {K : V → List Blk → Prop} {o : Oper}

/-- Cells, against an array. -/
def CellsR (Φ : Nat → Option Pl) (Z : Nat → Prop) (w : World) (cs : List V) (rs : Array Value) : Prop := rs.size = cs.length ∧ ∀ i, i < cs.length → VR Φ Z w (cs.getD i .junk) (rs.getD i undef)

theorem foldl_set (off : Nat) : ∀ (l : List Value) (j : Nat) (cs : Array Value), off + j + l.length ≤ cs.size →
    ((l.zipIdx j).foldl (fun cs (c, j) => cs.setIfInBounds (off + j) c) cs).size = cs.size ∧
    ∀ q, ((l.zipIdx j).foldl (fun cs (c, j) => cs.setIfInBounds (off + j) c) cs).getD q undef = if off + j ≤ q ∧ q < off + j + l.length then l.getD (q - (off + j)) undef else cs.getD q undef
  | [], j, cs, h => ⟨rfl, fun q => by rw [if_neg (by rintro ⟨h1, h2⟩; simp at h2; omega)]; rfl⟩
  | c :: l, j, cs, h => by
    simp only [List.zipIdx_cons, List.foldl_cons]
    obtain ⟨h1, h2⟩ := foldl_set off l (j + 1) (cs.setIfInBounds (off + j) c) (by simp at h ⊢; omega)
    refine ⟨by simpa using h1, fun q => ?_⟩
    rw [h2]
    have hlt : off + j < cs.size := by simp at h; omega
    simp only [List.length_cons]
    by_cases hq : q = off + j
    · subst hq
      rw [if_neg (by omega), if_pos (by omega), Nat.sub_self]
      simp [Array.getD, hlt]
    · by_cases hq2 : off + (j + 1) ≤ q ∧ q < off + (j + 1) + l.length
      · rw [if_pos hq2, if_pos (by omega), show q - (off + j) = (q - (off + (j + 1))) + 1 by omega, List.getD_cons_succ]
      · rw [if_neg hq2, if_neg (by omega)]
        simp only [Array.getD_eq_getD_getElem?, Array.getElem?_setIfInBounds]
        rw [if_neg (Ne.symm hq)]

/-- A part laid over cells. -/
theorem CellsR.lay {cs : List V} {rs : Array Value} {x : V} {v : Value} {off sz : Nat} (h : CellsR Φ Z w cs rs) (hv : VR Φ Z w x v) (hs : x.solid = true) (hl : x.cells.length = sz) (ho : off + sz ≤ cs.length) :
    v.cells.size = sz ∧ CellsR Φ Z w (setR cs off x.cells) (v.cells.zipIdx.foldl (fun cs (c, j) => cs.setIfInBounds (off + j) c) rs) := by
  obtain ⟨h1, h2⟩ := hv.cells hs
  refine ⟨by omega, ?_⟩
  have e : v.cells.zipIdx.foldl (fun cs (c, j) => cs.setIfInBounds (off + j) c) rs = (v.cells.toList.zipIdx 0).foldl (fun cs (c, j) => cs.setIfInBounds (off + j) c) rs := by
    rw [← Array.foldl_toList, Array.toList_zipIdx]
  have hle : off + 0 + v.cells.toList.length ≤ rs.size := by have := h.1; simp; omega
  obtain ⟨h3, h4⟩ := foldl_set off v.cells.toList 0 rs hle
  rw [e]
  refine ⟨by rw [h3, setR_length]; exact h.1, fun i hi => ?_⟩
  rw [setR_length] at hi
  rw [h4, setR_getD _ _ _ _ (by omega)]
  have hlen : v.cells.toList.length = x.cells.length := by simp; omega
  simp only [hlen, Nat.add_zero]
  split
  · have := h2 (i - off) (by omega)
    simpa [Array.getD_eq_getD_getElem?, List.getD_eq_getElem?_getD] using this
  · exact h.2 i hi

theorem build_fill (place : Nat → Option (Nat × Nat)) (hg : GlobOK G Z w) (hf : FrR Φ Z w fr a) {C : List V → Prop} (n : Nat) : ∀ (parts : List (Nat × Operand)) (parts' : List (Nat × Nat × Opd)) (cs : List V) (rs : Array Value),
    (∀ (P' : List (Nat × Operand) → List (Nat × Nat × Opd) → Prop), P' [] [] → (∀ i x r off sz y r', place i = some (off, sz) → opd x = some y → off + sz ≤ n → P' r r' → P' ((i, x) :: r) ((off, sz, y) :: r')) → P' parts parts') →
    CellsR Φ Z w cs rs → cs.length = n → partsV G fr cs parts' C → ∃ cs' rs', C cs' ∧ CellsR Φ Z w cs' rs' ∧ Instr.fill place rs (parts.map fun (i, x) => (i, a.eval x)) = some rs' := by
  intro parts parts' cs rs hpp
  revert cs rs
  refine hpp (fun parts parts' => ∀ cs rs, CellsR Φ Z w cs rs → cs.length = n → partsV G fr cs parts' C → ∃ cs' rs', C cs' ∧ CellsR Φ Z w cs' rs' ∧ Instr.fill place rs (parts.map fun (i, x) => (i, a.eval x)) = some rs') ?_ ?_
  · intro cs rs h _ hp
    exact ⟨cs, rs, hp, h, rfl⟩
  · intro i x r off sz y r' hpl hx hos ih cs rs h hn hp
    obtain ⟨h1, h2, h3⟩ := hp
    obtain ⟨h4, h5⟩ := h.lay (off := off) (sz := sz) (ev_sound hg hf hx) h1 h2 (by omega)
    obtain ⟨cs', rs', h6, h7, h8⟩ := ih _ _ h5 (by rw [setR_length]; exact hn) h3
    refine ⟨cs', rs', h6, h7, ?_⟩
    simp only [List.map_cons, Instr.fill, hpl]
    rw [if_neg]
    · exact h8
    · have := h.1
      simp [h4]
      omega

theorem zero_cells {t : TypeId} {z : V} {n : Nat} (h : zeroT P t = some (z, n)) : ∃ zv, (∀ w, (zeroValue t).run P w = .ok zv w) ∧ VR Φ Z w z zv ∧ CellsR Φ Z w z.cells zv.cells ∧ z.cells.length = n ∧ z.solid = true ∧ sizeT P t = some n := by
  obtain ⟨i, zv, h1, h2, h3, h4, h5⟩ := zeroT_spec h
  have hs := solid_of_ofVal h3
  exact ⟨zv, run_zeroValue_of h1 h2, ofVal_sound h3, (ofVal_sound h3).cells hs, h4, hs, by simp [sizeT, h1, h5]⟩

theorem mapM_get {α β : Type} (g : α → Option β) : ∀ (l : List α) (r : List β), l.mapM g = some r → ∀ i : Nat, r[i]? = (l[i]?).bind g
  | [], r, h, i => by simp at h; subst h; simp
  | x :: l, r, h, i => by
    simp only [List.mapM_cons, Option.bind_eq_bind, Option.pure_def] at h
    cases hx : g x with
    | none => simp [hx] at h
    | some y =>
      cases hl : l.mapM g with
      | none => simp [hx, hl] at h
      | some ys =>
        simp [hx, hl] at h
        subst h
        cases i with
        | zero => simp [hx]
        | succ i => simpa using mapM_get g l ys hl i

theorem parts_ind {place : Nat → Option (Nat × Nat)} {fs : Array Field} {n : Nat} (hpl : ∀ i, place i = (fs[i]?).bind fun f => (P.info? f.type).map fun i => (f.offset, i.size)) :
    ∀ (l : List (Nat × Operand)) (l' : List (Nat × Nat × Opd)), compParts P fs n l = some l' →
        ∀ (P' : List (Nat × Operand) → List (Nat × Nat × Opd) → Prop), P' [] [] → (∀ i x r off sz y r', place i = some (off, sz) → opd x = some y → off + sz ≤ n → P' r r' → P' ((i, x) :: r) ((off, sz, y) :: r')) → P' l l' := by
  intro l
  induction l with
  | nil => intro l' h P' h0 _; simp [compParts] at h; subst h; exact h0
  | cons x l ih =>
    obtain ⟨i, x⟩ := x
    intro l' h P' h0 hs
    simp only [compParts] at h
    split at h <;> try (simp at h; done)
    rename_i f y as hf hy has
    split at h <;> try (simp at h; done)
    rename_i s hsz
    split at h <;> simp at h
    subst h
    refine hs i x l f.offset s y as ?_ hy (by assumption) (ih _ has P' h0 hs)
    rw [hpl, hf]
    simp only [sizeT, Option.map_eq_some_iff] at hsz
    obtain ⟨ti, h1, h2⟩ := hsz
    simp [h1, h2]

theorem partsA_ind {sz n : Nat} : ∀ (l : List (Nat × Operand)) (l' : List (Nat × Nat × Opd)), compPartsA sz n l = some l' →
        ∀ (P' : List (Nat × Operand) → List (Nat × Nat × Opd) → Prop), P' [] [] → (∀ i x r off s y r', some (i * sz, sz) = some (off, s) → opd x = some y → off + s ≤ n → P' r r' → P' ((i, x) :: r) ((off, s, y) :: r')) → P' l l' := by
  intro l
  induction l with
  | nil => intro l' h P' h0 _; simp [compPartsA] at h; subst h; exact h0
  | cons x l ih =>
    obtain ⟨i, x⟩ := x
    intro l' h P' h0 hs
    simp only [compPartsA] at h
    split at h <;> try (simp at h; done)
    rename_i y as hy has
    split at h <;> simp at h
    subst h
    exact hs i x l _ _ y as rfl hy (by assumption) (ih _ has P' h0 hs)

theorem build_sound {t : TypeId} {parts : Array (Nat × Operand)} {z : V} {n : Nat} {parts' : List (Nat × Nat × Opd)} (hrel : Rel G B Φ Z H w) (hf : FrR Φ Z w fr a) (ho : o.op = .build t parts) (hz : zeroT P t = some (z, n))
    (ht : (∃ fs, P.underlying t = some (.struct fs) ∧ (fs.toList.mapM fun f => (P.info? f.type).map fun i => (f.offset, i.size)).isSome = true ∧ compParts P fs n parts.toList = some parts') ∨
      ∃ k e sz, P.underlying t = some (.array k e) ∧ sizeT P e = some sz ∧ compPartsA sz n parts.toList = some parts')
    (h : partsV G fr z.cells parts' fun cs => K (.agg cs) H) : Reads P o a w Φ Z (K · H) := by
  obtain ⟨ti, zv0, hi, hz0, _, _, _⟩ := zeroT_spec hz
  obtain ⟨zv, h1, h2, h3, h4, h5, h6⟩ := zero_cells (Φ := Φ) (Z := Z) (w := w) hz
  have hzv : zv0 = zv := by
    have e1 := run_zeroValue_of hi hz0 w
    rw [h1 w] at e1
    injection e1 with e1 _
    exact e1.symm
  subst hzv
  have hex : ∀ cells, P.built t (parts.toList.map fun (i, x) => (i, a.eval x)) = some cells → (execOp a.eval o).run P w = .ok (.value (.agg cells)) w := by
    intro cells hc
    have := run_build w t (parts.map fun (i, x) => (i, a.eval x)) cells (by simpa using hc)
    simp [execOp, ho, this]
  rcases ht with ⟨fs, hu, hpm, hp⟩ | ⟨k, e, sz, hu, hs, hp⟩
  · obtain ⟨places, hpl⟩ := Option.isSome_iff_exists.1 hpm
    have hg := mapM_get _ _ _ hpl
    obtain ⟨cs', rs', h7, h8, h9⟩ := build_fill (fun i => places.toArray[i]?) hrel.glob hf n parts.toList parts' z.cells zv0.cells (parts_ind (by simpa using hg) _ _ hp) h3 h4 h
    refine .here (rv := .agg rs') (hex _ ?_) hrel h7 (.agg _ _ h8.1 h8.2)
    simp only [Program.built, hi, hu, hz0, hpl]
    exact h9
  · simp only [sizeT, Option.map_eq_some_iff] at hs
    obtain ⟨ie, hie, rfl⟩ := hs
    obtain ⟨cs', rs', h7, h8, h9⟩ := build_fill (fun i => some (i * ie.size, ie.size)) hrel.glob hf n parts.toList parts' z.cells zv0.cells (partsA_ind _ _ hp) h3 h4 h
    refine .here (rv := .agg rs') (hex _ ?_) hrel h7 (.agg _ _ h8.1 h8.2)
    simp only [Program.built, hi, hu, hz0, hie]
    exact h9

/-- An operation makes one block, at whichever place of the abstract heap. -/
def Makes (P : Program) (G : Nat → Option (List V)) (B : Nat) (o : Oper) (a : Act) (w : World) (Φ : Nat → Option Pl) (Z : Nat → Prop) (C : (Nat → V) → Blk → Prop) : Prop :=
  ∃ rv r k w', (execOp a.eval o).run P w = .ok (.value rv) w' ∧ C r k ∧ ∀ H b, Rel G B Φ Z H w → H[b]? = some k → Φ b = none →
    ∃ p, Rel G B (put1 Φ b p) Z H w' ∧ Ev B Φ Z w (put1 Φ b p) Z w' ∧ VR (put1 Φ b p) Z w' (r b) rv

theorem Rel.fresh (h : Rel G B Φ Z H w) : Φ H.length = none := by
  cases hp : Φ H.length with
  | none => rfl
  | some p =>
    obtain ⟨k, hk, _⟩ := h.blk _ _ hp
    have := (List.getElem?_eq_some_iff.1 hk).1
    omega

theorem Makes.comes (h : Makes P G B o a w Φ Z fun r k => K (r H.length) (H ++ [k])) (hrel : Rel G B Φ Z H w) : Comes' P G B o a w Φ Z K := by
  obtain ⟨rv, r, k, w', hr, hk, hh⟩ := h
  obtain ⟨p, h1, h2, h3⟩ := hh (H ++ [k]) H.length (hrel.extend _) (by simp) hrel.fresh
  exact .value hr hk h3 h1 h2

/-- A row is made. -/
theorem makes_row {C : (Nat → V) → Blk → Prop} {rv : Value} {r : Nat → V} {sz : Nat} {xs : List V} {opn : Bool} {c : Array Value} {e : TypeId} {fz : Nat × Nat} {w0 : World} (hr : (execOp a.eval o).run P w = .ok (.value rv) (w0.alloc (.cells c e fz)))
    (hw0 : w0 = w ∨ w0 = w.drew) (hk : C r (.row sz xs opn false)) (hfz : fz.2 ≤ fz.1 ∨ c.size ≤ fz.1) (hle : xs.length * sz ≤ c.size) (hop : opn = false → c.size = xs.length * sz)
    (hcs : ∀ i, i < xs.length → (xs.getD i .junk).cells.length = sz) (hcell : ∀ i j, i < xs.length → j < sz → VR Φ Z w ((xs.getD i .junk).cells.getD j .junk) (c.getD (i * sz + j) undef))
    (hv : ∀ (Φ' : Nat → Option Pl) (b : Nat) (w' : World), Φ' b = some ⟨w.heap.size, xs.length, sz, c.size⟩ → VR Φ' Z w' (r b) rv) : Makes P G B o a w Φ Z C := by
  refine ⟨rv, r, _, _, hr, hk, fun H b hrel hH hb => ⟨⟨w.heap.size, xs.length, sz, c.size⟩, ?_⟩⟩
  have hh : w0.heap = w.heap := by rcases hw0 with rfl | rfl <;> rfl
  have hrel0 : Rel G B Φ Z H w0 := hrel.heap hh
  have hev0 : Ev B Φ Z w Φ Z w0 := by
    rcases hw0 with rfl | rfl
    · exact Ev.refl _ _ _ _
    · exact Ev.drew _ _ _ _
  have := hrel0.make (p := ⟨w.heap.size, xs.length, sz, c.size⟩) (.cells c e fz) hb hH (by rw [hh]) (fun w' hw' vr => by
    refine ⟨rfl, rfl, hcs, ⟨c, e, fz, ?_, hfz, rfl, hle, hop, fun i j hi hj => vr _ _ ?_⟩, fun h => (by cases h), fun _ hz => ?_⟩
    · rw [hw']
      show (w0.heap.push _)[w.heap.size]? = _
      rw [hh]; simp
    · exact (hcell i j hi hj).ev hev0
    · have := hrel.zin _ hz
      simp at this)
  exact ⟨this.1, hev0.trans this.2, hv _ _ _ (put1_same _ _ _)⟩

theorem zipIdx_getD_one {x : V} {v : Value} : True := trivial

theorem new_sound {t : TypeId} {z : V} {n : Nat} {C : (Nat → V) → Blk → Prop} (hrel : Rel G B Φ Z H w) (ho : o.op = .alloc t) (hz : zeroT P t = some (z, n)) (h : C (fun q => .ptr q 1 0 0) (.row n [z] false false)) : Makes P G B o a w Φ Z C := by
  obtain ⟨zv, h1, h2, h3, h4, h5, h6⟩ := zero_cells (Φ := Φ) (Z := Z) (w := w) hz
  refine makes_row (rv := .pointer (some ⟨w.heap.size, 0, none⟩)) (c := zv.cells) (e := t) (fz := (0, 0)) (w0 := w) ?_ (.inl rfl) h (.inl (Nat.le_refl _)) (by simp [h3.1, h4]) (fun _ => by simp [h3.1, h4]) ?_ ?_ ?_
  · simp [execOp, ho, Instr.alloc, h1 w, newVar, newRow]
  · intro i hi; simp at hi; subst hi; simpa using h4
  · intro i j hi hj; simp at hi; subst hi; simpa using h3.2 j (by omega)
  · intro Φ' b w' hp
    exact .ptr _ _ _ _ _ _ hp (Nat.le_refl _) (fun _ => by simp)

theorem box_sound {t : TypeId} {n : Nat} {x : Operand} {x' : Opd} {C : (Nat → V) → Blk → Prop} (hrel : Rel G B Φ Z H w) (hf : FrR Φ Z w fr a) (ho : o.op = .box t x) (hx : opd x = some x')
    (h1 : (ev G fr x').solid = true) (h2 : (ev G fr x').cells.length = n) (h : C (fun q => .ptr q 1 0 0) (.row n [ev G fr x'] false false)) : Makes P G B o a w Φ Z C := by
  have hv := (ev_sound (x := x) hrel.glob hf hx).cells h1
  refine makes_row (rv := .pointer (some ⟨w.heap.size, 0, none⟩)) (c := (a.eval x).cells) (e := t) (fz := (0, 0)) (w0 := w) ?_ (.inl rfl) h (.inl (Nat.le_refl _)) (by simp; omega) (fun _ => by simp; omega) ?_ ?_ ?_
  · simp [execOp, ho, Instr.box, newVar, newRow]
  · intro i hi; simp at hi; subst hi; simpa using h2
  · intro i j hi hj; simp at hi; subst hi; simpa using hv.2 j (by omega)
  · intro Φ' b w' hp
    exact .ptr _ _ _ _ _ _ hp (Nat.le_refl _) (fun _ => by simp)

end
end Go.MW
