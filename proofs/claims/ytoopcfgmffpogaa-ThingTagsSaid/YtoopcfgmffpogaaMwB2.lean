import Derived.Laws.StructEq
import Derived.Laws.Cover3
import Derived.Laws.Append
import Derived.Laws.MakeOwn
import Derived.Laws.IdiomStrings
import Derived.ChangeKeysEq
import Derived.WideKeyRuns
import Derived.MapKept
import Derived.Maps.RangeRun
import Derived.Test.YtoopcfgmffpogaaMwB1
/- Structs compared. -/
namespace Go.MW
open Go Go.RowKit
set_option linter.unusedVariables false
set_option linter.unusedSimpArgs false

section
variable {P : Program} {G : Nat → Option (List V)} {B : Bd} {Φ : Nat → Option Pl} {Z : Nat → Prop} {H : List Blk} {w : World} {a : Act} {fr : Fr} {K : V → List Blk → Prop} {o : Oper}

theorem kind_agg {t : TypeId} {k : Nat} (h : kindT P t = some k) (hs : sizeT P t = some 1) : aggT P t = some none := by
  simp only [sizeT, Option.map_eq_some_iff] at hs
  obtain ⟨i, hi, h1⟩ := hs
  unfold kindT at h
  split at h <;> simp at h
  all_goals (rename_i hu; simp [aggT, hu, hi, h1])

theorem eq1_sound {k : Nat} {x y : V} {u v : Value} {r : Bool} {t : TypeId} (d : Nat) (hk : kindT P t = some k) (hx : VR Φ Z w x u) (hy : VR Φ Z w y v) (h : eq1 k x y = some r) : (Op.equalIn (d + 1) t u v).run P w = .ok r w := by
  unfold kindT at hk
  unfold eq1 at h
  split at h
  · split at h <;> simp at h
    rename_i hkk
    subst hkk h
    split at hk <;> simp at hk
    rename_i hu
    obtain rfl := hx.int_inv
    obtain rfl := hy.int_inv
    rw [run_equalIn_int w d t _ _ _ _ hu]
    rfl
  · simp at h
    subst h
    split at hk <;> simp at hk
    rename_i hu
    obtain rfl := hx.bool_inv
    obtain rfl := hy.bool_inv
    rw [run_equalIn_bool' w d t _ _ hu]
  · simp at h
    subst h
    split at hk <;> simp at hk
    rename_i hu
    obtain rfl := hx.str_inv
    obtain rfl := hy.str_inv
    rw [run_equalIn_string w d t _ _ hu, bytes_toList, bytes_toList]
  · cases h

theorem eqF_sound (d : Nat) {xs ys : Array Value} : ∀ (fs : List Field) (i : Nat) (ks : List Nat) (as bs : List V) (r : Bool), flatF P i fs = some ks → eqs ks as bs = some r → (∀ j, j < as.length → i + j < xs.size ∧ VR Φ Z w (as.getD j .junk) (xs.getD (i + j) undef)) → (∀ j, j < bs.length → i + j < ys.size ∧ VR Φ Z w (bs.getD j .junk) (ys.getD (i + j) undef)) →
    (Op.eqFields (d + 1) xs ys fs).run P w = .ok r w
  | [], i, ks, as, bs, r, hf, h, hx, hy => by
    simp [flatF] at hf
    subst hf
    cases as <;> cases bs <;> simp [eqs] at h
    subst h
    rfl
  | f :: fs, i, ks, as, bs, r, hf, h, hx, hy => by
    simp only [flatF] at hf
    split at hf <;> try (simp at hf; done)
    rename_i hc
    simp only [Bool.and_eq_true, beq_iff_eq, bne_iff_ne] at hc
    obtain ⟨⟨h1, h2⟩, h3⟩ := hc
    split at hf <;> simp at hf
    rename_i k ks' hk hks
    subst hf
    cases as with
    | nil => simp [eqs] at h
    | cons a as =>
      cases bs with
      | nil => simp [eqs] at h
      | cons b bs =>
        simp only [eqs] at h
        split at h <;> simp at h
        rename_i x y hx1 hy1
        obtain ⟨hx0, hxv⟩ := hx 0 (by simp)
        obtain ⟨hy0, hyv⟩ := hy 0 (by simp)
        simp only [Nat.add_zero, List.getD_cons_zero] at hx0 hxv hy0 hyv
        have hag := (aggT_none (kind_agg hk h3) w).1
        have hp : ∀ {zs : Array Value}, i < zs.size → (part f.type zs f.offset).run P w = .ok (zs.getD i undef) w := by
          intro zs hz
          simp [part, hag, h1, Array.getD, hz]
        have he := eq1_sound (P := P) d hk hxv hyv hx1
        simp only [Op.eqFields, h2, ne_eq, not_false_eq_true, if_true, Sem.run_bind, hp hx0, hp hy0, Result.andThen_ok, he]
        cases x with
        | false => simp at h; subst h; rfl
        | true =>
          simp at h
          subst h
          simp only [Bool.not_true, Bool.false_eq_true, if_false]
          exact eqF_sound d fs (i + 1) ks' as bs y hks hy1 (fun j hj => by
            have := hx (j + 1) (by simpa using hj)
            simpa [Nat.add_assoc, Nat.add_comm 1 j] using this) (fun j hj => by
            have := hy (j + 1) (by simpa using hj)
            simpa [Nat.add_assoc, Nat.add_comm 1 j] using this)

theorem eqT_sound {neg : Bool} {op : BinOp} {t u : TypeId} {fs : Array Field} {ks : List Nat} {x y : Operand} {x' y' : Opd} (hrel : Rel G B Φ Z H w) (hf : FrR Φ Z w fr a) (ho : o.op = .binOp op t x y u) (hop : (op = .eql ∧ neg = false) ∨ (op = .neq ∧ neg = true)) (hu : P.underlying t = some (.struct fs)) (hfl : flatS P t fs = some ks)
    (hx : opd x = some x') (hy : opd y = some y') (h : eqTK neg ks (ev G fr x') (ev G fr y') (K · H)) : Reads P o a w Φ Z (K · H) := by
  have hv := ev_sound (x := x) hrel.glob hf hx
  have hv2 := ev_sound (x := y) hrel.glob hf hy
  have hex : (execOp a.eval o).run P w = (Sem.run P (do eqGuard op t x y (a.eval x) (a.eval y); binOp op t (a.eval x) (a.eval y)) w).andThen fun v w => .ok (.value v) w := by
    simp only [execOp, ho, Sem.run_bind]
    cases (eqGuard op t x y (a.eval x) (a.eval y)).run P w <;> rfl
  generalize a.eval x = xv at hv hex
  generalize a.eval y = yv at hv2 hex
  generalize ev G fr x' = xa at hv h
  generalize ev G fr y' = ya at hv2 h
  unfold flatS at hfl
  split at hfl <;> try (simp at hfl; done)
  rename_i hg
  simp only [Bool.and_eq_true, Bool.not_eq_true'] at hg
  unfold eqTK at h
  split at h
  · split at h
    · rename_i as bs _ r hr
      cases hv with
      | agg _ xs hl1 hc1 =>
        cases hv2 with
        | agg _ ys hl2 hc2 =>
          have hfo : P.fieldsOf t = fs := by simp [Program.fieldsOf, hu]
          have heq : (Op.equal t (.agg xs) (.agg ys)).run P w = .ok r w := by
            show (Op.equalIn (9999 + 1) t (.agg xs) (.agg ys)).run P w = _
            rw [run_equalIn_struct w 9999 t xs ys (by rw [hfo]; exact hu) hg.2, hfo]
            exact eqF_sound 9998 fs.toList 0 ks as bs r hfl hr (fun j hj => ⟨by omega, by simpa using hc1 j hj⟩) fun j hj => ⟨by omega, by simpa using hc2 j hj⟩
          have hgu := run_eqGuard_agg (P := P) w op t x y xs ys hg.1
          refine .here (rv := .bool (bif neg then !r else r)) ?_ hrel h (.bool _)
          rw [hex, Sem.run_bind, hgu, Result.andThen_ok]
          rcases hop with ⟨rfl, rfl⟩ | ⟨rfl, rfl⟩
          · simp [binOp, heq]
          · simp [binOp, heq]
    · exact h.elim
  · exact h.elim

theorem eqB_sound {neg : Bool} {op : BinOp} {t u : TypeId} {x y : Operand} {x' y' : Opd} (hrel : Rel G B Φ Z H w) (hf : FrR Φ Z w fr a) (ho : o.op = .binOp op t x y u) (hop : (op = .eql ∧ neg = false) ∨ (op = .neq ∧ neg = true)) (hu : P.underlying t = some .bool)
    (hx : opd x = some x') (hy : opd y = some y') (h : eqBK neg (ev G fr x') (ev G fr y') (K · H)) : Reads P o a w Φ Z (K · H) := by
  have hv := ev_sound (x := x) hrel.glob hf hx
  have hv2 := ev_sound (x := y) hrel.glob hf hy
  have hex : (execOp a.eval o).run P w = (Sem.run P (do eqGuard op t x y (a.eval x) (a.eval y); binOp op t (a.eval x) (a.eval y)) w).andThen fun v w => .ok (.value v) w := by
    simp only [execOp, ho, Sem.run_bind]
    cases (eqGuard op t x y (a.eval x) (a.eval y)).run P w <;> rfl
  generalize a.eval x = xv at hv hex
  generalize a.eval y = yv at hv2 hex
  generalize ev G fr x' = xa at hv h
  generalize ev G fr y' = ya at hv2 h
  unfold eqBK at h
  split at h
  · rename_i p q
    obtain rfl := hv.bool_inv
    obtain rfl := hv2.bool_inv
    have hgu : (eqGuard op t x y (.bool p) (.bool q)).run P w = .ok () w := by unfold eqGuard; cases op <;> rfl
    have heq : (Op.equal t (.bool p) (.bool q)).run P w = .ok (p == q) w := by
      show (Op.equalIn (9999 + 1) t (.bool p) (.bool q)).run P w = _
      unfold Op.equalIn
      simp only [Sem.run_bind, run_underlying hu, Result.andThen_ok, Sem.run_pure]
    refine .here (rv := .bool (bif neg then !(p == q) else p == q)) ?_ hrel h (.bool _)
    rw [hex, Sem.run_bind, hgu, Result.andThen_ok]
    rcases hop with ⟨rfl, rfl⟩ | ⟨rfl, rfl⟩
    · simp [binOp, heq]
    · simp [binOp, heq]
  · exact h.elim

theorem nilq_sound {neg : Bool} {op : BinOp} {t e u : TypeId} {x : Operand} {x' : Opd} (hrel : Rel G B Φ Z H w) (hf : FrR Φ Z w fr a) (ho : o.op = .binOp op t x (.const (.slice none 0 0)) u) (hop : (op = .eql ∧ neg = false) ∨ (op = .neq ∧ neg = true)) (hu : P.underlying t = some (.slice e))
    (hx : opd x = some x') (h : nilqK neg (ev G fr x') (K · H)) : Reads P o a w Φ Z (K · H) := by
  have hv := ev_sound (x := x) hrel.glob hf hx
  have hex : ∀ (ad : Option Addr) (l c : Nat), a.eval x = .slice ad l c → (execOp a.eval o).run P w = .ok (.value (.bool (bif neg then !ad.isNone else ad.isNone))) w := by
    intro ad l c hs
    have h1 := run_equal_slice_nil (P := P) w t e ad l c hu
    have h2 : ∀ y, (eqGuard op t x y (.slice ad l c) (.slice none 0 0)).run P w = .ok () w := by intro y; cases op <;> rfl
    have h3 : (execOp a.eval o).run P w = (Sem.run P (do eqGuard op t x (.const (.slice none 0 0)) (a.eval x) (.slice none 0 0); binOp op t (a.eval x) (.slice none 0 0)) w).andThen fun v w => .ok (.value v) w := by
      have hc : a.eval (.const (.slice none 0 0)) = .slice none 0 0 := rfl
      simp only [execOp, ho, Sem.run_bind, hc]
      cases (eqGuard op t x (.const (.slice none 0 0)) (a.eval x) (.slice none 0 0)).run P w <;> rfl
    rw [h3, hs, Sem.run_bind, h2, Result.andThen_ok]
    rcases hop with ⟨rfl, rfl⟩ | ⟨rfl, rfl⟩
    · simp only [binOp, Sem.run_bind, h1, Result.andThen_ok, Sem.run_pure]
      rfl
    · simp only [binOp, Sem.run_bind, h1, Result.andThen_ok, Sem.run_pure]
      rfl
  generalize a.eval x = xv at hv hex
  generalize ev G fr x' = xa at hv h
  unfold nilqK at h
  split at h
  · cases hv with
    | nils =>
      have := hex _ _ _ rfl
      refine .here (rv := .bool (!neg)) (by rw [this]; cases neg <;> rfl) hrel h (.bool _)
  · cases hv with
    | vs _ ad sz cap =>
      have := hex _ _ _ rfl
      refine .here (rv := .bool neg) (by rw [this]; cases neg <;> rfl) hrel h (.bool _)
    | vs0 b c =>
      have := hex _ _ _ rfl
      refine .here (rv := .bool neg) (by rw [this]; cases neg <;> rfl) hrel h (.bool _)
  · exact h.elim

end
end Go.MW

/- What is built, and what makes a block. -/
namespace Go.MW
open Go Go.RowKit
set_option linter.unusedVariables false
set_option linter.unusedSimpArgs false

section
variable {P : Program} {G : Nat → Option (List V)} {B : Bd} {Φ : Nat → Option Pl} {Z : Nat → Prop} {H : List Blk} {w : World} {a : Act} {fr : Fr} {K : V → List Blk → Prop} {o : Oper}

/-- Cells, against an array. -/
def CellsR (Φ : Nat → Option Pl) (Z : Nat → Prop) (w : World) (cs : List V) (rs : Array Value) : Prop := rs.size = cs.length ∧ ∀ i, i < cs.length → VR Φ Z w (cs.getD i .junk) (rs.getD i undef)

theorem foldl_set (off : Nat) : ∀ (l : List Value) (j : Nat) (cs : Array Value), off + j + l.length ≤ cs.size →
    ((l.zipIdx j).foldl (fun cs (c, j) => cs.setIfInBounds (off + j) c) cs).size = cs.size ∧
    ∀ q, ((l.zipIdx j).foldl (fun cs (c, j) => cs.setIfInBounds (off + j) c) cs).getD q undef = if off + j ≤ q ∧ q < off + j + l.length then l.getD (q - (off + j)) undef else cs.getD q undef
  | [], j, cs, h => ⟨rfl, fun q => by rw [if_neg (by rintro ⟨h1, h2⟩; simp at h2; omega)]; rfl⟩
  | c :: l, j, cs, h => by
    simp only [List.zipIdx_cons, List.foldl_cons]
    obtain ⟨h1, h2⟩ := foldl_set off l (j + 1) (cs.setIfInBounds (off + j) c) (by simp at h ⊢; omega)
    refine ⟨by simpa using h1, fun q => ?_⟩
    rw [h2]
    have hlt : off + j < cs.size := by simp at h; omega
    simp only [List.length_cons]
    by_cases hq : q = off + j
    · subst hq
      rw [if_neg (by omega), if_pos (by omega), Nat.sub_self]
      simp [Array.getD, hlt]
    · by_cases hq2 : off + (j + 1) ≤ q ∧ q < off + (j + 1) + l.length
      · rw [if_pos hq2, if_pos (by omega), show q - (off + j) = (q - (off + (j + 1))) + 1 by omega, List.getD_cons_succ]
      · rw [if_neg hq2, if_neg (by omega)]
        simp only [Array.getD_eq_getD_getElem?, Array.getElem?_setIfInBounds]
        rw [if_neg (Ne.symm hq)]

/-- A part laid over cells. -/
theorem CellsR.lay {cs : List V} {rs : Array Value} {x : V} {v : Value} {off sz : Nat} (h : CellsR Φ Z w cs rs) (hv : VR Φ Z w x v) (hs : x.solid = true) (hl : x.cells.length = sz) (ho : off + sz ≤ cs.length) :
    v.cells.size = sz ∧ CellsR Φ Z w (setR cs off x.cells) (v.cells.zipIdx.foldl (fun cs (c, j) => cs.setIfInBounds (off + j) c) rs) := by
  obtain ⟨h1, h2⟩ := hv.cells hs
  refine ⟨by omega, ?_⟩
  have e : v.cells.zipIdx.foldl (fun cs (c, j) => cs.setIfInBounds (off + j) c) rs = (v.cells.toList.zipIdx 0).foldl (fun cs (c, j) => cs.setIfInBounds (off + j) c) rs := by
    rw [← Array.foldl_toList, Array.toList_zipIdx]
  have hle : off + 0 + v.cells.toList.length ≤ rs.size := by have := h.1; simp; omega
  obtain ⟨h3, h4⟩ := foldl_set off v.cells.toList 0 rs hle
  rw [e]
  refine ⟨by rw [h3, setR_length]; exact h.1, fun i hi => ?_⟩
  rw [setR_length] at hi
  rw [h4, setR_getD _ _ _ _ (by omega)]
  have hlen : v.cells.toList.length = x.cells.length := by simp; omega
  simp only [hlen, Nat.add_zero]
  split
  · have := h2 (i - off) (by omega)
    simpa [Array.getD_eq_getD_getElem?, List.getD_eq_getElem?_getD] using this
  · exact h.2 i hi

theorem build_fill (place : Nat → Option (Nat × Nat)) (hg : GlobOK G Z w) (hf : FrR Φ Z w fr a) {C : List V → Prop} (n : Nat) : ∀ (parts : List (Nat × Operand)) (parts' : List (Nat × Nat × Opd)) (cs : List V) (rs : Array Value),
    (∀ (P' : List (Nat × Operand) → List (Nat × Nat × Opd) → Prop), P' [] [] → (∀ i x r off sz y r', place i = some (off, sz) → opd x = some y → off + sz ≤ n → P' r r' → P' ((i, x) :: r) ((off, sz, y) :: r')) → P' parts parts') →
    CellsR Φ Z w cs rs → cs.length = n → partsV G fr cs parts' C → ∃ cs' rs', C cs' ∧ CellsR Φ Z w cs' rs' ∧ Instr.fill place rs (parts.map fun (i, x) => (i, a.eval x)) = some rs' := by
  intro parts parts' cs rs hpp
  revert cs rs
  refine hpp (fun parts parts' => ∀ cs rs, CellsR Φ Z w cs rs → cs.length = n → partsV G fr cs parts' C → ∃ cs' rs', C cs' ∧ CellsR Φ Z w cs' rs' ∧ Instr.fill place rs (parts.map fun (i, x) => (i, a.eval x)) = some rs') ?_ ?_
  · intro cs rs h _ hp
    exact ⟨cs, rs, hp, h, rfl⟩
  · intro i x r off sz y r' hpl hx hos ih cs rs h hn hp
    obtain ⟨h1, h2, h3⟩ := hp
    obtain ⟨h4, h5⟩ := h.lay (off := off) (sz := sz) (ev_sound hg hf hx) h1 h2 (by omega)
    obtain ⟨cs', rs', h6, h7, h8⟩ := ih _ _ h5 (by rw [setR_length]; exact hn) h3
    refine ⟨cs', rs', h6, h7, ?_⟩
    simp only [List.map_cons, Instr.fill, hpl]
    rw [if_neg]
    · exact h8
    · have := h.1
      simp [h4]
      omega

theorem zero_cells {t : TypeId} {z : V} {n : Nat} (h : zeroT P t = some (z, n)) : ∃ zv, (∀ w, (zeroValue t).run P w = .ok zv w) ∧ VR Φ Z w z zv ∧ CellsR Φ Z w z.cells zv.cells ∧ z.cells.length = n ∧ z.solid = true ∧ sizeT P t = some n := by
  obtain ⟨i, zv, h1, h2, h3, h4, h5⟩ := zeroT_spec h
  have hs := solid_of_ofVal h3
  exact ⟨zv, run_zeroValue_of h1 h2, ofVal_sound h3, (ofVal_sound h3).cells hs, h4, hs, by simp [sizeT, h1, h5]⟩

theorem mapM_get {α β : Type} (g : α → Option β) : ∀ (l : List α) (r : List β), l.mapM g = some r → ∀ i : Nat, r[i]? = (l[i]?).bind g
  | [], r, h, i => by simp at h; subst h; simp
  | x :: l, r, h, i => by
    simp only [List.mapM_cons, Option.bind_eq_bind, Option.pure_def] at h
    cases hx : g x with
    | none => simp [hx] at h
    | some y =>
      cases hl : l.mapM g with
      | none => simp [hx, hl] at h
      | some ys =>
        simp [hx, hl] at h
        subst h
        cases i with
        | zero => simp [hx]
        | succ i => simpa using mapM_get g l ys hl i

theorem parts_ind {place : Nat → Option (Nat × Nat)} {fs : Array Field} {n : Nat} (hpl : ∀ i, place i = (fs[i]?).bind fun f => (P.info? f.type).map fun i => (f.offset, i.size)) :
    ∀ (l : List (Nat × Operand)) (l' : List (Nat × Nat × Opd)), compParts P fs n l = some l' →
        ∀ (P' : List (Nat × Operand) → List (Nat × Nat × Opd) → Prop), P' [] [] → (∀ i x r off sz y r', place i = some (off, sz) → opd x = some y → off + sz ≤ n → P' r r' → P' ((i, x) :: r) ((off, sz, y) :: r')) → P' l l' := by
  intro l
  induction l with
  | nil => intro l' h P' h0 _; simp [compParts] at h; subst h; exact h0
  | cons x l ih =>
    obtain ⟨i, x⟩ := x
    intro l' h P' h0 hs
    simp only [compParts] at h
    split at h <;> try (simp at h; done)
    rename_i f y as hf hy has
    split at h <;> try (simp at h; done)
    rename_i s hsz
    split at h <;> simp at h
    subst h
    refine hs i x l f.offset s y as ?_ hy (by assumption) (ih _ has P' h0 hs)
    rw [hpl, hf]
    simp only [sizeT, Option.map_eq_some_iff] at hsz
    obtain ⟨ti, h1, h2⟩ := hsz
    simp [h1, h2]

theorem partsA_ind {sz n : Nat} : ∀ (l : List (Nat × Operand)) (l' : List (Nat × Nat × Opd)), compPartsA sz n l = some l' →
        ∀ (P' : List (Nat × Operand) → List (Nat × Nat × Opd) → Prop), P' [] [] → (∀ i x r off s y r', some (i * sz, sz) = some (off, s) → opd x = some y → off + s ≤ n → P' r r' → P' ((i, x) :: r) ((off, s, y) :: r')) → P' l l' := by
  intro l
  induction l with
  | nil => intro l' h P' h0 _; simp [compPartsA] at h; subst h; exact h0
  | cons x l ih =>
    obtain ⟨i, x⟩ := x
    intro l' h P' h0 hs
    simp only [compPartsA] at h
    split at h <;> try (simp at h; done)
    rename_i y as hy has
    split at h <;> simp at h
    subst h
    exact hs i x l _ _ y as rfl hy (by assumption) (ih _ has P' h0 hs)

theorem build_sound {t : TypeId} {parts : Array (Nat × Operand)} {z : V} {n : Nat} {parts' : List (Nat × Nat × Opd)} (hrel : Rel G B Φ Z H w) (hf : FrR Φ Z w fr a) (ho : o.op = .build t parts) (hz : zeroT P t = some (z, n))
    (ht : (∃ fs, P.underlying t = some (.struct fs) ∧ (fs.toList.mapM fun f => (P.info? f.type).map fun i => (f.offset, i.size)).isSome = true ∧ compParts P fs n parts.toList = some parts') ∨
      ∃ k e sz, P.underlying t = some (.array k e) ∧ sizeT P e = some sz ∧ compPartsA sz n parts.toList = some parts')
    (h : partsV G fr z.cells parts' fun cs => K (.agg cs) H) : Reads P o a w Φ Z (K · H) := by
  obtain ⟨ti, zv0, hi, hz0, _, _, _⟩ := zeroT_spec hz
  obtain ⟨zv, h1, h2, h3, h4, h5, h6⟩ := zero_cells (Φ := Φ) (Z := Z) (w := w) hz
  have hzv : zv0 = zv := by
    have e1 := run_zeroValue_of hi hz0 w
    rw [h1 w] at e1
    injection e1 with e1 _
    exact e1.symm
  subst hzv
  have hex : ∀ cells, P.built t (parts.toList.map fun (i, x) => (i, a.eval x)) = some cells → (execOp a.eval o).run P w = .ok (.value (.agg cells)) w := by
    intro cells hc
    have := run_build w t (parts.map fun (i, x) => (i, a.eval x)) cells (by simpa using hc)
    simp [execOp, ho, this]
  rcases ht with ⟨fs, hu, hpm, hp⟩ | ⟨k, e, sz, hu, hs, hp⟩
  · obtain ⟨places, hpl⟩ := Option.isSome_iff_exists.1 hpm
    have hg := mapM_get _ _ _ hpl
    obtain ⟨cs', rs', h7, h8, h9⟩ := build_fill (fun i => places.toArray[i]?) hrel.glob hf n parts.toList parts' z.cells zv0.cells (parts_ind (by simpa using hg) _ _ hp) h3 h4 h
    refine .here (rv := .agg rs') (hex _ ?_) hrel h7 (.agg _ _ h8.1 h8.2)
    simp only [Program.built, hi, hu, hz0, hpl]
    exact h9
  · simp only [sizeT, Option.map_eq_some_iff] at hs
    obtain ⟨ie, hie, rfl⟩ := hs
    obtain ⟨cs', rs', h7, h8, h9⟩ := build_fill (fun i => some (i * ie.size, ie.size)) hrel.glob hf n parts.toList parts' z.cells zv0.cells (partsA_ind _ _ hp) h3 h4 h
    refine .here (rv := .agg rs') (hex _ ?_) hrel h7 (.agg _ _ h8.1 h8.2)
    simp only [Program.built, hi, hu, hz0, hie]
    exact h9

/-- An operation makes one block, at whichever place of the abstract heap. -/
def Makes (P : Program) (G : Nat → Option (List V)) (B : Bd) (o : Oper) (a : Act) (w : World) (Φ : Nat → Option Pl) (Z : Nat → Prop) (C : (Nat → V) → Blk → Prop) : Prop :=
  ∃ rv r k w', (execOp a.eval o).run P w = .ok (.value rv) w' ∧ C r k ∧ ∀ H b, Rel G B Φ Z H w → H[b]? = some k → Φ b = none → B.pd b = none →
    ∃ p, Rel G B (put1 Φ b p) Z H w' ∧ Ev B Φ Z w (put1 Φ b p) Z w' ∧ VR (put1 Φ b p) Z w' (r b) rv

theorem Rel.fresh (h : Rel G B Φ Z H w) : Φ H.length = none := by
  cases hp : Φ H.length with
  | none => rfl
  | some p =>
    obtain ⟨k, hk, _⟩ := h.blk _ _ hp
    have := (List.getElem?_eq_some_iff.1 hk).1
    omega

theorem Rel.unpend (h : Rel G B Φ Z H w) : B.pd H.length = none := by
  cases hp : B.pd H.length with
  | none => rfl
  | some k =>
    have := (List.getElem?_eq_some_iff.1 (h.pend _ _ hp).1).1
    omega

theorem Makes.comes (h : Makes P G B o a w Φ Z fun r k => K (r H.length) (H ++ [k])) (hrel : Rel G B Φ Z H w) : Comes' P G B o a w Φ Z K := by
  obtain ⟨rv, r, k, w', hr, hk, hh⟩ := h
  obtain ⟨p, h1, h2, h3⟩ := hh (H ++ [k]) H.length (hrel.extend _) (by simp) hrel.fresh hrel.unpend
  exact .value hr hk h3 h1 h2

/-- A row is made. -/
theorem makes_row {C : (Nat → V) → Blk → Prop} {rv : Value} {r : Nat → V} {sz : Nat} {xs : List V} {opn : Bool} {c : Array Value} {e : TypeId} {fz : Nat × Nat} {w0 : World} (hr : (execOp a.eval o).run P w = .ok (.value rv) (w0.alloc (.cells c e fz)))
    (hw0 : w0 = w ∨ w0 = w.drew) (hk : C r (.row sz xs opn false)) (hfz : fz.2 ≤ fz.1 ∨ c.size ≤ fz.1) (hle : xs.length * sz ≤ c.size) (hop : opn = false → c.size = xs.length * sz)
    (hcs : ∀ i, i < xs.length → (xs.getD i .junk).cells.length = sz) (hcell : ∀ i j, i < xs.length → j < sz → VR Φ Z w ((xs.getD i .junk).cells.getD j .junk) (c.getD (i * sz + j) undef))
    (hv : ∀ (Φ' : Nat → Option Pl) (b : Nat) (w' : World), Φ' b = some ⟨w.heap.size, xs.length, sz, c.size⟩ → VR Φ' Z w' (r b) rv) : Makes P G B o a w Φ Z C := by
  refine ⟨rv, r, _, _, hr, hk, fun H b hrel hH hb hpd => ⟨⟨w.heap.size, xs.length, sz, c.size⟩, ?_⟩⟩
  have hh : w0.heap = w.heap := by rcases hw0 with rfl | rfl <;> rfl
  have hrel0 : Rel G B Φ Z H w0 := hrel.heap hh
  have hev0 : Ev B Φ Z w Φ Z w0 := by
    rcases hw0 with rfl | rfl
    · exact Ev.refl _ _ _ _
    · exact Ev.drew _ _ _ _
  have := hrel0.make (p := ⟨w.heap.size, xs.length, sz, c.size⟩) (.cells c e fz) hb hpd hH (by rw [hh]) (fun w' hw' vr => by
    refine ⟨rfl, rfl, hcs, ⟨c, e, fz, ?_, hfz, rfl, hle, hop, fun i j hi hj => vr _ _ ?_⟩, fun h => (by cases h), fun _ hz => ?_⟩
    · rw [hw']
      show (w0.heap.push _)[w.heap.size]? = _
      rw [hh]; simp
    · exact (hcell i j hi hj).ev hev0
    · have := hrel.zin _ hz
      simp at this)
  exact ⟨this.1, hev0.trans this.2, hv _ _ _ (put1_same _ _ _)⟩

theorem zipIdx_getD_one {x : V} {v : Value} : True := trivial

theorem new_sound {t : TypeId} {z : V} {n : Nat} {C : (Nat → V) → Blk → Prop} (hrel : Rel G B Φ Z H w) (ho : o.op = .alloc t) (hz : zeroT P t = some (z, n)) (h : C (fun q => .ptr q 1 0 0) (.row n [z] false false)) : Makes P G B o a w Φ Z C := by
  obtain ⟨zv, h1, h2, h3, h4, h5, h6⟩ := zero_cells (Φ := Φ) (Z := Z) (w := w) hz
  refine makes_row (rv := .pointer (some ⟨w.heap.size, 0, none⟩)) (c := zv.cells) (e := t) (fz := (0, 0)) (w0 := w) ?_ (.inl rfl) h (.inl (Nat.le_refl _)) (by simp [h3.1, h4]) (fun _ => by simp [h3.1, h4]) ?_ ?_ ?_
  · simp [execOp, ho, Instr.alloc, h1 w, newVar, newRow]
  · intro i hi; simp at hi; subst hi; simpa using h4
  · intro i j hi hj; simp at hi; subst hi; simpa using h3.2 j (by omega)
  · intro Φ' b w' hp
    exact .ptr _ _ _ _ _ _ hp (Nat.le_refl _) (fun _ => by simp)

theorem box_sound {t : TypeId} {n : Nat} {x : Operand} {x' : Opd} {C : (Nat → V) → Blk → Prop} (hrel : Rel G B Φ Z H w) (hf : FrR Φ Z w fr a) (ho : o.op = .box t x) (hx : opd x = some x')
    (h1 : (ev G fr x').solid = true) (h2 : (ev G fr x').cells.length = n) (h : C (fun q => .ptr q 1 0 0) (.row n [ev G fr x'] false false)) : Makes P G B o a w Φ Z C := by
  have hv := (ev_sound (x := x) hrel.glob hf hx).cells h1
  refine makes_row (rv := .pointer (some ⟨w.heap.size, 0, none⟩)) (c := (a.eval x).cells) (e := t) (fz := (0, 0)) (w0 := w) ?_ (.inl rfl) h (.inl (Nat.le_refl _)) (by simp; omega) (fun _ => by simp; omega) ?_ ?_ ?_
  · simp [execOp, ho, Instr.box, newVar, newRow]
  · intro i hi; simp at hi; subst hi; simpa using h2
  · intro i j hi hj; simp at hi; subst hi; simpa using hv.2 j (by omega)
  · intro Φ' b w' hp
    exact .ptr _ _ _ _ _ _ hp (Nat.le_refl _) (fun _ => by simp)

end
end Go.MW

/- Elements of slices: read, and written. -/
namespace Go.MW
open Go Go.RowKit
set_option linter.unusedVariables false
set_option linter.unusedSimpArgs false

section
variable {P : Program} {G : Nat → Option (List V)} {B : Bd} {Φ : Nat → Option Pl} {Z : Nat → Prop} {H : List Blk} {w : World} {a : Act} {fr : Fr} {K : V → List Blk → Prop} {o : Oper}

/-- Cells in a row, element by element. -/
def ElR (Φ : Nat → Option Pl) (Z : Nat → Prop) (w : World) (sz n : Nat) (xs : List V) (f : Nat → Value) : Prop :=
  ∀ i j, i < n → j < sz → VR Φ Z w ((xs.getD i .junk).cells.getD j .junk) (f (i * sz + j))

/-- What a slice's, or a string's, elements are. -/
def Elems (P : Program) (Φ : Nat → Option Pl) (Z : Nat → Prop) (w : World) (xs : List V) (rv : Value) : Prop :=
  (Builtin.lenOf rv).run P w = .ok xs.length w ∧
    ∀ sz n, n ≤ xs.length → (∀ i, i < n → (xs.getD i .junk).cells.length = sz) → ∃ f : Nat → Value, (Builtin.firstCells sz n rv).run P w = .ok ((List.range (n * sz)).map f).toArray w ∧ ElR Φ Z w sz n xs f

theorem getD_mem {l : List V} {i : Nat} (h : i < l.length) : l.getD i .junk ∈ l := by
  rw [List.getD_eq_getElem?_getD, List.getElem?_eq_getElem h]
  exact List.getElem_mem h

theorem one_cells {x : V} (h : x.one = true) : x.cells = [x] := (one_of_good h).2

theorem mul_in {i n sz j : Nat} (hi : i < n) (hj : j < sz) : i * sz + j < n * sz := by
  have : (i + 1) * sz ≤ n * sz := Nat.mul_le_mul_right _ hi
  rw [Nat.add_mul] at this
  omega

theorem div_in {q n sz : Nat} (h : q < n * sz) : q / sz < n ∧ q % sz < sz ∧ q / sz * sz + q % sz = q := by
  have hs : 0 < sz := by
    rcases Nat.eq_zero_or_pos sz with h0 | h0
    · rw [h0] at h; omega
    · exact h0
  refine ⟨Nat.div_lt_of_lt_mul (by rwa [Nat.mul_comm]), Nat.mod_lt _ hs, ?_⟩
  have := Nat.div_add_mod q sz
  rw [Nat.mul_comm] at this
  exact this

/-- Cells that stand behind an address. -/
theorem Elems.of_cells {xs : List V} {ad : Addr} {cap : Nat} (f : Nat → Value) (hs : ad.spot = none)
    (h : ∀ sz i j, i < xs.length → (xs.getD i .junk).cells.length = sz → j < sz → w.cell? ⟨ad.block, ad.off + (i * sz + j), none⟩ = some (f (i * sz + j)) ∧ VR Φ Z w ((xs.getD i .junk).cells.getD j .junk) (f (i * sz + j))) :
    Elems P Φ Z w xs (.slice (some ad) xs.length cap) := by
  refine ⟨by simp [Builtin.lenOf], fun sz n hn hy => ⟨f, ?_, fun i j hi hj => (h sz i j (by omega) (hy i hi) hj).2⟩⟩
  have hl : (loadCells ad (n * sz)).run P w = .ok ((List.range (n * sz)).map f).toArray w := run_loadCells w ad (n * sz) f fun q hq => by
    obtain ⟨h1, h2, h3⟩ := div_in hq
    have := (h sz (q / sz) (q % sz) (by omega) (hy _ h1) h2).1
    rw [h3] at this
    rw [add_eq hs]
    exact this
  simp [Builtin.firstCells, hl]

theorem elems_nil {rv : Value} (h : ∃ base cap, rv = .slice base 0 cap) : Elems P Φ Z w [] rv := by
  obtain ⟨base, cap, rfl⟩ := h
  refine ⟨by simp [Builtin.lenOf], fun sz n hn _ => ⟨fun _ => undef, ?_, fun i j hi _ => by simp at hn; omega⟩⟩
  obtain rfl : n = 0 := by simpa using hn
  cases base with
  | none => simp [Builtin.firstCells]
  | some ad =>
    have hl : (loadCells ad (0 * sz)).run P w = .ok ((List.range (0 * sz)).map fun _ => undef).toArray w := run_loadCells w ad (0 * sz) _ fun q hq => by omega
    rw [show (Builtin.firstCells sz 0 (.slice (some ad) 0 cap)) = loadCells ad (0 * sz) from rfl, hl]

theorem elems_sound {x : V} {rv : Value} {C : List V → Prop} (hrel : Rel G B Φ Z H w) (hv : VR Φ Z w x rv) (h : elemsK H x C) : ∃ xs, C xs ∧ Elems P Φ Z w xs rv := by
  unfold elemsK at h
  split at h
  · rename_i xs
    refine ⟨xs, h, ?_⟩
    cases hv with
    | vs _ ad sz cap c hs hz hc hsz hcell hvr =>
      rcases Nat.eq_zero_or_pos xs.length with h0 | h0
      · obtain rfl := List.length_eq_zero_iff.1 h0
        exact elems_nil ⟨_, _, rfl⟩
      refine Elems.of_cells (fun q => c (q / sz) (q % sz)) hs fun sz' i j hi hy hj => ?_
      have hsz' : sz' = sz := by
        rw [← hy, hsz i hi]
      subst hsz'
      have h1 : (i * sz' + j) / sz' = i := by
        rw [Nat.mul_comm, Nat.mul_add_div (by omega), Nat.div_eq_of_lt hj, Nat.add_zero]
      have h2 : (i * sz' + j) % sz' = j := by
        rw [Nat.mul_comm, Nat.mul_add_mod, Nat.mod_eq_of_lt hj]
      simp only [h1, h2]
      exact ⟨hcell i j hi hj, hvr i j hi hj⟩
    | vs0 base cap => exact elems_nil ⟨_, _, rfl⟩
  · refine ⟨[], h, ?_⟩
    cases hv with
    | nils => exact elems_nil ⟨_, _, rfl⟩
  · rename_i s
    refine ⟨s.map u8V, h, ?_⟩
    obtain rfl := hv.str_inv
    refine ⟨by simp [Builtin.lenOf, bytes_size], fun sz n hn hy => ⟨fun q => .int .u8 ((s.getD q 0).toNat : Int), ?_, fun i j hi hj => ?_⟩⟩
    · rcases Nat.eq_zero_or_pos n with h0 | h0
      · subst h0
        simp [Builtin.firstCells]
      · have hsz : sz = 1 := by
          rw [← hy 0 (by omega)]
          rw [List.getD_eq_getElem?_getD, List.getElem?_eq_getElem (by omega)]
          simp [u8V, V.cells]
        subst hsz
        simp only [Builtin.firstCells, Sem.run_pure, Nat.mul_one]
        congr 1
        apply Array.ext'
        simp only [ByteArray.extract, ByteArray.copySlice]
        simp
        apply List.ext_getElem?
        intro q
        simp at hn
        by_cases hq : q < n
        · have : q < s.length := by omega
          simp [hq, this, ByteArray.empty]
        · simp [hq]
          omega
    · have hsz : sz = 1 := by
        rw [← hy i hi]
        rw [List.getD_eq_getElem?_getD, List.getElem?_eq_getElem (by omega)]
        simp [u8V, V.cells]
      subst hsz
      obtain rfl : j = 0 := by omega
      simp at hn
      have : i < s.length := by omega
      simp [List.getD_eq_getElem?_getD, this, u8V, V.cells]
      exact .int _ _
  · rename_i b n i j len cap sz
    split at h
    · rename_i rsz xs opn frz hH
      obtain ⟨hn, h⟩ := h
      obtain ⟨p, rcap, hp, ok, rfl, hle, hcap⟩ := hs_inv hrel hv hH hn
      split at h
      · rename_i hc
        obtain ⟨rfl, rfl⟩ := hc
        obtain ⟨h1, h2⟩ := h
        refine ⟨_, h2, ?_⟩
        have hlen : ((xs.drop i).take len).length = len := by simp; omega
        obtain ⟨c, t, fz, hc, _, h3, h4, _, h5⟩ := ok.row
        have := Elems.of_cells (P := P) (Φ := Φ) (Z := Z) (w := w) (xs := (xs.drop i).take len) (ad := ⟨p.rb, i * rsz + 0, none⟩) (cap := rcap) (fun q => c.getD (i * rsz + q) undef) rfl (fun sz' e j he hy hj => by
          rw [hlen] at he
          have hsz' : sz' = rsz := by
            rw [← hy, getD_take _ _ _ _ he, getD_drop]
            exact ok.csz _ (by omega)
          subst hsz'
          have e1 : i * sz' + (e * sz' + j) = (i + e) * sz' + j := by rw [Nat.add_mul]; omega
          have hin : (i + e) * sz' + j < c.size := by
            have := mul_in (i := i + e) (n := xs.length) (sz := sz') (j := j) (by omega) hj
            omega
          refine ⟨?_, ?_⟩
          · simp only [Nat.add_zero]
            rw [e1]; exact cell_getD hc hin
          · rw [e1, getD_take _ _ _ _ he, getD_drop]
            exact h5 _ _ (by omega) hj)
        rw [hlen] at this
        exact this
      · obtain ⟨rfl, h1, h2, h3, h4⟩ := h
        refine ⟨_, h4, ?_⟩
        have hcs := ok.csz i (by omega)
        have hlen : (((xs.getD i .junk).cells.drop j).take len).length = len := by simp only [List.length_take, List.length_drop]; omega
        obtain ⟨c, t, fz, hc, _, h5, h6, _, h7⟩ := ok.row
        have := Elems.of_cells (P := P) (Φ := Φ) (Z := Z) (w := w) (xs := ((xs.getD i .junk).cells.drop j).take len) (ad := ⟨p.rb, i * rsz + j, none⟩) (cap := rcap) (fun q => c.getD (i * rsz + j + q) undef) rfl (fun sz' e j' he hy hj => by
          rw [hlen] at he
          have hm := getD_mem (l := ((xs.getD i .junk).cells.drop j).take len) (i := e) (by omega)
          have hone := h3 _ hm
          have hsz' : sz' = 1 := by
            rw [← hy, one_cells hone]
            rfl
          subst hsz'
          obtain rfl : j' = 0 := by omega
          have hin : i * rsz + (j + e) < c.size := by
            have := mul_in (i := i) (n := xs.length) (sz := rsz) (j := j + e) (by omega) (by omega)
            omega
          refine ⟨?_, ?_⟩
          · simp only [Nat.mul_one, Nat.add_zero]
            rw [Nat.add_assoc]; exact cell_getD hc hin
          · rw [one_cells hone]
            simp only [Nat.mul_one, Nat.add_zero, List.getD_cons_zero]
            rw [getD_take _ _ _ _ he, getD_drop, Nat.add_assoc]
            exact h7 _ _ (by omega) (by omega))
        rw [hlen] at this
        exact this
    · exact h.elim
  · exact h.elim

/-- Cells stored into a row's block, from a place on: the row may grow, as far as its block goes. -/
theorem Rel.storeRow {b off : Nat} {p : Pl} {sz : Nat} {xs xs' : List V} {opn : Bool} {vs : List Value} (hrel : Rel G B Φ Z H w) (hp : Φ b = some p) (ok : RowOK Φ Z w p sz xs opn false)
    (hoff : off + vs.length ≤ p.re) (h1 : ∀ v ∈ vs, v.oneCell' = true) (hcs : ∀ i, i < xs'.length → (xs'.getD i .junk).cells.length = sz) (hle : xs'.length * sz ≤ p.re) (hge : xs.length ≤ xs'.length) (hop : opn = false → xs'.length = xs.length)
    (hc : ∀ i j, i < xs'.length → j < sz → (off ≤ i * sz + j ∧ i * sz + j < off + vs.length → VR Φ Z w ((xs'.getD i .junk).cells.getD j .junk) (vs.getD (i * sz + j - off) undef)) ∧
      (¬ (off ≤ i * sz + j ∧ i * sz + j < off + vs.length) → i < xs.length ∧ (xs'.getD i .junk).cells.getD j .junk = (xs.getD i .junk).cells.getD j .junk)) :
    ∃ w' p', (storeCells ⟨p.rb, off, none⟩ vs).run P w = .ok () w' ∧ Rel G B (put1 Φ b p') Z (H.set b (.row sz xs' opn false)) w' ∧ Ev B Φ Z w (put1 Φ b p') Z w' ∧ p'.n = xs'.length ∧ p'.rb = p.rb ∧ p'.sz = p.sz ∧ p'.re = p.re := by
  obtain ⟨c, t, fz, hcb, hfz, hsz, hle0, hop0, hcv⟩ := ok.row
  obtain ⟨c', hs', hr, hq⟩ := run_storeCells_of (P := P) vs p.rb off 0 w c t fz hcb hfz (by omega) h1
  have hlt : p.rb < w.heap.size := (Array.getElem?_eq_some_iff.1 hcb).1
  have hn : (⟨p.rb, xs'.length, p.sz, p.re⟩ : Pl) = p ∨ p.n < xs'.length := by
    have := ok.len
    rcases Nat.lt_or_eq_of_le hge with h | h
    · exact .inr (by omega)
    · left; cases p; simp at this ⊢; omega
  have := hrel.write (b := b) (k := .row sz xs' opn false) (p := p) (p' := ⟨p.rb, xs'.length, p.sz, p.re⟩) (w' := setBlk w p.rb (.cells c' t fz)) hp (ok.z.2 rfl) hn (.inl rfl) (setBlk_below (hrel.low b p hp)) (fun r hr _ => setBlk_ne _ _ _ hr) (fun vr => ?_)
  · exact ⟨_, _, hr, this.1, this.2, rfl, rfl, rfl, rfl⟩
  · refine ⟨rfl, ok.size, hcs, ⟨c', t, fz, setBlk_same _ hlt, by rw [hs']; exact hfz, by rw [hs']; exact hsz, hle, fun h => ?_, fun i j hi hj => ?_⟩, ok.z⟩
    · rw [hop h]; exact hop0 h
    · refine vr _ _ ?_
      rw [hq]
      simp only [Nat.add_zero]
      by_cases hin : off ≤ i * sz + j ∧ i * sz + j < off + vs.length
      · rw [if_pos hin]; exact (hc i j hi hj).1 hin
      · rw [if_neg hin]
        obtain ⟨h2, h3⟩ := (hc i j hi hj).2 hin
        rw [h3]
        exact hcv i j h2 hj

end
end Go.MW

/- Appending, copying, clearing. -/
namespace Go.MW
open Go Go.RowKit
set_option linter.unusedVariables false
set_option linter.unusedSimpArgs false

section
variable {P : Program} {G : Nat → Option (List V)} {B : Bd} {Φ : Nat → Option Pl} {Z : Nat → Prop} {H : List Blk} {w : World} {a : Act} {fr : Fr} {K : V → List Blk → Prop} {o : Oper}

theorem getD_left {l r : List V} {i : Nat} (h : i < l.length) : (l ++ r).getD i .junk = l.getD i .junk := by
  simp [List.getD_eq_getElem?_getD, List.getElem?_append_left h]
theorem getD_right {l r : List V} {i : Nat} (h : l.length ≤ i) : (l ++ r).getD i .junk = r.getD (i - l.length) .junk := by
  simp [List.getD_eq_getElem?_getD, List.getElem?_append_right h]

theorem size_zeroCells (z : Array Value) (n : Nat) : (Builtin.zeroCells z n).size = n * z.size := by simp [Builtin.zeroCells]

theorem not_int {d : TypeDesc} (h : ∀ k, d ≠ .int k) : (match d with | .int _ => true | _ => false) = false := by
  cases d <;> first | rfl | exact absurd rfl (h _)

section
variable {t u ty e : TypeId} {d : TypeDesc} {z : V} {sz by_ : Nat} {base : Option Addr} {sLen sCap n : Nat} {x : Value}

theorem append_in (ht : P.underlying t = some (.slice e)) (hu : P.underlying u = some d) (hd : ∀ k, d ≠ .int k) (hs : sizeT P e = some sz) (hx : (Builtin.lenOf x).run P w = .ok n w)
    (hn : sLen + n ≤ sCap) {new : Array Value} (hf : (Builtin.firstCells sz n x).run P w = .ok new w) {w' : World}
    (hst : ∀ ad, base = some ad → (storeCells (ad.add (sLen * sz)) new.toList).run P w = .ok () w') (hb : base = none → w' = w) :
    (Builtin.append_ #[t, u] ty #[.slice base sLen sCap, x]).run P w = .ok (.slice base (sLen + n) sCap) w' := by
  have hd' := not_int hd
  cases base with
  | none =>
    rw [hb rfl]
    simp [Builtin.append_, run_underlying ht, run_underlying hu, run_sizeT hs, hx, hn, hf, hd']
  | some ad => simp [Builtin.append_, run_underlying ht, run_underlying hu, run_sizeT hs, hx, hn, hf, hd', hst ad rfl]

theorem append_grow (ht : P.underlying t = some (.slice e)) (hu : P.underlying u = some d) (hd : ∀ k, d ≠ .int k) {zv : Value} (hz : ∀ w, (zeroValue e).run P w = .ok zv w) (hs : sizeT P e = some sz) (hb : bytesT P e = some by_) (hb0 : by_ ≠ 0)
    (hx : (Builtin.lenOf x).run P w = .ok n w) (hn : sCap < sLen + n) (hr : (sLen + n) * by_ ≤ 2 ^ 47) {new old : Array Value} (hf : (Builtin.firstCells sz n x).run P w.drew = .ok new w.drew)
    (hfo : (Builtin.firstCells sz sLen (.slice base sLen sCap)).run P w.drew = .ok old w.drew) :
    (Builtin.append_ #[t, u] ty #[.slice base sLen sCap, x]).run P w =
      .ok (.slice (some ⟨w.heap.size, 0, none⟩) (sLen + n) (grownCap w (sLen + n) sCap e)) (w.drew.alloc (.cells (old ++ new ++ Builtin.zeroCells zv.cells (grownCap w (sLen + n) sCap e - (sLen + n))) e)) := by
  have hd' := not_int hd
  obtain ⟨i, hi, hib⟩ : ∃ i, P.info? e = some i ∧ i.bytes = by_ := by simpa [bytesT] using hb
  have h1 : Builtin.nextslicecap (sLen + n) sCap ≤ 2 * (sLen + n) := nextslicecap_le hn
  have h2 : Builtin.nextslicecap (sLen + n) sCap * by_ ≤ 2 * (sLen + n) * by_ := Nat.mul_le_mul_right _ h1
  rw [Nat.mul_assoc] at h2
  have h3 : ¬ (281474976710656 < Builtin.nextslicecap (sLen + n) sCap * i.bytes) := by rw [hib]; omega
  have h4 : sLen + n ≤ 2 ^ 47 := Nat.le_trans (Nat.le_mul_of_pos_right _ (by omega)) hr
  have h5 : ¬ (9223372036854775807 < ((sLen : Int) + (n : Int))) := by omega
  have h6 : ¬ (sLen + n ≤ sCap) := by omega
  simp [Builtin.append_, run_underlying ht, run_underlying hu, run_sizeT hs, typeInfo, hi, hx, h6, h5, h3, hd', Question.forced, hf, hfo, hz, newRow, grownCap]

end

theorem grownCap_le (w : World) (need old : Nat) (e : TypeId) : need ≤ grownCap w need old e := by
  simp [grownCap, Question.cut]

theorem range_map_size (f : Nat → Value) (n : Nat) : (((List.range n).map f).toArray).size = n := by simp

/-- Old cells, new ones, and zeros: the elements of the longer row. -/
theorem ElR.append {sz n m : Nat} {xs ys : List V} {f g : Nat → Value} (zs : Array Value) (h1 : ElR Φ Z w sz n xs f) (h2 : ElR Φ Z w sz m ys g) (hn : xs.length = n) (hm : ys.length = m) :
    ElR Φ Z w sz (n + m) (xs ++ ys) fun q => (((List.range (n * sz)).map f).toArray ++ ((List.range (m * sz)).map g).toArray ++ zs).getD q undef := by
  intro i j hi hj
  simp only [Array.getD_eq_getD_getElem?]
  by_cases h : i < n
  · rw [getD_left (by omega)]
    have hq := mul_in (i := i) (n := n) (sz := sz) (j := j) h hj
    rw [Array.getElem?_append_left (by simp; omega), Array.getElem?_append_left (by simp; omega)]
    have := h1 i j h hj
    simpa [hq] using this
  · rw [getD_right (by omega), hn]
    have hq := mul_in (i := i - n) (n := m) (sz := sz) (j := j) (by omega) hj
    have e1 : i * sz + j = n * sz + ((i - n) * sz + j) := by
      rw [← Nat.add_assoc, ← Nat.add_mul]
      congr 2
      omega
    rw [Array.getElem?_append_left (by simp; omega), Array.getElem?_append_right (by simp; omega)]
    have := h2 (i - n) j (by omega) hj
    rw [e1]
    simpa [hq] using this

theorem goods_len {sz : Nat} {ys : List V} (h : Goods sz ys) : ∀ y ∈ ys, y.cells.length = sz := fun y hy => (h y hy).1

/-- Cells that elements have may be stored. -/
theorem goods_one {sz m : Nat} {ys : List V} {f : Nat → Value} (h : Goods sz ys) (hm : m ≤ ys.length) (he : ElR Φ Z w sz m ys f) : ∀ v ∈ (List.range (m * sz)).map f, v.oneCell' = true := by
  intro v hv
  simp only [List.mem_map, List.mem_range] at hv
  obtain ⟨q, hq, rfl⟩ := hv
  obtain ⟨h1, h2, h3⟩ := div_in hq
  have hvr := he (q / sz) (q % sz) h1 h2
  rw [h3] at hvr
  have hg := h _ (getD_mem (l := ys) (i := q / sz) (by omega))
  refine oneCell_of hvr (hg.2 _ ?_)
  exact getD_mem (by rw [hg.1]; exact h2)

theorem range_getD (f : Nat → Value) (n q : Nat) (h : q < n) : ((List.range n).map f).getD q undef = f q := by
  simp [List.getD_eq_getElem?_getD, h]

/-- Elements stored over some of a row's, or right behind it. -/
theorem Rel.storeEls {b i m : Nat} {p : Pl} {sz : Nat} {xs ys : List V} {opn : Bool} {f : Nat → Value} (hrel : Rel G B Φ Z H w) (hp : Φ b = some p) (ok : RowOK Φ Z w p sz xs opn false) (hg : Goods sz ys) (hm : ys.length = m) (he : ElR Φ Z w sz m ys f)
    (hi : i ≤ xs.length) (hle : (i + m) * sz ≤ p.re) (hop : opn = false → i + m ≤ xs.length) :
    ∃ w' p', (storeCells ⟨p.rb, i * sz, none⟩ ((List.range (m * sz)).map f)).run P w = .ok () w' ∧ Rel G B (put1 Φ b p') Z (H.set b (.row sz (xs.take i ++ ys ++ xs.drop (i + m)) opn false)) w' ∧ Ev B Φ Z w (put1 Φ b p') Z w' ∧
      p'.n = (xs.take i ++ ys ++ xs.drop (i + m)).length ∧ p'.rb = p.rb ∧ p'.sz = p.sz ∧ p'.re = p.re := by
  have hx : ∀ q, q < (xs.take i ++ ys ++ xs.drop (i + m)).length → (xs.take i ++ ys ++ xs.drop (i + m)).getD q .junk = if i ≤ q ∧ q < i + m then ys.getD (q - i) .junk else xs.getD q .junk := by
    intro q hq
    by_cases h1 : q < i
    · rw [if_neg (by omega), List.append_assoc, getD_left (by simp; omega), getD_take _ _ _ _ h1]
    · by_cases h2 : q < i + m
      · rw [if_pos (by omega), List.append_assoc, getD_right (by simp; omega), getD_left (by simp; omega)]
        simp [Nat.min_eq_left hi]
      · rw [if_neg (by omega), getD_right (by simp; omega), getD_drop]
        congr 1
        simp [Nat.min_eq_left hi]
        omega
  have hlen : (xs.take i ++ ys ++ xs.drop (i + m)).length = if i + m ≤ xs.length then xs.length else i + m := by
    simp
    split <;> omega
  have hxs := ok.row
  obtain ⟨c, t, fz, hcb, hfz, hsz, hle0, hop0, hcv⟩ := hxs
  have hex : (i + m) * sz = i * sz + m * sz := Nat.add_mul _ _ _
  have := hrel.storeRow (P := P) (off := i * sz) (xs' := xs.take i ++ ys ++ xs.drop (i + m)) (vs := (List.range (m * sz)).map f) hp ok (by simp; omega) (goods_one hg (by omega) he) (fun q hq => ?_) (by rw [hlen]; split <;> omega) (by rw [hlen]; split <;> omega) (fun h => by rw [hlen, if_pos (hop h)]) (fun q j hq hj => ?_)
  · exact this
  · rw [hx q hq]
    split
    · exact goods_len hg _ (getD_mem (by omega))
    · refine ok.csz _ ?_
      rw [hlen] at hq
      split at hq <;> omega
  · rw [hx q hq]
    simp only [List.length_map, List.length_range]
    have hiff : (i * sz ≤ q * sz + j ∧ q * sz + j < i * sz + m * sz) ↔ (i ≤ q ∧ q < i + m) := by
      constructor
      · rintro ⟨h1, h2⟩
        have h3 : i * sz < (q + 1) * sz := by rw [Nat.add_mul]; omega
        have h4 : q * sz < (i + m) * sz := by rw [Nat.add_mul]; omega
        have h5 := Nat.lt_of_mul_lt_mul_right h3
        have h6 := Nat.lt_of_mul_lt_mul_right h4
        omega
      · rintro ⟨h1, h2⟩
        have h3 : i * sz ≤ q * sz := Nat.mul_le_mul_right _ h1
        have h4 := mul_in (i := q) (n := i + m) (sz := sz) (j := j) h2 hj
        omega
    constructor
    · intro h
      have h' := hiff.1 h
      rw [if_pos h']
      have e1 : q * sz + j - i * sz = (q - i) * sz + j := by
        rw [Nat.sub_mul]
        have : i * sz ≤ q * sz := Nat.mul_le_mul_right _ h'.1
        omega
      rw [e1, range_getD _ _ _ (mul_in (by omega) hj)]
      exact he _ _ (by omega) hj
    · intro h
      have h' : ¬ (i ≤ q ∧ q < i + m) := fun hh => h (hiff.2 hh)
      rw [if_neg h']
      refine ⟨?_, rfl⟩
      rw [hlen] at hq
      split at hq <;> omega

end
end Go.MW

/- Appending, copying, clearing, and what else makes rows. -/
namespace Go.MW
open Go Go.RowKit
set_option linter.unusedVariables false
set_option linter.unusedSimpArgs false

section
variable {P : Program} {G : Nat → Option (List V)} {B : Bd} {Φ : Nat → Option Pl} {Z : Nat → Prop} {H : List Blk} {w : World} {a : Act} {fr : Fr} {K : V → List Blk → Prop} {o : Oper}

theorem wr_nil {ys : List V} {rv : Value} {Φ' : Nat → Option Pl} (h : Elems P Φ Z w [] rv) (sz : Nat) : (Builtin.firstCells sz 0 rv).run P w = .ok #[] w := by
  obtain ⟨f, h1, _⟩ := h.2 sz 0 (by simp) (by simp)
  simpa using h1

theorem goods_take {sz : Nat} {xs : List V} {i n : Nat} (h : Goods sz xs) : Goods sz ((xs.drop i).take n) :=
  fun y hy => h y (List.mem_of_mem_drop (List.mem_of_mem_take hy))

theorem app_core {e : TypeId} {sz by_ : Nat} {xa : V} {xv zv : Value} {ys : List V} {g1 : Nat → Value} (hrel : Rel G B Φ Z H w) (hv : VR Φ Z w xa xv) (hzs : zv.cells.size = sz) (hsz0 : sz ≠ 0) (hgr1 : ElR Φ Z w sz ys.length ys g1)
    (hin : ∀ {base sLen sCap w'}, xv = .slice base sLen sCap → sLen + ys.length ≤ sCap → (∀ ad, base = some ad → (storeCells (ad.add (sLen * sz)) ((List.range (ys.length * sz)).map g1)).run P w = .ok () w') → (base = none → w' = w) →
      (execOp a.eval o).run P w = .ok (.value (.slice base (sLen + ys.length) sCap)) w')
    (hgw : ∀ {base sLen sCap} {old : Array Value}, xv = .slice base sLen sCap → sCap < sLen + ys.length → roomy (sLen + ys.length) by_ → (Builtin.firstCells sz sLen (.slice base sLen sCap)).run P w.drew = .ok old w.drew →
      ∃ g2, ElR Φ Z w sz ys.length ys g2 ∧ (execOp a.eval o).run P w = .ok (.value (.slice (some ⟨w.heap.size, 0, none⟩) (sLen + ys.length) (grownCap w (sLen + ys.length) sCap e)))
        (w.drew.alloc (.cells (old ++ ((List.range (ys.length * sz)).map g2).toArray ++ Builtin.zeroCells zv.cells (grownCap w (sLen + ys.length) sCap e - (sLen + ys.length))) e)))
    (hk : appK sz by_ xa ys H K) : Comes' P G B o a w Φ Z K := by
  have hrel2 : Rel G B Φ Z H w.drew := hrel.heap rfl
  obtain ⟨hg, hk⟩ := hk
  -- nothing appended
  have nothing : ∀ {sLen sCap base}, xv = .slice base sLen sCap → sLen ≤ sCap → ys = [] → (execOp a.eval o).run P w = .ok (.value (.slice base sLen sCap)) w := by
    intro sLen sCap base hxv hle hys0
    subst hys0
    have := hin (w' := w) hxv (by simpa using hle) (fun ad _ => by simp [storeCells]) (fun _ => rfl)
    simpa using this
  -- a new block
  have grow : ∀ {sLen sCap base os}, xv = .slice base sLen sCap → os.length = sLen → (∀ y ∈ os, y.cells.length = sz) → Elems P Φ Z w.drew os xv → sCap < sLen + ys.length → roomy (sLen + ys.length) by_ →
      ∃ (cc : Array Value), (execOp a.eval o).run P w = .ok (.value (.slice (some ⟨w.heap.size, 0, none⟩) (sLen + ys.length) (grownCap w (sLen + ys.length) sCap e))) (w.drew.alloc (.cells cc e)) ∧
        cc.size = grownCap w (sLen + ys.length) sCap e * sz ∧ ElR Φ Z w sz (sLen + ys.length) (os ++ ys) (fun q => cc.getD q undef) := by
    intro sLen sCap base os hxv hol hos heo hlt hroom
    obtain ⟨f, hf1, hfr⟩ := heo.2 sz os.length (Nat.le_refl _) (fun i hi => hos _ (getD_mem hi))
    have hfr' : ElR Φ Z w sz os.length os f := fun i j hi hj => (hfr i j hi hj).mono (w := w.drew) (w' := w) (fun _ h => h) (fun _ _ => rfl) (fun b p hp => ⟨p, hp, .inl rfl⟩)
    rw [hol, hxv] at hf1
    obtain ⟨g2, hgr2', hrun2⟩ := hgw hxv hlt hroom hf1
    refine ⟨_, hrun2, ?_, ?_⟩
    · have := grownCap_le w (sLen + ys.length) sCap e
      simp [size_zeroCells, hzs]
      rw [← Nat.add_mul, ← Nat.add_mul]
      congr 1
      omega
    · have := ElR.append (Builtin.zeroCells zv.cells (grownCap w (sLen + ys.length) sCap e - (sLen + ys.length))) hfr' hgr2' rfl rfl
      rw [hol] at this
      exact this
  -- the new block as a row
  have made : ∀ {sLen sCap base os}, xv = .slice base sLen sCap → os.length = sLen → (∀ y ∈ os, y.cells.length = sz) → Elems P Φ Z w.drew os xv → sCap < sLen + ys.length → roomy (sLen + ys.length) by_ →
      K (.hs H.length (sLen + ys.length) 0 0 (sLen + ys.length) none sz) (H ++ [.row sz (os ++ ys) true false]) → Comes' P G B o a w Φ Z K := by
    intro sLen sCap base os hxv hol hos heo hlt hroom hK
    obtain ⟨cc, hrun, hcc, hel⟩ := grow hxv hol hos heo hlt hroom
    have hcap := grownCap_le w (sLen + ys.length) sCap e
    have hlen : (os ++ ys).length = sLen + ys.length := by simp [hol]
    refine Makes.comes (makes_row (r := fun q => .hs q (sLen + ys.length) 0 0 (sLen + ys.length) none sz) (sz := sz) (xs := os ++ ys) (opn := true) hrun (.inr rfl) hK (.inl (Nat.le_refl _)) ?_ (by simp) ?_ ?_ ?_) hrel
    · rw [hlen, hcc]; exact Nat.mul_le_mul_right _ hcap
    · intro i hi
      rcases List.mem_append.1 (getD_mem hi) with hm | hm
      · exact hos _ hm
      · exact goods_len hg _ hm
    · intro i j hi hj
      exact hel i j (by rw [← hlen]; exact hi) hj
    · intro Φ' b w' hp
      refine .hs _ _ _ _ _ _ _ _ _ _ hp (by rw [hlen]; exact Nat.le_refl _) fun _ => ⟨by simp, hcap, ?_⟩
      simp [capOK, hcc]
  split at hk
  · -- nil
    cases hv with
    | nils =>
      split at hk
      · rename_i h0
        exact .value (nothing rfl (Nat.le_refl _) h0) hk .nils hrel (Ev.refl _ _ _ _)
      · rename_i h0
        obtain ⟨hroom, hK⟩ := hk
        have hpos : 0 < ys.length := List.length_pos_iff.2 h0
        have := made (sLen := 0) (sCap := 0) (base := none) (os := []) rfl rfl (by simp) (elems_nil ⟨_, _, rfl⟩) (by omega) (by simpa using hroom)
        simp only [Nat.zero_add, List.nil_append] at this
        exact this hK
  · obtain ⟨h0, hK⟩ := hk
    cases hv with
    | vs _ ad s cap cc h1 h2 h3 h4 h5 h6 => exact .value (nothing rfl h3 h0) hK (.vs _ ad s cap cc h1 h2 h3 h4 h5 h6) hrel (Ev.refl _ _ _ _)
    | vs0 base cap => exact .value (nothing rfl (Nat.zero_le _) h0) hK (.vs0 base cap) hrel (Ev.refl _ _ _ _)
  · rename_i b n i j len cap sz'
    obtain ⟨rfl, rfl, hk⟩ := hk
    split at hk
    · rename_i rsz xs opn frz hH
      obtain ⟨rfl, hn, hin, hgx, hk⟩ := hk
      obtain ⟨p, rcap, hp, ok, rfl, hle, hcap⟩ := hs_inv hrel hv hH hn
      have hpsz := ok.size
      have hrow := ok.row
      obtain ⟨c0, t0, fz0, hcb0, hfz0, hre0, hle0, hop0, hcv0⟩ := hrow
      have holds : Elems P Φ Z w.drew ((xs.drop i).take len) (.slice (some ⟨p.rb, i * rsz + 0, none⟩) len rcap) := by
        have hv' := hv.ev (Ev.drew B Φ Z w)
        obtain ⟨q, rfl, h1⟩ := elems_sound (P := P) (C := fun q => q = (xs.drop i).take len) hrel2 hv' (by
          simp only [elemsK, hH, true_and, and_self, if_true]
          exact ⟨hn, by omega, trivial⟩)
        exact h1
      have hol : ((xs.drop i).take len).length = len := by simp; omega
      have hos : ∀ y ∈ (xs.drop i).take len, y.cells.length = rsz := goods_len (goods_take hgx)
      -- in place
      have inplace : len + ys.length ≤ rcap → (i + len + ys.length) * rsz ≤ p.re → (opn = false → i + len + ys.length ≤ xs.length) → frz = false →
          ∃ w' p', (execOp a.eval o).run P w = .ok (.value (.slice (some ⟨p.rb, i * rsz + 0, none⟩) (len + ys.length) rcap)) w' ∧
            Rel G B (put1 Φ b p') Z (H.set b (.row rsz (xs.take (i + len) ++ ys ++ xs.drop (i + len + ys.length)) opn false)) w' ∧ Ev B Φ Z w (put1 Φ b p') Z w' ∧
            p'.n = (xs.take (i + len) ++ ys ++ xs.drop (i + len + ys.length)).length ∧ p'.rb = p.rb ∧ p'.sz = p.sz ∧ p'.re = p.re := by
        intro h1 h2 h3 hfrz
        subst hfrz
        obtain ⟨w', p', hst, hr', hev, hh⟩ := Rel.storeEls (P := P) (i := i + len) (m := ys.length) hrel hp ok hg rfl hgr1 (by omega) h2 h3
        refine ⟨w', p', ?_, hr', hev, hh⟩
        refine hin rfl h1 (fun ad had => ?_) (fun h => by cases h)
        obtain rfl := Option.some.inj had
        rw [add_eq rfl]
        simp only [Nat.add_zero]
        rw [← Nat.add_mul]
        exact hst
      split at hk
      · rename_i cc
        have hrc : rcap = cc := hcap
        subst hrc
        split at hk
        · rename_i hfit
          obtain ⟨hic, hfrz, hK⟩ := hk
          have h2 : (i + len + ys.length) * rsz ≤ p.re := by
            have : (i + len + ys.length) * rsz ≤ xs.length * rsz := Nat.mul_le_mul_right _ (by omega)
            omega
          obtain ⟨w', p', hrun, hr', hev, hh1, hh2, hh3, hh4⟩ := inplace hfit h2 (fun _ => by omega) hfrz
          refine .value hrun hK ?_ hr' hev
          refine .hs _ _ _ _ _ _ _ p' _ _ (put1_same _ _ _) ?_ fun _ => ⟨by rw [hh2, hh3, hpsz], hfit, rfl⟩
          rw [hh1]; simp; omega
        · rename_i hfit
          obtain ⟨hroom, hK⟩ := hk
          exact made rfl hol hos holds (by omega) hroom hK
      · simp only [capOK, hpsz] at hcap
        split at hk
        · rename_i hfit
          obtain ⟨hfrz, hK⟩ := hk
          have h2 : (i + len + ys.length) * rsz ≤ p.re := by
            have : (i + len + ys.length) * rsz ≤ xs.length * rsz := Nat.mul_le_mul_right _ (by omega)
            omega
          have h1 : len + ys.length ≤ rcap := by
            have h3 : (i + len + ys.length) * rsz ≤ (i + rcap) * rsz := by rw [Nat.add_mul i rcap]; omega
            have := Nat.le_of_mul_le_mul_right h3 (by omega)
            omega
          obtain ⟨w', p', hrun, hr', hev, hh1, hh2, hh3, hh4⟩ := inplace h1 h2 (fun _ => by omega) hfrz
          refine .value hrun hK ?_ hr' hev
          refine .hs _ _ _ _ _ _ _ p' _ _ (put1_same _ _ _) ?_ fun _ => ⟨by rw [hh2, hh3, hpsz], h1, ?_⟩
          · rw [hh1]; simp; omega
          · simp only [capOK, hh3, hh4, hpsz]; exact hcap
        · rename_i hfit
          obtain ⟨rfl, hfrz, hroom, hK⟩ := hk
          simp only [Nat.zero_mul, Nat.zero_add] at hcap
          have hdrop : xs.drop (len + ys.length) = [] := List.drop_eq_nil_of_le (by omega)
          by_cases h1 : len + ys.length ≤ rcap
          · -- the block has room
            have h2 : (0 + len + ys.length) * rsz ≤ p.re := by
              rw [← hcap]; exact Nat.mul_le_mul_right _ (by omega)
            have hopn : opn = true := by
              cases opn with
              | true => rfl
              | false =>
                have := hop0 rfl
                rw [this] at h2
                have := Nat.le_of_mul_le_mul_right h2 (by omega)
                omega
            obtain ⟨w', p', hrun, hr', hev, hh1, hh2, hh3, hh4⟩ := inplace h1 h2 (fun hq => by rw [hopn] at hq; cases hq) hfrz
            simp only [Nat.zero_add, hdrop, List.append_nil, hopn] at hr' hh1
            refine .value hrun hK ?_ hr' hev
            refine .hs _ _ _ _ _ _ _ p' _ _ (put1_same _ _ _) ?_ fun _ => ⟨by rw [hh2, hh3, hpsz], h1, ?_⟩
            · rw [hh1]; simp; omega
            · simp only [capOK, hh3, hh4, hpsz]; omega
          · -- another block
            simp only [List.drop_zero] at hol hos holds
            obtain ⟨cc, hrun, hcc, hel⟩ := grow rfl hol hos holds (by omega) hroom
            have hcapn := grownCap_le w (len + ys.length) rcap e
            have hlen : (xs.take len ++ ys).length = len + ys.length := by simp; omega
            subst hfrz
            have := hrel2.write (b := b) (k := .row rsz (xs.take len ++ ys) true false) (p := p) (p' := ⟨w.heap.size, len + ys.length, rsz, cc.size⟩) (w' := w.drew.alloc (.cells cc e)) hp (ok.z.2 rfl)
              (.inr (by rw [ok.len]; simp; omega)) (.inr (Nat.le_refl _)) ((Below.refl _ _).alloc hrel2.size _) (fun r _ hr => Below.heap_alloc _ _ r hr) (fun vr => by
                refine ⟨hlen.symm, rfl, fun i hi => ?_, ⟨cc, e, (0, 0), ?_, .inl (Nat.le_refl _), rfl, ?_, by simp, fun i j hi hj => vr _ _ ?_⟩, ⟨fun h => (by cases h), fun _ hz => ?_⟩⟩
                · rcases List.mem_append.1 (getD_mem hi) with hm | hm
                  · exact hos _ hm
                  · exact goods_len hg _ hm
                · show (w.heap.push _)[w.heap.size]? = _
                  simp
                · rw [hlen, hcc]; exact Nat.mul_le_mul_right _ hcapn
                · exact (hel i j (by rw [← hlen]; exact hi) hj).ev (Ev.drew B Φ Z w)
                · have := hrel.zin _ hz
                  simp at this)
            refine .value hrun hK ?_ this.1 ((Ev.drew B Φ Z w).trans this.2)
            refine .hs _ _ _ _ _ _ _ _ _ _ (put1_same _ _ _) (Nat.le_refl _) fun _ => ⟨by simp, hcapn, ?_⟩
            simp [capOK, hcc]
    · exact hk.elim
  · exact hk.elim

theorem app_sound {t u e : TypeId} {d : TypeDesc} {z : V} {sz by_ : Nat} {x y : Operand} {x' y' : Opd} {c : Call} (hrel : Rel G B Φ Z H w) (hf : FrR Φ Z w fr a) (ho : o.op = .call c) (hc : c.callee = .builtin .append) (hat : c.argTypes = #[t, u]) (hargs : c.args = #[x, y])
    (ht : P.underlying t = some (.slice e)) (hu : P.underlying u = some d) (hd : ∀ k, d ≠ .int k) (hz : zeroT P e = some (z, sz)) (hb : bytesT P e = some by_) (hsz0 : sz ≠ 0) (hb0 : by_ ≠ 0) (hx : opd x = some x') (hy : opd y = some y')
    (h : elemsK H (ev G fr y') fun ys => appK sz by_ (ev G fr x') ys H K) : Comes' P G B o a w Φ Z K := by
  have hv := ev_sound (x := x) hrel.glob hf hx
  have hv2 := ev_sound (x := y) hrel.glob hf hy
  have hex : ∀ {v w'}, (Builtin.append_ #[t, u] o.type #[a.eval x, a.eval y]).run P w = .ok v w' → (execOp a.eval o).run P w = .ok (.value v) w' := by
    intro v w' he
    simp [execOp, ho, resolve, hc, hat, hargs, invoke, builtin, he]
  generalize a.eval x = xv at hv hex
  generalize a.eval y = yv at hv2 hex
  generalize ev G fr x' = xa at hv h
  generalize ev G fr y' = ya at hv2 h
  obtain ⟨zv, hzr, _, hzc, hzl, _, hs⟩ := zero_cells (Φ := Φ) (Z := Z) (w := w) hz
  have hzs : zv.cells.size = sz := by rw [hzc.1, hzl]
  have hrel2 : Rel G B Φ Z H w.drew := hrel.heap rfl
  have hv2' : VR Φ Z w.drew ya yv := hv2.ev (Ev.drew B Φ Z w)
  have hdet : ∀ ys, elemsK H ya (fun ys' => ys' = ys) → Elems P Φ Z w ys yv ∧ Elems P Φ Z w.drew ys yv := by
    intro ys he
    obtain ⟨q, rfl, h1⟩ := elems_sound (P := P) hrel hv2 he
    obtain ⟨q', rfl, h2⟩ := elems_sound (P := P) hrel2 hv2' he
    exact ⟨h1, h2⟩
  obtain ⟨ys, hys, hk⟩ : ∃ ys, elemsK H ya (fun ys' => ys' = ys) ∧ appK sz by_ xa ys H K := by
    unfold elemsK at h ⊢
    split at h
    · exact ⟨_, rfl, h⟩
    · exact ⟨_, rfl, h⟩
    · exact ⟨_, rfl, h⟩
    · split at h
      · obtain ⟨h1, h2⟩ := h
        split at h2
        · rename_i hcond
          refine ⟨_, ⟨h1, ?_⟩, h2.2⟩
          rw [if_pos hcond]
          exact ⟨h2.1, rfl⟩
        · rename_i hcond
          refine ⟨_, ⟨h1, ?_⟩, h2.2.2.2.2⟩
          rw [if_neg hcond]
          exact ⟨h2.1, h2.2.1, h2.2.2.1, h2.2.2.2.1, rfl⟩
      · exact h.elim
    · exact h.elim
  obtain ⟨he1, he2⟩ := hdet ys hys
  have hg := hk.1
  obtain ⟨g1, hg1, hgr1⟩ := he1.2 sz ys.length (Nat.le_refl _) (fun i hi => goods_len hg _ (getD_mem hi))
  obtain ⟨g2, hg2, hgr2⟩ := he2.2 sz ys.length (Nat.le_refl _) (fun i hi => goods_len hg _ (getD_mem hi))
  have hgr2' : ElR Φ Z w sz ys.length ys g2 := fun i j hi hj => (hgr2 i j hi hj).mono (w := w.drew) (w' := w) (fun _ h => h) (fun _ _ => rfl) (fun b p hp => ⟨p, hp, .inl rfl⟩)
  refine app_core (e := e) hrel hv hzs hsz0 hgr1 ?_ ?_ hk
  · intro base sLen sCap w' hxv hle hst hno
    refine hex ?_
    rw [hxv]
    exact append_in ht hu hd hs he1.1 hle hg1 (fun ad had => by simpa using hst ad had) hno
  · intro base sLen sCap old hxv hlt hroom hf1
    refine ⟨g2, hgr2', hex ?_⟩
    rw [hxv]
    exact append_grow ht hu hd hzr hs hb hb0 he1.1 hlt hroom hg2 hf1

end
end Go.MW

/- Copying, clearing, bytes and strings, and what else makes rows. -/
namespace Go.MW
open Go Go.RowKit
set_option linter.unusedVariables false
set_option linter.unusedSimpArgs false

section
variable {P : Program} {G : Nat → Option (List V)} {B : Bd} {Φ : Nat → Option Pl} {Z : Nat → Prop} {H : List Blk} {w : World} {a : Act} {fr : Fr} {K : V → List Blk → Prop} {o : Oper}

theorem ElR.take {sz n m : Nat} {ys : List V} {f : Nat → Value} (h : ElR Φ Z w sz n ys f) (hm : n ≤ m) : ElR Φ Z w sz n (ys.take m) f := by
  intro i j hi hj
  rw [getD_take _ _ _ _ (by omega)]
  exact h i j hi hj

/-- Elements written over those of a slice. -/
theorem wr_sound {sz : Nat} {xa : V} {base : Option Addr} {len cap : Nat} {ys : List V} {f : Nat → Value} {C : List Blk → Prop} (hrel : Rel G B Φ Z H w) (hv : VR Φ Z w xa (.slice base len cap)) (hlen : ys.length ≤ len) (he : ElR Φ Z w sz ys.length ys f)
    (h : wrK sz xa ys H C) : ∃ w' Φ' H', C H' ∧ Rel G B Φ' Z H' w' ∧ Ev B Φ Z w Φ' Z w' ∧ (∀ ad, base = some ad → (storeCells ad ((List.range (ys.length * sz)).map f)).run P w = .ok () w') ∧ (base = none → w' = w) := by
  obtain ⟨hg, h⟩ := h
  have none' : ∀ {H'}, ys = [] → C H → H' = H → ∃ w' Φ' H', C H' ∧ Rel G B Φ' Z H' w' ∧ Ev B Φ Z w Φ' Z w' ∧ (∀ ad, base = some ad → (storeCells ad ((List.range (ys.length * sz)).map f)).run P w = .ok () w') ∧ (base = none → w' = w) := by
    intro H' h0 hC _
    subst h0
    exact ⟨w, Φ, H, hC, hrel, Ev.refl _ _ _ _, fun ad _ => (by simp [storeCells]), fun _ => rfl⟩
  split at h
  · rename_i b n i j len' cap' sz'
    obtain ⟨rfl, hle, h⟩ := h
    split at h
    · rename_i rsz xs opn frz hH
      obtain ⟨hn, rfl, h⟩ := h
      obtain ⟨p, rcap, hp, ok, hsl, hle', hcap⟩ := hs_inv hrel hv hH hn
      obtain ⟨rfl, rfl, rfl⟩ := Value.slice.inj hsl
      have hrow := ok.row
      obtain ⟨c0, t0, fz0, hcb0, hfz0, hre0, hle0, hop0, hcv0⟩ := hrow
      split at h
      · rename_i hc
        obtain ⟨rfl, rfl⟩ := hc
        obtain ⟨h1, hC⟩ := h
        obtain ⟨w', p', hst, hr', hev, _⟩ := Rel.storeEls (P := P) (i := i) (m := ys.length) hrel hp ok hg rfl he (by omega) (by
          have : (i + ys.length) * rsz ≤ xs.length * rsz := Nat.mul_le_mul_right _ (by omega)
          omega) (fun _ => by omega)
        exact ⟨w', _, _, hC, hr', hev, fun ad had => by obtain rfl := Option.some.inj had; exact hst, fun h => by cases h⟩
      · obtain ⟨rfl, h1, h2, h3, hC⟩ := h
        have hcs := ok.csz i (by omega)
        obtain ⟨w', Φ', hst, hr', hev⟩ := Rel.setCells (P := P) (i := i) (j := j) (x := .agg (setR (xs.getD i .junk).cells j ys)) (vs := (List.range (ys.length * 1)).map f) (m := 0) (xv := .junk) (r0 := 0) hrel hp ok (by omega) (by simp; omega)
          (goods_one hg (Nat.le_refl _) he) (by rw [agg_cells, setR_length]; exact hcs) (fun q hq => by
            simp only [List.length_map, List.length_range, Nat.mul_one, agg_cells]
            rw [setR_getD _ _ _ _ (by omega)]
            refine ⟨fun hh => ?_, fun hh => by rw [if_neg hh]⟩
            rw [if_pos hh, range_getD _ _ _ (by omega)]
            have h4 := he (q - j) 0 (by omega) (by omega)
            rw [one_cells (h3 _ (getD_mem (by omega)))] at h4
            simpa using h4)
        exact ⟨w', Φ', _, hC, hr', hev, fun ad had => by obtain rfl := Option.some.inj had; exact hst, fun h => by cases h⟩
    · exact h.elim
  · exact none' h.1 h.2 rfl
  · exact none' h.1 h.2 rfl
  · exact h.elim

theorem lenK1_inv {xa : V} {rv : Value} {C : V → Prop} (hv : VR Φ Z w xa rv) (h : lenK 1 H xa C) : ∃ base len cap, rv = .slice base len cap ∧ C (.int .i64 len) := by
  unfold lenK at h
  split at h
  · omega
  · cases hv with
    | vs _ ad sz cap => exact ⟨_, _, _, rfl, h⟩
    | vs0 b cap => exact ⟨_, _, _, rfl, h⟩
  · cases hv with
    | nils => exact ⟨_, _, _, rfl, h⟩
  · cases hv with
    | hs => exact ⟨_, _, _, rfl, h⟩
  · omega
  · exact h.elim

theorem cpy_sound {t u e : TypeId} {sz : Nat} {x y : Operand} {x' y' : Opd} {c : Call} (hrel : Rel G B Φ Z H w) (hf : FrR Φ Z w fr a) (ho : o.op = .call c) (hc : c.callee = .builtin .copy) (hat : c.argTypes = #[t, u]) (hargs : c.args = #[x, y])
    (ht : P.underlying t = some (.slice e)) (hs : sizeT P e = some sz) (hx : opd x = some x') (hy : opd y = some y')
    (h : elemsK H (ev G fr y') fun ys => lenK 1 H (ev G fr x') fun l => match l with
      | .int _ n => wrK sz (ev G fr x') (ys.take n.toNat) H fun H' => K (.int .i64 (Nat.min ys.length n.toNat)) H'
      | _ => False) : Comes' P G B o a w Φ Z K := by
  have hv := ev_sound (x := x) hrel.glob hf hx
  have hv2 := ev_sound (x := y) hrel.glob hf hy
  have hex : (execOp a.eval o).run P w = ((Builtin.copy_ #[t, u] o.type #[a.eval x, a.eval y]).run P w).andThen fun v w => .ok (.value v) w := by
    simp [execOp, ho, resolve, hc, hat, hargs, invoke, builtin]
  generalize a.eval x = xv at hv hex
  generalize a.eval y = yv at hv2 hex
  generalize ev G fr x' = xa at hv h
  generalize ev G fr y' = ya at hv2 h
  obtain ⟨ys, h, hel⟩ := elems_sound (P := P) hrel hv2 h
  obtain ⟨base, len, cap, rfl, h⟩ := lenK1_inv hv h
  simp only [Int.toNat_natCast] at h
  have hmin : Nat.min ys.length len = (ys.take len).length := by rw [List.length_take]; exact Nat.min_comm _ _
  have hg := h.1
  obtain ⟨f, hf1, hfr⟩ := hel.2 sz (ys.take len).length (by simp; omega) (fun i hi => by
    rw [← getD_take _ len _ _ (by simp at hi; omega)]
    exact goods_len hg _ (getD_mem hi))
  obtain ⟨w', Φ', H', hK, hr', hev, hst, hno⟩ := wr_sound (P := P) hrel hv (by simp; omega) (hfr.take (by simp; omega)) h
  refine .value (w' := w') (rv := .int .i64 (Nat.min ys.length len : Nat)) ?_ hK (.int _ _) hr' hev
  rw [hex]
  rw [← hmin] at hf1 hst
  cases base with
  | none =>
    rw [hno rfl]
    simp [Builtin.copy_, run_underlying ht, run_sizeT hs, hel.1]
    rw [hf1]
    simp
    rfl
  | some ad =>
    have := hst ad rfl
    simp [Builtin.copy_, run_underlying ht, run_sizeT hs, hel.1]
    rw [hf1]
    simp [this]
    rfl

theorem range_zero (zv : Array Value) (n : Nat) : (Builtin.zeroCells zv n).toList = (List.range (n * zv.size)).map fun q => zv[q % zv.size]! := by
  simp [Builtin.zeroCells]

theorem ElR.zeros {z : V} {zv : Array Value} {sz : Nat} (h : CellsR Φ Z w z.cells zv) (hl : z.cells.length = sz) (n : Nat) : ElR Φ Z w sz n (List.replicate n z) fun q => zv[q % sz]! := by
  intro i j hi hj
  have h1 : (i * sz + j) % sz = j := by
    rw [Nat.mul_comm, Nat.mul_add_mod, Nat.mod_eq_of_lt hj]
  have h2 : (List.replicate n z).getD i .junk = z := by simp [List.getD_eq_getElem?_getD, hi]
  simp only [h1, h2]
  have := h.2 j (by omega)
  have hlt : j < zv.size := by rw [h.1]; omega
  simpa [hlt, Array.getD] using this

/-- Zeros appended. -/
theorem appZ_sound {t u e : TypeId} {ik : IntKind} {z : V} {sz by_ : Nat} {x y : Operand} {x' y' : Opd} {c : Call} (hrel : Rel G B Φ Z H w) (hf : FrR Φ Z w fr a) (ho : o.op = .call c) (hc : c.callee = .builtin .append) (hat : c.argTypes = #[t, u]) (hargs : c.args = #[x, y])
    (ht : P.underlying t = some (.slice e)) (hu : P.underlying u = some (.int ik)) (hz : zeroT P e = some (z, sz)) (hb : bytesT P e = some by_) (hsz0 : sz ≠ 0) (hb0 : by_ ≠ 0) (hx : opd x = some x') (hy : opd y = some y')
    (h : match ev G fr y' with
      | .int _ n => (0 ≤ n ∧ n < 2 ^ 63 ∧ n * (by_ : Int) ≤ 2 ^ 48) ∧ appK sz by_ (ev G fr x') (List.replicate n.toNat z) H K
      | _ => False) : Comes' P G B o a w Φ Z K := by
  have hv := ev_sound (x := x) hrel.glob hf hx
  have hv2 := ev_sound (x := y) hrel.glob hf hy
  have hex : ∀ {v w'}, (Builtin.append_ #[t, u] o.type #[a.eval x, a.eval y]).run P w = .ok v w' → (execOp a.eval o).run P w = .ok (.value v) w' := by
    intro v w' he
    simp [execOp, ho, resolve, hc, hat, hargs, invoke, builtin, he]
  generalize a.eval x = xv at hv hex
  generalize a.eval y = yv at hv2 hex
  generalize ev G fr x' = xa at hv h
  generalize ev G fr y' = ya at hv2 h
  obtain ⟨zv, hzr, _, hzc, hzl, _, hs⟩ := zero_cells (Φ := Φ) (Z := Z) (w := w) hz
  have hzs : zv.cells.size = sz := by rw [hzc.1, hzl]
  cases ya <;> simp only at h <;> try exact h.elim
  rename_i k n
  obtain rfl := hv2.int_inv
  obtain ⟨⟨hn0, hn63, hn48⟩, hk⟩ := h
  obtain ⟨m, rfl⟩ : ∃ m : Nat, n = m := ⟨n.toNat, by omega⟩
  rw [Int.toNat_natCast] at hk
  obtain ⟨i, hi, hib⟩ : ∃ i, P.info? e = some i ∧ i.bytes = by_ := by simpa [bytesT] using hb
  have hw : IntKind.i64.wrap (m : Int) = m := by rw [IntKind.wrap_i64]; omega
  have h48 : ¬ ((2 : Int) ^ 48 < (m : Int) * (i.bytes : Int)) := by rw [hib]; omega
  have h48' : ¬ (281474976710656 < (m : Int) * (i.bytes : Int)) := by rw [hib]; omega
  have hneg : ¬ ((m : Int) < 0) := by omega
  have hzz : (if m * sz = 0 then (#[] : Array Value) else Builtin.zeroCells zv.cells m) = Builtin.zeroCells zv.cells m := by
    split
    · rename_i h0
      have : (Builtin.zeroCells zv.cells m).size = 0 := by rw [size_zeroCells, hzs]; exact h0
      exact (Array.eq_empty_of_size_eq_zero this).symm
    · rfl
  have hrz : (Builtin.zeroCells zv.cells m).toList = (List.range (m * sz)).map fun q => zv.cells[q % sz]! := by rw [range_zero, hzs]
  have hra : Builtin.zeroCells zv.cells m = ((List.range (m * sz)).map fun q => zv.cells[q % sz]!).toArray := by rw [← hrz]
  refine app_core (e := e) (by_ := by_) (zv := zv) (g1 := fun q => zv.cells[q % sz]!) hrel hv hzs hsz0 (by simpa using ElR.zeros hzc hzl m) ?_ ?_ hk
  · intro base sLen sCap w' hxv hle hst hno
    refine hex ?_
    rw [hxv]
    simp only [List.length_replicate] at hle hst ⊢
    rw [← hrz] at hst
    by_cases h0 : m * sz = 0
    · have hm0 : m = 0 := by
        rcases Nat.mul_eq_zero.1 h0 with h | h
        · exact h
        · exact absurd h hsz0
      subst hm0
      have hw' : w' = w := by
        cases base with
        | none => exact hno rfl
        | some ad =>
          have := hst ad rfl
          simp [Builtin.zeroCells, storeCells] at this
          exact this.symm
      subst hw'
      have hw0 : IntKind.i64.wrap 0 = 0 := rfl
      simp only [Nat.add_zero] at hle
      cases base <;> simp [Builtin.append_, run_underlying ht, run_underlying hu, run_sizeT hs, asInt, asIntOf, hw0, typeInfo, hi, hle, storeCells]
    · cases base with
      | none =>
        rw [hno rfl]
        simp [Builtin.append_, run_underlying ht, run_underlying hu, run_sizeT hs, asInt, asIntOf, hw, typeInfo, hi, hle, hneg, h48, h48', hzr]
      | some ad =>
        have := hst ad rfl
        simp [Builtin.append_, run_underlying ht, run_underlying hu, run_sizeT hs, asInt, asIntOf, hw, typeInfo, hi, hle, hneg, h48, h48', hzr, h0, -Array.toList_map, this]
  · intro base sLen sCap old hxv hlt hroom hf1
    refine ⟨fun q => zv.cells[q % sz]!, by simpa using ElR.zeros hzc hzl m, hex ?_⟩
    rw [hxv]
    simp only [List.length_replicate] at hlt hroom ⊢
    rw [← hra]
    have h1 : Builtin.nextslicecap (sLen + m) sCap ≤ 2 * (sLen + m) := nextslicecap_le hlt
    have h2 : Builtin.nextslicecap (sLen + m) sCap * by_ ≤ 2 * (sLen + m) * by_ := Nat.mul_le_mul_right _ h1
    rw [Nat.mul_assoc] at h2
    unfold roomy at hroom
    have h3 : ¬ (281474976710656 < Builtin.nextslicecap (sLen + m) sCap * i.bytes) := by rw [hib]; omega
    have h4 : sLen + m ≤ 2 ^ 47 := Nat.le_trans (Nat.le_mul_of_pos_right _ (by omega)) hroom
    have h5 : ¬ (9223372036854775807 < ((sLen : Int) + (m : Int))) := by omega
    have h6 : ¬ (sLen + m ≤ sCap) := by omega
    have hz1 : ((if m * sz = 0 then pure #[] else do pure (Builtin.zeroCells (← zeroValue e).cells m) : Sem (Array Value))).run P w.drew = .ok (Builtin.zeroCells zv.cells m) w.drew := by
      by_cases h0 : m * sz = 0
      · rw [if_pos h0] at hzz ⊢
        rw [← hzz]
        simp
      · rw [if_neg h0]
        simp [hzr]
    simp [Builtin.append_, run_underlying ht, run_underlying hu, run_sizeT hs, asInt, asIntOf, hw, typeInfo, hi, hneg, h48, h48', h6, h5, h3, Question.forced, hf1, hz1, hzr, newRow, grownCap]
    intro h0
    rw [if_pos h0] at hzz
    rw [← hzz]
    simp

theorem clr_sound {t e : TypeId} {z : V} {sz : Nat} {x : Operand} {x' : Opd} {c : Call} (hrel : Rel G B Φ Z H w) (hf : FrR Φ Z w fr a) (ho : o.op = .call c) (hc : c.callee = .builtin .clear) (hat : c.argTypes = #[t]) (hargs : c.args = #[x])
    (ht : P.underlying t = some (.slice e)) (hz : zeroT P e = some (z, sz)) (hx : opd x = some x')
    (h : lenK 1 H (ev G fr x') fun l => match l with
      | .int _ n => wrK sz (ev G fr x') (List.replicate n.toNat z) H fun H' => K .junk H'
      | _ => False) : Comes' P G B o a w Φ Z K := by
  have hv := ev_sound (x := x) hrel.glob hf hx
  have hex : (execOp a.eval o).run P w = ((Builtin.clear_ #[t] o.type #[a.eval x]).run P w).andThen fun v w => .ok (.value v) w := by
    simp [execOp, ho, resolve, hc, hat, hargs, invoke, builtin]
  generalize a.eval x = xv at hv hex
  generalize ev G fr x' = xa at hv h
  obtain ⟨zv, hzr, _, hzc, hzl, _, hs⟩ := zero_cells (Φ := Φ) (Z := Z) (w := w) hz
  have hzs : zv.cells.size = sz := by rw [hzc.1, hzl]
  obtain ⟨base, len, cap, rfl, h⟩ := lenK1_inv hv h
  simp only [Int.toNat_natCast] at h
  obtain ⟨w', Φ', H', hK, hr', hev, hst, hno⟩ := wr_sound (P := P) (f := fun q => zv.cells[q % sz]!) hrel hv (by simp) (by simpa using ElR.zeros hzc hzl len) h
  refine .value (w' := w') (rv := .tuple #[]) ?_ hK (.junk _) hr' hev
  rw [hex]
  simp only [List.length_replicate] at hst
  cases base with
  | none =>
    rw [hno rfl]
    simp [Builtin.clear_, run_underlying ht]
  | some ad =>
    have h1 := hst ad rfl
    have h2 : (storeCells ad (Builtin.zeroCells zv.cells len).toList).run P w = .ok () w' := by rw [range_zero, hzs]; exact h1
    cases len with
    | zero =>
      have : w' = w := by
        simp [storeCells] at h1
        exact h1.symm
      rw [this]
      simp [Builtin.clear_, run_underlying ht]
    | succ n =>
      simp [Builtin.clear_, run_underlying ht, hzr, -Array.toList_map, h2]

theorem map_u8_inj : ∀ {a b : List UInt8}, a.map u8V = b.map u8V → a = b
  | [], [], _ => rfl
  | [], _ :: _, h => by simp at h
  | _ :: _, [], h => by simp at h
  | x :: a, y :: b, h => by
    simp only [List.map_cons, List.cons.injEq] at h
    have h1 : x = y := by
      have := h.1
      simp [u8V] at this
      exact UInt8.toNat_inj.1 (by omega)
    rw [h1, map_u8_inj h.2]

theorem slice_of_elems {xa : V} {xv : Value} {C : List V → Prop} (hv : VR Φ Z w xa xv) (hns : xa.isStr = false) (h : elemsK H xa C) : ∃ base len cap, xv = .slice base len cap := by
  cases hv <;> first | exact ⟨_, _, _, rfl⟩ | (exfalso; exact h) | cases hns

theorem b2s_sound {s d e : TypeId} {x : Operand} {x' : Opd} (hrel : Rel G B Φ Z H w) (hf : FrR Φ Z w fr a) (ho : o.op = .convert s d x) (hs : P.underlying s = some (.slice e)) (hd : P.underlying d = some .string) (he : P.underlying e = some (.int .u8)) (hx : opd x = some x')
    (hns : (ev G fr x').isStr = false) (h : elemsK H (ev G fr x') fun xs => bytesK xs (K · H)) : Reads P o a w Φ Z (K · H) := by
  have hv := ev_sound (x := x) hrel.glob hf hx
  have hex : (execOp a.eval o).run P w = ((convert s d (a.eval x)).run P w).andThen fun v w => .ok (.value v) w := by simp [execOp, ho]
  generalize a.eval x = xv at hv hex
  generalize ev G fr x' = xa at hv h hns
  obtain ⟨base, len, cap, rfl⟩ := slice_of_elems hv hns h
  obtain ⟨xs, ⟨l, rfl, hK⟩, hel⟩ := elems_sound (P := P) hrel hv h
  have hlen := hel.1
  obtain ⟨f, hf1, hfr⟩ := hel.2 1 l.length (by simp) (fun i hi => by simp [List.getD_eq_getElem?_getD, hi, u8V, V.cells])
  refine .here (rv := .string ⟨l.toArray⟩) ?_ hrel hK (.str _)
  rw [hex]
  have hcell : ∀ q, q < l.length → f q = .int .u8 ((l.getD q 0).toNat : Int) := by
    intro q hq
    have := hfr q 0 hq (by omega)
    rw [show ((l.map u8V).getD q .junk) = u8V (l.getD q 0) by simp [List.getD_eq_getElem?_getD, hq]] at this
    simpa [u8V, V.cells] using this.int_inv
  have hmap : (List.range (l.length * 1)).map f = (l.map fun b => (b.toNat : Int)).map (Value.int .u8) := by
    apply List.ext_getElem?
    intro q
    by_cases hq : q < l.length
    · simp [hq, hcell q hq]
    · simp [hq]
  rw [hmap] at hf1
  have hle : len = l.length := by simpa [Builtin.lenOf] using hlen
  subst hle
  rw [run_convert_bytes_string w s d e base l.length cap hs he hd]
  cases base with
  | none =>
    have : l = [] := by
      simp [Builtin.firstCells] at hf1
      exact hf1
    subst this
    simp [Conv.bytesToString]
    rfl
  | some ad =>
    simp only [Builtin.firstCells, Nat.mul_one] at hf1
    rw [run_bytesToString w ad l.length cap _ hf1, foldl_push_byteCells]
    have he0 : ByteArray.empty.data = #[] := rfl
    rw [he0]
    simp

/-- A slice's elements laid. -/
theorem fillS_sound {sz n : Nat} (hg : GlobOK G Z w) (hf : FrR Φ Z w fr a) {C : List V → Prop} : ∀ (parts : List (Nat × Operand)) (parts' : List (Nat × Opd)) (xs : List V) (rs : Array Value), compPartsS n parts = some parts' →
    xs.length = n → rs.size = n * sz → (∀ i, i < n → (xs.getD i .junk).cells.length = sz) → ElR Φ Z w sz n xs (fun q => rs.getD q undef) → partsS G fr sz xs parts' C →
    ∃ xs' rs', C xs' ∧ xs'.length = n ∧ rs'.size = n * sz ∧ (∀ i, i < n → (xs'.getD i .junk).cells.length = sz) ∧ ElR Φ Z w sz n xs' (fun q => rs'.getD q undef) ∧
      Instr.fill (fun i => some (i * sz, sz)) rs (parts.map fun (i, x) => (i, a.eval x)) = some rs'
  | [], parts', xs, rs, hp, hn, hs, hc, he, h => by
    simp [compPartsS] at hp
    subst hp
    exact ⟨xs, rs, h, hn, hs, hc, he, rfl⟩
  | (i, x) :: parts, parts', xs, rs, hp, hn, hs, hc, he, h => by
    simp only [compPartsS] at hp
    split at hp <;> try (simp at hp; done)
    rename_i y as hy has
    split at hp <;> simp at hp
    rename_i hin
    subst hp
    obtain ⟨h1, h2, h3⟩ := h
    obtain ⟨h4, h5⟩ := (ev_sound hg hf hy).cells h1
    have e1 : (a.eval x).cells.zipIdx.foldl (fun cs (c, j) => cs.setIfInBounds (i * sz + j) c) rs = ((a.eval x).cells.toList.zipIdx 0).foldl (fun cs (c, j) => cs.setIfInBounds (i * sz + j) c) rs := by
      rw [← Array.foldl_toList, Array.toList_zipIdx]
    have hls : (a.eval x).cells.toList.length = sz := by simp; omega
    have hle : (i + 1) * sz ≤ n * sz := Nat.mul_le_mul_right _ hin
    rw [Nat.add_mul] at hle
    obtain ⟨h6, h7⟩ := foldl_set (i * sz) (a.eval x).cells.toList 0 rs (by omega)
    obtain ⟨xs', rs', g1, g2, g3, g4, g5, g6⟩ := fillS_sound hg hf parts as (xs.set i (ev G fr y)) ((a.eval x).cells.zipIdx.foldl (fun cs (c, j) => cs.setIfInBounds (i * sz + j) c) rs) has (by simpa using hn) (by rw [e1, h6]; exact hs) (fun q hq => by
      by_cases hqi : q = i
      · subst hqi; simp [List.getD_eq_getElem?_getD, hn, hq, h2]
      · have := hc q hq
        simpa [List.getD_eq_getElem?_getD, List.getElem?_set_ne (Ne.symm hqi)] using this) (fun q j hq hj => by
      simp only [e1]
      rw [h7]
      simp only [Nat.add_zero, hls]
      by_cases hqi : q = i
      · subst hqi
        rw [if_pos (by omega), show q * sz + j - q * sz = j by omega]
        have := h5 j (by omega)
        simp only [List.getD_eq_getElem?_getD, Array.getD_eq_getD_getElem?] at this ⊢
        rw [List.getElem?_set_self (by omega)]
        simpa using this
      · rw [if_neg]
        · have := he q j hq hj
          simpa [List.getD_eq_getElem?_getD, List.getElem?_set_ne (Ne.symm hqi)] using this
        · intro hh
          have h8 : i * sz < (q + 1) * sz := by rw [Nat.add_mul]; omega
          have h9 : q * sz < (i + 1) * sz := by rw [Nat.add_mul]; omega
          have h10 := Nat.lt_of_mul_lt_mul_right h8
          have h11 := Nat.lt_of_mul_lt_mul_right h9
          omega) h3
    refine ⟨xs', rs', g1, g2, g3, g4, g5, ?_⟩
    simp only [List.map_cons, Instr.fill]
    rw [if_neg]
    · exact g6
    · have h12 : (a.eval x).cells.size = sz := by omega
      simp [h12]
      omega

theorem replicate_getD {z : V} {n i : Nat} (h : i < n) : (List.replicate n z).getD i .junk = z := by simp [List.getD_eq_getElem?_getD, h]

theorem bslice_sound {t e : TypeId} {len : Nat} {parts : Array (Nat × Operand)} {parts' : List (Nat × Opd)} {z : V} {sz : Nat} {C : (Nat → V) → Blk → Prop} (hrel : Rel G B Φ Z H w) (hf : FrR Φ Z w fr a) (ho : o.op = .buildSlice t len parts)
    (ht : P.underlying t = some (.slice e)) (hz : zeroT P e = some (z, sz)) (hle : ¬ (len * sz > 2 ^ 24)) (hp : compPartsS len parts.toList = some parts')
    (h : partsS G fr sz (List.replicate len z) parts' fun xs => C (fun q => .hs q len 0 0 len (some len) sz) (.row sz xs false false)) : Makes P G B o a w Φ Z C := by
  obtain ⟨zv, hzr, _, hzc, hzl, _, hs⟩ := zero_cells (Φ := Φ) (Z := Z) (w := w) hz
  have hzs : zv.cells.size = sz := by rw [hzc.1, hzl]
  have hel := ElR.zeros hzc hzl len
  have hrs : ∃ zc : Array Value, (∀ rs', Instr.fill (fun i => some (i * sz, sz)) ((Array.range (len * sz)).map (zc[· % zc.size]!)) (parts.toList.map fun (i, x) => (i, a.eval x)) = some rs' →
      (execOp a.eval o).run P w = .ok (.value (.slice (some ⟨w.heap.size, 0, none⟩) len len)) (w.alloc (.cells rs' e))) ∧ ElR Φ Z w sz len (List.replicate len z) (fun q => ((Array.range (len * sz)).map (zc[· % zc.size]!)).getD q undef) := by
    by_cases h0 : len * sz = 0
    · refine ⟨#[], fun rs' hf => ?_, fun i j hi hj => ?_⟩
      · simp [h0] at hf
        simp [execOp, ho, Instr.buildSlice, run_underlying ht, run_sizeT hs, h0, newRow, hf]
      have := mul_in (n := len) hi hj
      omega
    · refine ⟨zv.cells, fun rs' hf => ?_, fun i j hi hj => ?_⟩
      · have hle' : ¬ (16777216 < len * sz) := by omega
        simp at hf
        simp [execOp, ho, Instr.buildSlice, run_underlying ht, run_sizeT hs, h0, hle', hzr, newRow, hf]
      have hq := mul_in (n := len) hi hj
      have := hel i j hi hj
      simpa [Array.getD_eq_getD_getElem?, hq, hzs] using this
  obtain ⟨zc, hzrun, hel⟩ := hrs
  obtain ⟨xs', rs', g1, g2, g3, g4, g5, g6⟩ := fillS_sound (sz := sz) hrel.glob hf parts.toList parts' (List.replicate len z) ((Array.range (len * sz)).map (zc[· % zc.size]!)) hp (by simp) (by simp) (fun i hi => by rw [replicate_getD hi]; exact hzl) hel h
  refine makes_row (rv := .slice (some ⟨w.heap.size, 0, none⟩) len len) (c := rs') (e := e) (fz := (0, 0)) (w0 := w) ?_ (.inl rfl) g1 (.inl (Nat.le_refl _)) (by rw [g2, g3]; exact Nat.le_refl _) (fun _ => by rw [g2, g3]) (fun i hi => g4 i (by omega)) (fun i j hi hj => g5 i j (by omega) hj) ?_
  · exact hzrun _ g6
  · intro Φ' b w' hp
    exact .hs _ _ _ _ _ _ _ _ _ _ hp (by simp [g2]) fun _ => ⟨by simp, Nat.le_refl _, rfl⟩

theorem mks_sound {t e : TypeId} {l c : Operand} {l' c' : Opd} {z : V} {sz by_ : Nat} {C : (Nat → V) → Blk → Prop} (hrel : Rel G B Φ Z H w) (hf : FrR Φ Z w fr a) (ho : o.op = .makeSlice t l c)
    (ht : P.underlying t = some (.slice e)) (hz : zeroT P e = some (z, sz)) (hb : bytesT P e = some by_) (hl : opd l = some l') (hc : opd c = some c')
    (h : mksK sz by_ z (ev G fr l') (ev G fr c') C) : Makes P G B o a w Φ Z C := by
  have hv := ev_sound (x := l) hrel.glob hf hl
  have hv2 := ev_sound (x := c) hrel.glob hf hc
  have hex : (execOp a.eval o).run P w = ((Instr.makeSlice t (a.eval l) (a.eval c)).run P w).andThen fun v w => .ok (.value v) w := by simp [execOp, ho]
  generalize a.eval l = lv at hv hex
  generalize a.eval c = cv at hv2 hex
  generalize ev G fr l' = la at hv h
  generalize ev G fr c' = ca at hv2 h
  obtain ⟨zv, hzr, _, hzc, hzl, _, hs⟩ := zero_cells (Φ := Φ) (Z := Z) (w := w) hz
  obtain ⟨i, zv', hi, hz0, hov, hzl', hisz⟩ := zeroT_spec hz
  have hzv : zv' = zv := by
    have e1 := run_zeroValue_of hi hz0 w
    rw [hzr w] at e1
    injection e1 with e1 _
    exact e1.symm
  subst hzv
  have hzs : zv'.cells.size = sz := by rw [hzc.1, hzl]
  unfold mksK at h
  split at h
  · rename_i k1 p k2 q
    obtain ⟨h0, hle, h63, h48, hC⟩ := h
    obtain rfl := hv.int_inv
    obtain rfl := hv2.int_inv
    have hib : i.bytes = by_ := by simpa [bytesT, hi] using hb
    have hrun := run_make (P := P) w t e i zv' ht hi hz0 k1 k2 p q h0 hle (by rw [hib]; omega) (by omega)
    rw [hisz] at hrun
    refine makes_row (rv := .slice (some ⟨w.heap.size, 0, none⟩) p.toNat q.toNat) (c := madeCells zv'.cells (q.toNat * sz)) (e := e) (fz := (0, 0)) (w0 := w) (by rw [hex, hrun]; rfl) (.inl rfl) hC (.inl (Nat.le_refl _))
      (by rw [size_madeCells]; simp) (fun _ => by rw [size_madeCells]; simp) (fun j hj => by simp at hj; rw [replicate_getD (by omega)]; exact hzl) (fun j m hj hm => ?_) ?_
    · simp only [List.length_replicate] at hj
      have hq := mul_in (n := q.toNat) hj hm
      have := ElR.zeros hzc hzl q.toNat j m hj hm
      simpa [madeCells, Array.getD_eq_getD_getElem?, hq, hzs] using this
    · intro Φ' b w' hp
      exact .hs _ _ _ _ _ _ _ _ _ _ hp (by simp) fun _ => ⟨by simp, by omega, rfl⟩
  · exact h.elim

theorem s2b_sound {s d e : TypeId} {x : Operand} {x' : Opd} {l : List UInt8} {C : (Nat → V) → Blk → Prop} (hrel : Rel G B Φ Z H w) (hf : FrR Φ Z w fr a) (ho : o.op = .convert s d x) (hs : P.underlying s = some .string) (hd : P.underlying d = some (.slice e)) (he : P.underlying e = some (.int .u8)) (hx : opd x = some x')
    (hl : ev G fr x' = .str l) (h : C (fun q => .hs q l.length 0 0 l.length none 1) (.row 1 (l.map u8V) true false)) : Makes P G B o a w Φ Z C := by
  have hv := ev_sound (x := x) hrel.glob hf hx
  rw [hl] at hv
  have hs' := hv.str_inv
  have hrun := run_bytes_of_string (P := P) w s d e ⟨l.toArray⟩ hs hd he
  have hsize : (⟨l.toArray⟩ : ByteArray).size = l.length := bytes_size l
  rw [hsize] at hrun
  have hcap := grownCap_le w l.length 0 e
  have hbs : (bytesRow ⟨l.toArray⟩ (grownCap w l.length 0 e)).size = grownCap w l.length 0 e := by
    simp [bytesRow, hsize]
    omega
  refine makes_row (rv := .slice (some ⟨w.heap.size, 0, none⟩) l.length (grownCap w l.length 0 e)) (xs := l.map u8V) (sz := 1) (w0 := w.drew) (opn := true) (by simp only [execOp, ho, Sem.run_bind, hs', hrun]; rfl) (.inr rfl) h (.inr (Nat.le_refl _))
    (by rw [hbs]; simpa using hcap) (by simp) (fun i hi => by simp at hi; simp [List.getD_eq_getElem?_getD, hi, u8V, V.cells]) (fun i j hi hj => ?_) ?_
  · simp at hi
    obtain rfl : j = 0 := by omega
    have := bytesRow_at ⟨l.toArray⟩ (grownCap w l.length 0 e) i (by simpa using hi)
    simp [List.getD_eq_getElem?_getD, hi, u8V, V.cells, Array.getD_eq_getD_getElem?, this]
    exact .int _ _
  · intro Φ' b w' hp
    refine .hs _ _ _ _ _ _ _ _ _ _ hp (by simp) fun _ => ⟨by simp, hcap, ?_⟩
    simp [capOK, hbs]

theorem mkm_sound {t : TypeId} {C : (Nat → V) → Blk → Prop} (ho : o.op = .makeMap t none) (h : C (fun q => .map q) (.map [] 0)) : Makes P G B o a w Φ Z C := by
  refine ⟨.map (some w.heap.size), _, _, w.alloc (.map #[] 0), by simp [execOp, ho, Instr.makeMap], h, fun H b hrel hH hb hpd => ⟨⟨w.heap.size, 0, 0, 0⟩, ?_⟩⟩
  have := hrel.make (p := ⟨w.heap.size, 0, 0, 0⟩) (.map #[] 0) hb hpd hH rfl (fun w' hw' vr => by
    refine ⟨rfl, ⟨#[], ?_, rfl, fun i hi => by simp at hi⟩, fun hz => ?_⟩
    · rw [hw']
      show (w.heap.push _)[w.heap.size]? = _
      simp
    · have := hrel.zin _ hz
      simp at this)
  exact ⟨this.1, this.2, .map _ _ _ (put1_same _ _ _) fun _ => rfl⟩

end
end Go.MW

/- Maps: keys are compared, checked, found; entries are looked up, set, deleted; a range over them. -/
namespace Go.MW
open Go Go.RowKit
set_option linter.unusedVariables false
set_option linter.unusedSimpArgs false

section
variable {P : Program} {G : Nat → Option (List V)} {B : Bd} {Φ : Nat → Option Pl} {Z : Nat → Prop} {H : List Blk} {w : World} {a : Act} {fr : Fr} {K : V → List Blk → Prop} {o : Oper}

theorem cellsOf_one {e : TypeId} (h : sizeT P e = some 1) : P.cellsOf e = 1 := by
  simp only [sizeT, Option.map_eq_some_iff] at h
  obtain ⟨i, hi, h1⟩ := h
  simp [Program.cellsOf, hi, h1]

/-- The elements of two arrays, one by one. -/
theorem eqI_sound (d : Nat) {e : TypeId} {k : Nat} (hk : kindT P e = some k) (hs : sizeT P e = some 1) {xs ys : Array Value} : ∀ (m i : Nat) (as bs : List V) (r : Bool), eqs (List.replicate m k) as bs = some r →
    (∀ j, j < as.length → i + j < xs.size ∧ VR Φ Z w (as.getD j .junk) (xs.getD (i + j) undef)) → (∀ j, j < bs.length → i + j < ys.size ∧ VR Φ Z w (bs.getD j .junk) (ys.getD (i + j) undef)) →
    (Op.eqItems (d + 1) e (P.cellsOf e) xs ys (List.range' i m)).run P w = .ok r w
  | 0, i, as, bs, r, h, hx, hy => by
    cases as <;> cases bs <;> simp [eqs] at h
    subst h
    rfl
  | m + 1, i, as, bs, r, h, hx, hy => by
    rw [List.replicate_succ] at h
    cases as with
    | nil => simp [eqs] at h
    | cons a as =>
      cases bs with
      | nil => simp [eqs] at h
      | cons b bs =>
        simp only [eqs] at h
        split at h <;> simp at h
        rename_i x y hx1 hy1
        obtain ⟨hx0, hxv⟩ := hx 0 (by simp)
        obtain ⟨hy0, hyv⟩ := hy 0 (by simp)
        simp only [Nat.add_zero, List.getD_cons_zero] at hx0 hxv hy0 hyv
        have hag := (aggT_none (kind_agg hk hs) w).1
        have hp : ∀ {zs : Array Value}, i < zs.size → (part e zs (i * P.cellsOf e)).run P w = .ok (zs.getD i undef) w := by
          intro zs hz
          rw [cellsOf_one hs, Nat.mul_one]
          simp [part, hag, Array.getD, hz]
        have he := eq1_sound (P := P) d hk hxv hyv hx1
        rw [List.range'_succ]
        simp only [Op.eqItems, Sem.run_bind, hp hx0, hp hy0, Result.andThen_ok, he]
        cases x with
        | false => simp at h; subst h; rfl
        | true =>
          simp at h
          subst h
          simp only [Bool.not_true, Bool.false_eq_true, if_false]
          exact eqI_sound d hk hs m (i + 1) as bs y hy1 (fun j hj => by
            have := hx (j + 1) (by simpa using hj)
            simpa [Nat.add_assoc, Nat.add_comm 1 j] using this) (fun j hj => by
            have := hy (j + 1) (by simpa using hj)
            simpa [Nat.add_assoc, Nat.add_comm 1 j] using this)

theorem flatA_spec {n : Nat} {e : TypeId} {ks : List Nat} (h : flatA P n e = some ks) : sizeT P e = some 1 ∧ ∃ k, kindT P e = some k ∧ ks = List.replicate n k := by
  unfold flatA at h
  split at h
  · rename_i hs
    simp only [beq_iff_eq] at hs
    simp only [Option.map_eq_some_iff] at h
    obtain ⟨k, hk, rfl⟩ := h
    exact ⟨hs, k, hk, rfl⟩
  · cases h

theorem info_of {e : TypeId} {n : Nat} (h : sizeT P e = some n) : ∃ i, P.info? e = some i := by
  simp only [sizeT, Option.map_eq_some_iff] at h
  obtain ⟨i, hi, _⟩ := h
  exact ⟨i, hi⟩

theorem VR.agg_inv {cs : List V} {r : Value} (h : VR Φ Z w (.agg cs) r) : ∃ rs : Array Value, r = .agg rs ∧ rs.size = cs.length ∧ ∀ i, i < cs.length → VR Φ Z w (cs.getD i .junk) (rs.getD i undef) := by
  cases h with
  | agg _ rs hl hh => exact ⟨rs, rfl, hl, hh⟩

theorem eqs_len : ∀ {ks : List Nat} {as bs : List V} {r : Bool}, eqs ks as bs = some r → as.length = ks.length ∧ bs.length = ks.length
  | [], as, bs, r, h => by cases as <;> cases bs <;> simp [eqs] at h; exact ⟨rfl, rfl⟩
  | k :: ks, as, bs, r, h => by
    cases as <;> cases bs <;> simp [eqs] at h
    split at h <;> simp at h
    rename_i hx
    have := eqs_len hx
    simp [this]

theorem kind_not {t : TypeId} {k : Nat} (hk : kindT P t = some k) : (∀ fs, P.underlying t ≠ some (.struct fs)) ∧ ∀ n e, P.underlying t ≠ some (.array n e) := by
  unfold kindT at hk
  constructor <;> intros <;> intro h <;> rw [h] at hk <;> cases hk

theorem keyKs_spec {t : TypeId} {ks : List Nat} (h : keyKs P t = some ks) :
    (∃ fs ks', P.underlying t = some (.struct fs) ∧ P.stoodInHeld t = false ∧ flatF P 0 fs.toList = some ks' ∧ ks = 9 :: ks') ∨ (∃ n e ks', P.underlying t = some (.array n e) ∧ flatA P n e = some ks' ∧ ks = 9 :: ks') ∨ ∃ k, kindT P t = some k ∧ ks = [k] := by
  unfold keyKs at h
  split at h
  · rename_i fs hu
    split at h
    · rename_i hs
      simp only [Option.map_eq_some_iff] at h
      obtain ⟨ks', h, rfl⟩ := h
      exact .inl ⟨fs, ks', hu, by simpa using hs, h, rfl⟩
    · cases h
  · rename_i n e hu
    simp only [Option.map_eq_some_iff] at h
    obtain ⟨ks', h, rfl⟩ := h
    exact .inr (.inl ⟨n, e, ks', hu, h, rfl⟩)
  · simp only [Option.map_eq_some_iff] at h
    obtain ⟨k, hk, rfl⟩ := h
    exact .inr (.inr ⟨k, hk, rfl⟩)

theorem eq1_nine {x y : V} : eq1 9 x y = none := by
  unfold eq1
  split <;> first | rfl | (rename_i h; cases h)

theorem keq_agg {ks : List Nat} {x y : V} {r : Bool} (h : keq (9 :: ks) x y = some r) : ∃ as bs, x = .agg as ∧ y = .agg bs ∧ eqs ks as bs = some r := by
  unfold keq at h
  split at h
  · rename_i ks' as bs e
    cases e
    exact ⟨as, bs, rfl, rfl, h⟩
  · rename_i k x y e _
    cases e
    rw [eq1_nine] at h
    cases h
  · cases h

theorem kind_small {t : TypeId} {k : Nat} (hk : kindT P t = some k) : k = 0 ∨ k = 1 ∨ k = 2 := by
  unfold kindT at hk
  split at hk <;> simp at hk <;> omega

theorem keq_one {k : Nat} (hk : k = 0 ∨ k = 1 ∨ k = 2) {x y : V} {r : Bool} (h : keq [k] x y = some r) : eq1 k x y = some r := by
  unfold keq at h
  split at h
  · rename_i ks' as bs e
    cases e
    omega
  · rename_i e _
    cases e
    exact h
  · cases h

/-- Two keys compared by the machine. -/
theorem run_equalIn_flat (d : Nat) {t : TypeId} {ks : List Nat} (hk : keyKs P t = some ks) {x y : V} {xv yv : Value} {r : Bool} (hx : VR Φ Z w x xv) (hy : VR Φ Z w y yv) (h : keq ks x y = some r) : (Op.equalIn (d + 2) t xv yv).run P w = .ok r w := by
  rcases keyKs_spec hk with ⟨fs, ks', hu, hs, hf, rfl⟩ | ⟨n, e, ks', hu, hf, rfl⟩ | ⟨k, hk', rfl⟩
  · obtain ⟨cs, ds, rfl, rfl, h⟩ := keq_agg h
    obtain ⟨xs, rfl, hl1, hc1⟩ := hx.agg_inv
    obtain ⟨ys, rfl, hl2, hc2⟩ := hy.agg_inv
    have hfo : P.fieldsOf t = fs := by simp [Program.fieldsOf, hu]
    rw [run_equalIn_struct w (d + 1) t xs ys (by rw [hfo]; exact hu) hs, hfo]
    exact eqF_sound d fs.toList 0 ks' cs ds r hf h (fun j hj => ⟨by omega, by simpa using hc1 j hj⟩) fun j hj => ⟨by omega, by simpa using hc2 j hj⟩
  · obtain ⟨cs, ds, rfl, rfl, h⟩ := keq_agg h
    obtain ⟨xs, rfl, hl1, hc1⟩ := hx.agg_inv
    obtain ⟨ys, rfl, hl2, hc2⟩ := hy.agg_inv
    obtain ⟨hs1, k, hk', rfl⟩ := flatA_spec hf
    obtain ⟨i, hi⟩ := info_of hs1
    rw [run_equalIn_array w (d + 1) xs ys hu hi, List.range_eq_range']
    exact eqI_sound d hk' hs1 n 0 cs ds r h (fun j hj => ⟨by omega, by simpa using hc1 j hj⟩) fun j hj => ⟨by omega, by simpa using hc2 j hj⟩
  · exact eq1_sound (d + 1) hk' hx hy (keq_one (kind_small hk') h)

/-- A basic key is checked. -/
theorem run_check1 {t : TypeId} {k : Nat} (hk : kindT P t = some k) (em : Bool) (n : Nat) (v : Value) : (Instr.checkKey em (n + 1) t v).run P w = .ok () w := by
  unfold kindT at hk
  split at hk <;> rename_i hu
  all_goals first
    | (cases v <;> simp [Instr.checkKey, run_underlying hu]; done)
    | cases hk

theorem run_part1 {e : TypeId} {k : Nat} (hk : kindT P e = some k) (hs : sizeT P e = some 1) {zs : Array Value} {i : Nat} (hz : i < zs.size) : (part e zs i).run P w = .ok (zs.getD i undef) w := by
  have hag := (aggT_none (kind_agg hk hs) w).1
  simp [part, hag, Array.getD, hz]

theorem run_check_fields {em : Bool} {n : Nat} {xs : Array Value} : ∀ (fs : List Field) (i : Nat) (ks : List Nat), flatF P i fs = some ks → i + ks.length ≤ xs.size →
    (forIn (m := Sem) fs PUnit.unit fun f r => do
      if f.name ≠ "_" then do
        Instr.checkKey em (n + 1) f.type (← part f.type xs f.offset)
        pure (ForInStep.yield PUnit.unit)
      else pure (ForInStep.yield PUnit.unit)).run P w = .ok PUnit.unit w
  | [], i, ks, hf, hl => by simp
  | f :: fs, i, ks, hf, hl => by
    simp only [flatF] at hf
    split at hf <;> try (simp at hf; done)
    rename_i hc
    simp only [Bool.and_eq_true, beq_iff_eq, bne_iff_ne] at hc
    obtain ⟨⟨h1, h2⟩, h3⟩ := hc
    split at hf <;> simp at hf
    rename_i k ks' hk hks
    subst hf
    simp only [List.length_cons] at hl
    have p1 := run_part1 (w := w) hk h3 (zs := xs) (i := i) (by omega)
    have p2 := run_check1 (w := w) hk em n (xs.getD i undef)
    rw [List.forIn_cons]
    simp only [h2, ne_eq, not_false_eq_true, if_true, Sem.run_bind, h1, p1, p2, Result.andThen_ok, Sem.run_pure]
    exact run_check_fields fs (i + 1) ks' hks (by omega)

/-- A key is checked. -/
theorem run_check_flat (n : Nat) {t : TypeId} {ks : List Nat} (hk : keyKs P t = some ks) {x : V} {xv : Value} (em : Bool) (hx : VR Φ Z w x xv) (h : keq ks x x = some true) : (Instr.checkKey em (n + 2) t xv).run P w = .ok () w := by
  rcases keyKs_spec hk with ⟨fs, ks', hu, hs, hf, rfl⟩ | ⟨m, e, ks', hu, hf, rfl⟩ | ⟨k, hk', rfl⟩
  · obtain ⟨cs, ds, rfl, _, h⟩ := keq_agg h
    obtain ⟨xs, rfl, hl1, hc1⟩ := hx.agg_inv
    have hlen : ks'.length = cs.length := (eqs_len h).1.symm
    have := run_check_fields (w := w) (P := P) (em := em) (n := n) (xs := xs) fs.toList 0 ks' hf (by omega)
    rw [show n + 2 = (n + 1) + 1 from rfl, Instr.checkKey]
    simp only [Sem.run_bind, run_underlying hu, Result.andThen_ok]
    rw [← Array.forIn_toList]
    rw [this]
    rfl
  · obtain ⟨cs, ds, rfl, _, h⟩ := keq_agg h
    obtain ⟨xs, rfl, hl1, hc1⟩ := hx.agg_inv
    obtain ⟨hs1, k, hk', rfl⟩ := flatA_spec hf
    obtain ⟨i, hi⟩ := info_of hs1
    have hlen : m = cs.length := by have := (eqs_len h).1; simpa using this.symm
    rw [show n + 2 = (n + 1) + 1 from rfl, Instr.checkKey]
    simp only [Sem.run_bind, run_underlying hu, Result.andThen_ok]
    simp only [Std.Legacy.Range.forIn_eq_forIn_range', Std.Legacy.Range.size, Nat.sub_zero, Nat.add_one_sub_one, Nat.div_one]
    have key : ∀ (is : List Nat), (∀ j ∈ is, j < xs.size) → (forIn (m := Sem) is PUnit.unit fun j r => do
        let s ← sizeOf e
        let v ← part e xs (j * s)
        Instr.checkKey em (n + 1) e v
        pure (ForInStep.yield PUnit.unit)).run P w = .ok PUnit.unit w := by
      intro is
      induction is with
      | nil => intro _; simp
      | cons j is ih =>
        intro hj
        have p0 := run_sizeOf w hi
        have p1 := run_part1 (w := w) hk' hs1 (zs := xs) (i := j) (hj j (by simp))
        have p2 := run_check1 (w := w) hk' em n (xs.getD j undef)
        rw [List.forIn_cons]
        simp only [Sem.run_bind, p0, cellsOf_one hs1, Nat.mul_one, p1, p2, Result.andThen_ok, Sem.run_pure]
        exact ih fun y hy => hj y (by simp [hy])
    have := key (List.range' 0 m) (fun j hj => by have := List.mem_range'_1.1 hj; omega)
    rw [this]
    rfl
  · exact run_check1 hk' em (n + 1) xv

theorem run_equal_flat {t : TypeId} {ks : List Nat} (hk : keyKs P t = some ks) {x y : V} {xv yv : Value} {r : Bool} (hx : VR Φ Z w x xv) (hy : VR Φ Z w y yv) (h : keq ks x y = some r) : (Op.equal t xv yv).run P w = .ok r w := run_equalIn_flat 9998 hk hx hy h

/-- What is found, with its value. -/
def hit (rs : List MapEntry) (i : Nat) (o : Option Nat) : Option (Nat × Value) := o.map fun j => (j, (rs.getD (j - i) default).val)

theorem findV_range {ks : List Nat} {x : V} : ∀ (es : List (Nat × V × V)) (i j : Nat), findV ks x es i = some (some j) → i ≤ j ∧ j < i + es.length ∧ keq ks x (es.getD (j - i) e0V).2.1 = some true
  | [], i, j, h => by simp [findV] at h
  | e :: es, i, j, h => by
    simp only [findV] at h
    split at h
    · rename_i hq
      simp at h
      subst h
      exact ⟨Nat.le_refl _, by simp, by simpa using hq⟩
    · obtain ⟨h1, h2, h3⟩ := findV_range es (i + 1) j h
      refine ⟨by omega, by simp; omega, ?_⟩
      rw [show j - i = (j - (i + 1)) + 1 by omega, List.getD_cons_succ]
      exact h3
    · cases h

theorem findAsking_sound {t : TypeId} {ks : List Nat} (hk : keyKs P t = some ks) {x : V} {xv : Value} (hx : VR Φ Z w x xv) : ∀ (es : List (Nat × V × V)) (rs : List MapEntry) (i : Nat) (o : Option Nat), rs.length = es.length →
    (∀ j, j < es.length → VR Φ Z w (es.getD j e0V).2.1 (rs.getD j default).key) → findV ks x es i = some o → (Instr.findAsking t xv rs i).run P w = .ok (hit rs i o) w
  | [], rs, i, o, hl, hv, h => by
    cases rs <;> simp at hl
    simp [findV] at h
    subst h
    simp [Instr.findAsking, hit]
  | e :: es, rs, i, o, hl, hv, h => by
    cases rs with
    | nil => simp at hl
    | cons r rs =>
      have h0 := hv 0 (by simp)
      simp only [List.getD_cons_zero] at h0
      simp only [findV] at h
      split at h
      · rename_i hq
        simp at h
        subst h
        simp [Instr.findAsking, run_equal_flat hk hx h0 hq, hit]
      · rename_i hq
        have ih := findAsking_sound hk hx es rs (i + 1) o (by simpa using hl) (fun j hj => by have := hv (j + 1) (by simpa using hj); simpa using this) h
        simp only [Instr.findAsking, Sem.run_bind, run_equal_flat hk hx h0 hq, Result.andThen_ok, Bool.false_eq_true, if_false, ih]
        unfold hit
        cases o with
        | none => rfl
        | some j =>
          obtain ⟨h1, _⟩ := findV_range es (i + 1) j h
          simp only [Option.map_some]
          rw [show j - i = (j - (i + 1)) + 1 by omega, List.getD_cons_succ]
      · cases h

theorem sameNow_sound {t : TypeId} {k : Nat} {d : TypeDesc} (hk : kindT P t = some k) (hu : P.underlying t = some d) {x y : V} {xv yv : Value} {r : Bool} (hx : VR Φ Z w x xv) (hy : VR Φ Z w y yv) (h : eq1 k x y = some r) : Instr.sameNow d xv yv = some r := by
  unfold kindT at hk
  rw [hu] at hk
  unfold eq1 at h
  split at h
  · split at h <;> simp at h
    rename_i hkk
    subst hkk h
    obtain rfl := hx.int_inv
    obtain rfl := hy.int_inv
    split at hk <;> simp at hk
    rename_i e
    cases e
    simp only [Instr.sameNow, if_true]
    rfl
  · simp at h
    subst h
    obtain rfl := hx.bool_inv
    obtain rfl := hy.bool_inv
    split at hk <;> simp at hk
    rename_i e
    cases e
    simp [Instr.sameNow]
  · simp at h
    subst h
    obtain rfl := hx.str_inv
    obtain rfl := hy.str_inv
    split at hk <;> simp at hk
    rename_i e
    cases e
    simp only [Instr.sameNow, beq_toListBytes, bytes_toList]
  · cases h

theorem findNow_sound {t : TypeId} {k : Nat} {d : TypeDesc} (hk : kindT P t = some k) (hu : P.underlying t = some d) {x : V} {xv : Value} (hx : VR Φ Z w x xv) : ∀ (es : List (Nat × V × V)) (rs : List MapEntry) (i : Nat) (o : Option Nat), rs.length = es.length →
    (∀ j, j < es.length → VR Φ Z w (es.getD j e0V).2.1 (rs.getD j default).key) → findV [k] x es i = some o → Instr.findNow d xv rs i = some (hit rs i o)
  | [], rs, i, o, hl, hv, h => by
    cases rs <;> simp at hl
    simp [findV] at h
    subst h
    simp [Instr.findNow, hit]
  | e :: es, rs, i, o, hl, hv, h => by
    cases rs with
    | nil => simp at hl
    | cons r rs =>
      have h0 := hv 0 (by simp)
      simp only [List.getD_cons_zero] at h0
      simp only [findV] at h
      split at h
      · rename_i hq
        simp at h
        subst h
        have := sameNow_sound hk hu hx h0 (keq_one (kind_small hk) hq)
        simp [Instr.findNow, this, hit]
      · rename_i hq
        have hs := sameNow_sound hk hu hx h0 (keq_one (kind_small hk) hq)
        have ih := findNow_sound hk hu hx es rs (i + 1) o (by simpa using hl) (fun j hj => by have := hv (j + 1) (by simpa using hj); simpa using this) h
        simp only [Instr.findNow, hs, ih]
        unfold hit
        cases o with
        | none => rfl
        | some j =>
          obtain ⟨h1, _⟩ := findV_range es (i + 1) j h
          simp only [Option.map_some]
          rw [show j - i = (j - (i + 1)) + 1 by omega, List.getD_cons_succ]
      · cases h

theorem findKey_sound {t : TypeId} {ks : List Nat} (hk : keyKs P t = some ks) {x : V} {xv : Value} (hx : VR Φ Z w x xv) (es : List (Nat × V × V)) (rs : Array MapEntry) (o : Option Nat) (hl : rs.size = es.length)
    (hv : ∀ j, j < es.length → VR Φ Z w (es.getD j e0V).2.1 (rs.getD j default).key) (h : findV ks x es 0 = some o) : (Instr.findKey t xv rs.toList).run P w = .ok (hit rs.toList 0 o) w := by
  have hl' : rs.toList.length = es.length := by simpa using hl
  have hv' : ∀ j, j < es.length → VR Φ Z w (es.getD j e0V).2.1 (rs.toList.getD j default).key := fun j hj => by
    have := hv j hj
    rwa [Array.getD_eq_getD_getElem?, ← Array.getElem?_toList, ← List.getD_eq_getElem?_getD] at this
  rcases keyKs_spec hk with ⟨fs, ks', hu, hs, hf, rfl⟩ | ⟨m, e, ks', hu, hf, rfl⟩ | ⟨k, hk', rfl⟩
  · rw [run_findKey_eq w (by rw [hu])]
    exact findAsking_sound hk hx es _ 0 o hl' hv' h
  · rw [run_findKey_eq w (by rw [hu])]
    exact findAsking_sound hk hx es _ 0 o hl' hv' h
  · have hu : ∃ d, P.underlying t = some d := by
      unfold kindT at hk'
      split at hk' <;> first | exact ⟨_, by assumption⟩ | cases hk'
    obtain ⟨d, hu⟩ := hu
    exact MapKept.run_findKey hu (findNow_sound hk' hu hx es _ 0 o hl' hv' h)

theorem eq1_same {k : Nat} {x y : V} {u v : Value} (h : eq1 k x y = some true) (hx : VR Φ Z w x u) (hy : VR Φ Z w y v) : x = y ∧ u = v ∧ ∀ n, Instr.sameBits n v u = true := by
  unfold eq1 at h
  split at h
  · split at h <;> simp at h
    rename_i hk
    subst hk h
    obtain rfl := hx.int_inv
    obtain rfl := hy.int_inv
    exact ⟨rfl, rfl, fun n => by cases n <;> simp [Instr.sameBits]⟩
  · simp at h
    subst h
    obtain rfl := hx.bool_inv
    obtain rfl := hy.bool_inv
    exact ⟨rfl, rfl, fun n => by cases n <;> simp [Instr.sameBits]⟩
  · simp at h
    subst h
    obtain rfl := hx.str_inv
    obtain rfl := hy.str_inv
    exact ⟨rfl, rfl, fun n => by cases n <;> simp [Instr.sameBits, beq_toListBytes]⟩
  · cases h

theorem eqs_same : ∀ {ks : List Nat} {as bs : List V} {us vs : List Value}, eqs ks as bs = some true → us.length = as.length → vs.length = bs.length → (∀ j, j < as.length → VR Φ Z w (as.getD j .junk) (us.getD j undef)) → (∀ j, j < bs.length → VR Φ Z w (bs.getD j .junk) (vs.getD j undef)) →
    as = bs ∧ us = vs ∧ ∀ n, ((vs.zip us).all fun (x, y) => Instr.sameBits n x y) = true
  | [], as, bs, us, vs, h, h1, h2, hx, hy => by
    cases as <;> cases bs <;> simp [eqs] at h
    cases us <;> simp at h1
    cases vs <;> simp at h2
    exact ⟨rfl, rfl, fun n => rfl⟩
  | k :: ks, as, bs, us, vs, h, h1, h2, hx, hy => by
    cases as <;> cases bs <;> simp [eqs] at h
    rename_i a as b bs
    cases us <;> simp at h1
    cases vs <;> simp at h2
    rename_i u us v vs
    split at h <;> simp at h
    rename_i r1 r2 e1 e2
    obtain ⟨rfl, rfl⟩ := h
    have hx0 := hx 0 (by simp)
    have hy0 := hy 0 (by simp)
    simp only [List.getD_cons_zero] at hx0 hy0
    obtain ⟨q1, q2, q3⟩ := eq1_same e1 hx0 hy0
    obtain ⟨p1, p2, p3⟩ := eqs_same e2 h1 h2 (fun j hj => by have := hx (j + 1) (by simpa using hj); simpa using this) (fun j hj => by have := hy (j + 1) (by simpa using hj); simpa using this)
    exact ⟨by rw [q1, p1], by rw [q2, p2], fun n => by simp only [List.zip_cons_cons, List.all_cons, q3 n, p3 n, Bool.and_self]⟩

/-- Keys that are alike are one. -/
theorem keq_same {ks : List Nat} {x y : V} {u v : Value} (h : keq ks x y = some true) (hx : VR Φ Z w x u) (hy : VR Φ Z w y v) : x = y ∧ u = v ∧ Instr.sameBits 10000 v u = true := by
  unfold keq at h
  split at h
  · rename_i ks' as bs
    obtain ⟨xs, rfl, hl1, hc1⟩ := hx.agg_inv
    obtain ⟨ys, rfl, hl2, hc2⟩ := hy.agg_inv
    have g : ∀ (zs : Array Value) j, zs.toList.getD j undef = zs.getD j undef := fun zs j => by
      rw [Array.getD_eq_getD_getElem?, ← Array.getElem?_toList, ← List.getD_eq_getElem?_getD]
    obtain ⟨p1, p2, p3⟩ := eqs_same h (us := xs.toList) (vs := ys.toList) (by simpa using hl1) (by simpa using hl2) (fun j hj => by rw [g]; exact hc1 j hj) (fun j hj => by rw [g]; exact hc2 j hj)
    have : xs = ys := Array.toList_inj.1 p2
    subst p1 this
    refine ⟨rfl, rfl, ?_⟩
    show Instr.sameBits (9999 + 1) (.agg xs) (.agg xs) = true
    simp only [Instr.sameBits, beq_self_eq_true, Bool.true_and]
    exact p3 9999
  · obtain ⟨p1, p2, p3⟩ := eq1_same h hx hy
    exact ⟨p1, p2, p3 10000⟩
  · cases h

theorem map_inv {b : Nat} {r : Value} {es : List (Nat × V × V)} {clk : Nat} (hrel : Rel G B Φ Z H w) (h : VR Φ Z w (.map b) r) (hH : getB H b = .map es clk) : ∃ p re, Φ b = some p ∧ MapOK Φ Z w p es clk ∧ r = .map (some p.rb) ∧ w.heap[p.rb]? = some (.map re clk) ∧ re.size = es.length ∧
    ∀ i, i < es.length → (re.getD i default).born = (es.getD i e0V).1 ∧ VR Φ Z w (es.getD i e0V).2.1 (re.getD i default).key ∧ VR Φ Z w (es.getD i e0V).2.2 (re.getD i default).val := by
  cases h with
  | map _ p r hp hv =>
    have ok := hrel.mapb hp hH
    obtain ⟨re, h1, h2, h3⟩ := ok.row
    exact ⟨p, re, hp, ok, by rw [hv ok.len], h1, h2, h3⟩

theorem look_sound {t kt e : TypeId} {m k : Operand} {m' k' : Opd} {ok : Bool} {z : V} {n : Nat} {ks : List Nat} (hrel : Rel G B Φ Z H w) (hf : FrR Φ Z w fr a) (ho : o.op = .lookup t m k ok) (ht : P.underlying t = some (.map kt e)) (hz : zeroT P e = some (z, n)) (hks : keyKs P kt = some ks)
    (hm : opd m = some m') (hk : opd k = some k') (h : lookK ks ok z (ev G fr m') (ev G fr k') H (K · H)) : Reads P o a w Φ Z (K · H) := by
  have hv := ev_sound (x := m) hrel.glob hf hm
  have hv2 := ev_sound (x := k) hrel.glob hf hk
  have hex : (execOp a.eval o).run P w = ((Instr.lookup t (a.eval m) (a.eval k) ok).run P w).andThen fun v w => .ok (.value v) w := by
    simp [execOp, ho]
  generalize a.eval m = mv at hv hex
  generalize a.eval k = kv at hv2 hex
  generalize ev G fr m' = ma at hv h
  generalize ev G fr k' = ka at hv2 h
  unfold lookK at h
  split at h
  · obtain ⟨hb, h⟩ := h
    split at h
    · rename_i b es clk hes
      obtain ⟨hkk, h⟩ := h
      obtain ⟨p, re, hp, okm, rfl, hr, hsz, hre⟩ := map_inv hrel hv hes
      have hck : ∀ em, (Instr.checkKey em 10000 kt kv).run P w = .ok () w := fun em => run_check_flat 9998 hks em hv2 hkk
      obtain ⟨i, zv, hi, hzz, hzo, _, _⟩ := zeroT_spec hz
      have hzr := run_zeroValue_of (P := P) hi hzz w
      have hgo := MapKept.run_getObj_map (P := P) hr
      split at h
      · rename_i j hj
        have hfk := findKey_sound hks hv2 es re _ hsz (fun j hj => (hre j hj).2.1) hj
        obtain ⟨_, hlt, _⟩ := findV_range es 0 j hj
        simp only [Nat.zero_add] at hlt
        have hval := (hre j hlt).2.2
        have hg : re.toList.getD j default = re.getD j default := by rw [Array.getD_eq_getD_getElem?, ← Array.getElem?_toList, ← List.getD_eq_getElem?_getD]
        simp only [hit, Option.map_some, Nat.sub_zero, hg] at hfk
        cases ok with
        | true =>
          refine .here (rv := .tuple #[(re.getD j default).val, .bool true]) ?_ hrel (by simpa using h) (.tup _ _ rfl fun i hi => ?_)
          · rw [hex]
            simp [Instr.lookup, run_underlying ht, hgo, hck, hfk]
          · have : i = 0 ∨ i = 1 := by simp at hi; omega
            rcases this with rfl | rfl
            · exact hval
            · exact .bool _
        | false =>
          refine .here (rv := (re.getD j default).val) ?_ hrel (by simpa using h) hval
          rw [hex]
          simp [Instr.lookup, run_underlying ht, hgo, hck, hfk]
      · rename_i hj
        have hfk := findKey_sound hks hv2 es re _ hsz (fun j hj => (hre j hj).2.1) hj
        simp only [hit, Option.map_none] at hfk
        cases ok with
        | true =>
          refine .here (rv := .tuple #[zv, .bool false]) ?_ hrel (by simpa using h) (.tup _ _ rfl fun i hi => ?_)
          · rw [hex]
            simp [Instr.lookup, run_underlying ht, hgo, hck, hfk, hzr]
          · have : i = 0 ∨ i = 1 := by simp at hi; omega
            rcases this with rfl | rfl
            · exact ofVal_sound hzo
            · exact .bool _
        | false =>
          refine .here (rv := zv) ?_ hrel (by simpa using h) (ofVal_sound hzo)
          rw [hex]
          simp [Instr.lookup, run_underlying ht, hgo, hck, hfk, hzr]
      · exact h.elim
    · exact h.elim
  · exact h.elim

/-- A map's block is written. -/
theorem Rel.setMap {b : Nat} {p : Pl} {es es' : List (Nat × V × V)} {clk clk' : Nat} {re' : Array MapEntry} (hrel : Rel G B Φ Z H w) (hp : Φ b = some p) (ok : MapOK Φ Z w p es clk) (hlt : p.rb < w.heap.size) (hsz : re'.size = es'.length)
    (hre : ∀ i, i < es'.length → (re'.getD i default).born = (es'.getD i e0V).1 ∧ VR Φ Z w (es'.getD i e0V).2.1 (re'.getD i default).key ∧ VR Φ Z w (es'.getD i e0V).2.2 (re'.getD i default).val) :
    ∃ Φ', Rel G B Φ' Z (H.set b (.map es' clk')) (setBlk w p.rb (.map re' clk')) ∧ Ev B Φ Z w Φ' Z (setBlk w p.rb (.map re' clk')) := by
  have := hrel.write (b := b) (k := .map es' clk') (p := p) (p' := p) (w' := setBlk w p.rb (.map re' clk')) hp ok.z (.inl rfl) (.inl rfl) (setBlk_below (hrel.low b p hp)) (fun r hr _ => setBlk_ne _ _ _ hr) (fun vr => ?_)
  · exact ⟨_, this.1, this.2⟩
  · exact ⟨ok.len, ⟨re', setBlk_same _ hlt, hsz, fun i hi => ⟨(hre i hi).1, vr _ _ (hre i hi).2.1, vr _ _ (hre i hi).2.2⟩⟩, ok.z⟩

theorem mset_sound {t kt e : TypeId} {m k v : Operand} {m' k' v' : Opd} {ks : List Nat} (hrel : Rel G B Φ Z H w) (hf : FrR Φ Z w fr a) (ho : o.op = .mapUpdate t m k v ∨ o.op = .insert t m k v) (ht : P.underlying t = some (.map kt e)) (hks : keyKs P kt = some ks)
    (hm : opd m = some m') (hk : opd k = some k') (hx : opd v = some v') (h : msetK ks (ev G fr m') (ev G fr k') (ev G fr v') H K) : Comes' P G B o a w Φ Z K := by
  have hv := ev_sound (x := m) hrel.glob hf hm
  have hv2 := ev_sound (x := k) hrel.glob hf hk
  have hv3 := ev_sound (x := v) hrel.glob hf hx
  have hex : (execOp a.eval o).run P w = ((Instr.mapUpdate t (a.eval m) (a.eval k) (a.eval v)).run P w).andThen fun _ w => .ok .skip w := by
    rcases ho with ho | ho <;> simp [execOp, ho]
  generalize a.eval m = mv at hv hex
  generalize a.eval k = kv at hv2 hex
  generalize a.eval v = vv at hv3 hex
  generalize ev G fr m' = ma at hv h
  generalize ev G fr k' = ka at hv2 h
  generalize ev G fr v' = va at hv3 h
  unfold msetK at h
  split at h
  · obtain ⟨hb, h⟩ := h
    split at h
    · rename_i b es clk hes
      obtain ⟨hkk, h⟩ := h
      obtain ⟨p, re, hp, okm, rfl, hr, hsz, hre⟩ := map_inv hrel hv hes
      have hck : ∀ em, (Instr.checkKey em 10000 kt kv).run P w = .ok () w := fun em => run_check_flat 9998 hks em hv2 hkk
      have hgo := MapKept.run_getObj_map (P := P) hr
      have hlt : p.rb < w.heap.size := (Array.getElem?_eq_some_iff.1 hr).1
      split at h
      · rename_i j hj
        have hfk := findKey_sound hks hv2 es re _ hsz (fun j hj => (hre j hj).2.1) hj
        obtain ⟨_, hltj, hqj⟩ := findV_range es 0 j hj
        simp only [Nat.zero_add, Nat.sub_zero] at hltj hqj
        have hg : re.toList.getD j default = re.getD j default := by rw [Array.getD_eq_getD_getElem?, ← Array.getElem?_toList, ← List.getD_eq_getElem?_getD]
        simp only [hit, Option.map_some, Nat.sub_zero, hg] at hfk
        obtain ⟨hxe, hve, hsb⟩ := keq_same hqj hv2 (hre j hltj).2.1
        have hej : re[j]? = some (re.getD j default) := by rw [Array.getD_eq_getD_getElem?, Array.getElem?_eq_getElem (by omega)]; rfl
        have hst := MapKept.run_setObj_map (P := P) (.map (re.modify j fun e => { e with key := kv, val := vv }) clk) hr
        obtain ⟨Φ', r1, r2⟩ := hrel.setMap (es' := es.set j ((es.getD j e0V).1, (es.getD j e0V).2.1, va)) (clk' := clk) (re' := re.modify j fun e => { e with key := kv, val := vv }) hp okm hlt (by simpa using hsz) (fun i hi => by
          simp only [List.length_set] at hi
          by_cases hij : i = j
          · subst hij
            have e1 : (es.set i ((es.getD i e0V).1, (es.getD i e0V).2.1, va)).getD i e0V = ((es.getD i e0V).1, (es.getD i e0V).2.1, va) := by simp [List.getD_eq_getElem?_getD, hi]
            have e2 : (re.modify i fun e => { e with key := kv, val := vv }).getD i default = { re.getD i default with key := kv, val := vv } := by
              rw [Array.getD_eq_getD_getElem?, Array.getElem?_modify, if_pos rfl, hej]; rfl
            rw [e1, e2]
            exact ⟨(hre i hi).1, by rw [hve]; exact (hre i hi).2.1, hv3⟩
          · have e1 : (es.set j ((es.getD j e0V).1, (es.getD j e0V).2.1, va)).getD i e0V = es.getD i e0V := by simp [List.getD_eq_getElem?_getD, List.getElem?_set_ne (Ne.symm hij)]
            have e2 : (re.modify j fun e => { e with key := kv, val := vv }).getD i default = re.getD i default := by
              rw [Array.getD_eq_getD_getElem?, Array.getElem?_modify, if_neg (Ne.symm hij), ← Array.getD_eq_getD_getElem?]
            rw [e1, e2]
            exact hre i hi)
        refine .skip (w' := setBlk w p.rb (.map (re.modify j fun e => { e with key := kv, val := vv }) clk)) ?_ h r1 r2
        rw [hex]
        simp only [Instr.mapUpdate, Sem.run_bind, run_underlying ht, hgo, Result.andThen_ok, hck, hfk, hej, Option.map_some, Option.getD_some, Instr.keyThatStays, hsb, if_true, Sem.run_pure, hst]
        rfl
      · rename_i hj
        have hfk := findKey_sound hks hv2 es re _ hsz (fun j hj => (hre j hj).2.1) hj
        simp only [hit, Option.map_none] at hfk
        have hst := MapKept.run_setObj_map (P := P) (.map (re.push { key := kv, val := vv, born := clk }) (clk + 1)) hr
        obtain ⟨Φ', r1, r2⟩ := hrel.setMap (es' := es ++ [(clk, ka, va)]) (clk' := clk + 1) (re' := re.push { key := kv, val := vv, born := clk }) hp okm hlt (by simpa using hsz) (fun i hi => by
          simp only [List.length_append, List.length_cons, List.length_nil] at hi
          by_cases hij : i < es.length
          · have e1 : (es ++ [(clk, ka, va)]).getD i e0V = es.getD i e0V := by simp [List.getD_eq_getElem?_getD, List.getElem?_append_left hij]
            have e2 : (re.push { key := kv, val := vv, born := clk }).getD i default = re.getD i default := by
              rw [Array.getD_eq_getD_getElem?, Array.getElem?_push, if_neg (by omega), ← Array.getD_eq_getD_getElem?]
            rw [e1, e2]
            exact hre i hij
          · obtain rfl : i = es.length := by omega
            have e1 : (es ++ [(clk, ka, va)]).getD es.length e0V = (clk, ka, va) := by simp [List.getD_eq_getElem?_getD]
            have e2 : (re.push { key := kv, val := vv, born := clk }).getD es.length default = { key := kv, val := vv, born := clk } := by
              rw [Array.getD_eq_getD_getElem?, Array.getElem?_push, if_pos hsz.symm]; rfl
            rw [e1, e2]
            exact ⟨rfl, hv2, hv3⟩)
        refine .skip (w' := setBlk w p.rb (.map (re.push { key := kv, val := vv, born := clk }) (clk + 1))) ?_ h r1 r2
        rw [hex]
        simp only [Instr.mapUpdate, Sem.run_bind, run_underlying ht, hgo, Result.andThen_ok, hck, hfk, hst]
        rfl
      · exact h.elim
    · exact h.elim
  · exact h.elim

theorem mdel_sound {t u kt e : TypeId} {m k : Operand} {m' k' : Opd} {ks : List Nat} {c : Call} (hrel : Rel G B Φ Z H w) (hf : FrR Φ Z w fr a) (ho : o.op = .call c) (hc : c.callee = .builtin .delete) (hat : c.argTypes = #[t, u]) (hargs : c.args = #[m, k]) (ht : P.underlying t = some (.map kt e)) (hks : keyKs P kt = some ks)
    (hm : opd m = some m') (hk : opd k = some k') (h : mdelK ks (ev G fr m') (ev G fr k') H K) : Comes' P G B o a w Φ Z K := by
  have hv := ev_sound (x := m) hrel.glob hf hm
  have hv2 := ev_sound (x := k) hrel.glob hf hk
  have hex : (execOp a.eval o).run P w = ((Builtin.delete_ #[t, u] o.type #[a.eval m, a.eval k]).run P w).andThen fun v w => .ok (.value v) w := by
    simp [execOp, ho, resolve, hc, hat, hargs, invoke, builtin]
  generalize a.eval m = mv at hv hex
  generalize a.eval k = kv at hv2 hex
  generalize ev G fr m' = ma at hv h
  generalize ev G fr k' = ka at hv2 h
  unfold mdelK at h
  split at h
  · obtain ⟨hb, h⟩ := h
    split at h
    · rename_i b es clk hes
      obtain ⟨hkk, h⟩ := h
      obtain ⟨p, re, hp, okm, rfl, hr, hsz, hre⟩ := map_inv hrel hv hes
      have hck : ∀ em, (Instr.checkKey em 10000 kt kv).run P w = .ok () w := fun em => run_check_flat 9998 hks em hv2 hkk
      have hgo := MapKept.run_getObj_map (P := P) hr
      have hlt : p.rb < w.heap.size := (Array.getElem?_eq_some_iff.1 hr).1
      split at h
      · rename_i j hj
        have hfk := findKey_sound hks hv2 es re _ hsz (fun j hj => (hre j hj).2.1) hj
        obtain ⟨_, hltj, hqj⟩ := findV_range es 0 j hj
        simp only [Nat.zero_add, Nat.sub_zero] at hltj hqj
        simp only [hit, Option.map_some, Nat.sub_zero] at hfk
        have hst := MapKept.run_setObj_map (P := P) (.map (re.eraseIdxIfInBounds j) clk) hr
        have hje : j < re.size := by omega
        have hse : (re.eraseIdxIfInBounds j).toList = re.toList.eraseIdx j := by simp [Array.eraseIdxIfInBounds, hje]
        have hg : ∀ (l : Array MapEntry) i, l.getD i default = l.toList.getD i default := fun l i => by rw [Array.getD_eq_getD_getElem?, ← Array.getElem?_toList, ← List.getD_eq_getElem?_getD]
        have hsz' : (re.eraseIdxIfInBounds j).size = (es.eraseIdx j).length := by
          rw [← Array.length_toList, hse, List.length_eraseIdx, List.length_eraseIdx]
          simp [hje, hltj, hsz]
        obtain ⟨Φ', r1, r2⟩ := hrel.setMap (es' := es.eraseIdx j) (clk' := clk) (re' := re.eraseIdxIfInBounds j) hp okm hlt hsz' (fun i hi => by
          rw [hg, hse]
          rw [List.length_eraseIdx_of_lt hltj] at hi
          rw [List.getD_eq_getElem?_getD, List.getElem?_eraseIdx, List.getD_eq_getElem?_getD (l := es.eraseIdx j), List.getElem?_eraseIdx]
          split
          · rw [← List.getD_eq_getElem?_getD, ← List.getD_eq_getElem?_getD, ← hg]
            exact hre i (by omega)
          · rw [← List.getD_eq_getElem?_getD, ← List.getD_eq_getElem?_getD, ← hg]
            exact hre (i + 1) (by omega))
        refine .value (rv := .tuple #[]) (w' := setBlk w p.rb (.map (re.eraseIdxIfInBounds j) clk)) ?_ h (.tup _ _ rfl (by simp)) r1 r2
        rw [hex]
        simp [Builtin.delete_, run_underlying ht, hgo, hck, hfk, hst]
        rfl
      · rename_i hj
        have hfk := findKey_sound hks hv2 es re _ hsz (fun j hj => (hre j hj).2.1) hj
        simp only [hit, Option.map_none] at hfk
        have hst := MapKept.run_setObj_map (P := P) (.map re clk) hr
        obtain ⟨Φ', r1, r2⟩ := hrel.setMap (es' := es) (clk' := clk) (re' := re) hp okm hlt hsz hre
        refine .value (rv := .tuple #[]) (w' := setBlk w p.rb (.map re clk)) ?_ h (.tup _ _ rfl (by simp)) r1 r2
        rw [hex]
        simp [Builtin.delete_, run_underlying ht, hgo, hck, hfk, hst]
        rfl
      · exact h.elim
    · exact h.elim
  · exact h.elim

theorem rng_sound {t kt e : TypeId} {x : Operand} {x' : Opd} (hrel : Rel G B Φ Z H w) (hf : FrR Φ Z w fr a) (ho : o.op = .range t x) (ht : P.underlying t = some (.map kt e)) (hx : opd x = some x') (h : rngK (ev G fr x') H K) : Comes' P G B o a w Φ Z K := by
  have hv := ev_sound (x := x) hrel.glob hf hx
  have hex : (execOp a.eval o).run P w = ((Instr.range t (a.eval x)).run P w).andThen fun v w => .ok (.value v) w := by
    simp [execOp, ho]
  generalize a.eval x = xv at hv hex
  generalize ev G fr x' = xa at hv h
  unfold rngK at h
  split at h
  · obtain ⟨hb, h⟩ := h
    split at h
    · rename_i b x es clk hes
      obtain ⟨p, re, hp, okm, rfl, hr, hsz, hre⟩ := map_inv hrel hv hes
      have hgo := MapKept.run_getObj_map (P := P) hr
      have hr2 := hrel.extend [.iter b clk [] clk]
      have := hr2.make (b := H.length) (k := .iter b clk [] clk) (p := ⟨w.heap.size, 0, 0, 0⟩) (.mapIter (some p.rb) clk #[] clk) hrel.fresh hrel.unpend (by simp) rfl (fun w' hw' vr => by
        refine ⟨rfl, ⟨p.rb, vr _ _ hv, ?_⟩, fun hz => ?_⟩
        · rw [hw']
          show (w.heap.push _)[w.heap.size]? = _
          simp
        · have := hrel.zin _ hz
          simp at this)
      refine .value (rv := .pointer (some ⟨w.heap.size, 0, none⟩)) (w' := w.alloc (.mapIter (some p.rb) clk #[] clk)) ?_ h (.ptr _ _ _ _ _ _ (put1_same _ _ _) (Nat.le_refl _) fun _ => by simp) this.1 this.2
      rw [hex]
      simp [Instr.range, run_underlying ht, hgo]
    · exact h.elim
  · exact h.elim

theorem iter_inv {q b since last : Nat} {seen : List Nat} {r : Value} (hrel : Rel G B Φ Z H w) (h : VR Φ Z w (.ptr q 0 0 0) r) (hH : getB H q = .iter b since seen last) : ∃ p rm, Φ q = some p ∧ IterOK Φ Z w p b since seen last ∧ r = .pointer (some ⟨p.rb, 0, none⟩) ∧ VR Φ Z w (.map b) (.map (some rm)) ∧ w.heap[p.rb]? = some (.mapIter (some rm) since seen.toArray last) := by
  cases h with
  | ptr _ _ _ _ p a hp hle hv =>
    have ok := hrel.iterb hp hH
    obtain ⟨rm, h1, h2⟩ := ok.row
    refine ⟨p, rm, hp, ok, ?_, h1, h2⟩
    rw [hv ok.len]
    simp

theorem nxt_sound {x : Operand} {x' : Opd} (hrel : Rel G B Φ Z H w) (hf : FrR Φ Z w fr a) (ho : o.op = .next x false) (hx : opd x = some x') (h : nxtK (ev G fr x') H K) : Comes' P G B o a w Φ Z K := by
  have hv := ev_sound (x := x) hrel.glob hf hx
  have hex : (execOp a.eval o).run P w = ((Instr.next (a.eval x) false o.type).run P w).andThen fun v w => .ok (.value v) w := by
    simp [execOp, ho]
  generalize a.eval x = xv at hv hex
  generalize ev G fr x' = xa at hv h
  unfold nxtK at h
  split at h
  · rename_i q
    obtain ⟨hq, h⟩ := h
    split at h
    · rename_i b since seen last hit
      obtain ⟨hb, h⟩ := h
      obtain ⟨pq, rm, hpq, okq, rfl, hvm, hrq⟩ := iter_inv hrel hv hit
      split at h
      · rename_i es clk hes
        obtain ⟨⟨hold, hsl⟩, hdone, hstep⟩ := h
        obtain ⟨p, re, hp, okm, e, hr, hsz, hre⟩ := map_inv hrel hvm hes
        simp only [Value.map.injEq, Option.some.injEq] at e
        subst e
        have hgt : ∀ i, i < re.size → re[i]? = some (re.getD i default) := fun i hi => by rw [Array.getD_eq_getD_getElem?, Array.getElem?_eq_getElem hi]; rfl
        have hme : ∀ i, i < es.length → es.getD i e0V ∈ es := fun i hi => by rw [List.getD_eq_getElem?_getD, List.getElem?_eq_getElem hi]; exact List.getElem_mem hi
        have hin : ∀ x ∈ re.toList, ∃ i, i < es.length ∧ x = re.getD i default := fun x hx => by
          obtain ⟨i, hi, rfl⟩ := List.getElem_of_mem hx
          simp only [Array.length_toList] at hi
          exact ⟨i, by omega, by rw [Array.getD_eq_getD_getElem?, Array.getElem?_eq_getElem hi]; simp⟩
        have hold' : ∀ x ∈ re.toList, x.born < since := fun x hx => by
          obtain ⟨i, hi, rfl⟩ := hin x hx
          rw [(hre i hi).1]
          exact hold _ (hme i hi)
        rcases Go.run_next_at w o.type pq.rb p.rb since last seen.toArray re clk hrq hr hold' hsl with ⟨h0, hrun⟩ | ⟨x, hx, w1, hw1, hrun⟩
        · refine .value (rv := .tuple #[.bool false]) (w' := w) (by rw [hex, hrun]; rfl) (hdone fun e he => ?_) (.tup _ _ rfl fun i hi => by obtain rfl : i = 0 := (by simpa using hi); exact .bool _) hrel (Ev.refl _ _ _ _)
          apply Classical.byContradiction
          intro hns
          obtain ⟨i, hi, rfl⟩ := List.getElem_of_mem he
          have hb1 := (hre i hi).1
          have : re.getD i default ∈ (Go.leftOf re seen.toArray).toList := by
            unfold Go.leftOf
            rw [Array.toList_filter, List.mem_filter]
            refine ⟨?_, ?_⟩
            · rw [Array.getD_eq_getD_getElem?, Array.getElem?_eq_getElem (by omega)]
              exact Array.getElem_mem_toList (by omega)
            · rw [hb1]
              simp only [List.contains_toArray, Bool.not_eq_true', List.contains_eq_mem, decide_eq_false_iff_not]
              rw [List.getD_eq_getElem?_getD, List.getElem?_eq_getElem hi]
              exact hns
          have h1 : (Go.leftOf re seen.toArray).toList = [] := List.length_eq_zero_iff.1 (by simpa using h0)
          rw [h1] at this
          cases this
        · unfold Go.leftOf at hx
          rw [Array.toList_filter, List.mem_filter] at hx
          obtain ⟨hx1, hx2⟩ := hx
          obtain ⟨i, hi, rfl⟩ := hin x hx1
          obtain ⟨hb1, hk1, hv1⟩ := hre i hi
          rw [hb1] at hx2 hrun
          simp only [List.contains_toArray, Bool.not_eq_true', List.contains_eq_mem, decide_eq_false_iff_not] at hx2
          have hheap : w1.heap = w.heap := by rcases hw1 with rfl | rfl <;> rfl
          have hrel1 : Rel G B Φ Z H w1 := hrel.heap hheap
          have hev1 : Ev B Φ Z w Φ Z w1 := by
            rcases hw1 with rfl | rfl
            · exact Ev.refl _ _ _ _
            · exact Ev.drew _ _ _ _
          have hltq : pq.rb < w1.heap.size := by rw [hheap]; exact (Array.getElem?_eq_some_iff.1 hrq).1
          have hpsh : seen.toArray.push (es.getD i e0V).1 = (seen ++ [(es.getD i e0V).1]).toArray := by simp
          rw [hpsh] at hrun
          have := hrel1.write (b := q) (k := .iter b since (seen ++ [(es.getD i e0V).1]) clk) (p := pq) (p' := pq) (w' := setBlk w1 pq.rb (.mapIter (some p.rb) since (seen ++ [(es.getD i e0V).1]).toArray clk)) hpq okq.z (.inl rfl) (.inl rfl) (setBlk_below (hrel.low q pq hpq)) (fun r hr _ => setBlk_ne _ _ _ hr) (fun vr => by
            exact ⟨okq.len, ⟨p.rb, vr _ _ (hvm.ev hev1), setBlk_same _ hltq⟩, okq.z⟩)
          refine .value (rv := .tuple #[.bool true, (re.getD i default).key, (re.getD i default).val]) (by rw [hex, hrun]; rfl) (hstep _ (hme i hi) hx2) (.tup _ _ rfl fun j hj => ?_) this.1 (hev1.trans this.2)
          have hk2 := (hk1.ev hev1).ev this.2
          have hv2 := (hv1.ev hev1).ev this.2
          have : j = 0 ∨ j = 1 ∨ j = 2 := by simp at hj; omega
          rcases this with rfl | rfl | rfl
          · exact .bool _
          · exact hk2
          · exact hv2
      · exact h.elim
    · exact h.elim
  · exact h.elim

theorem ent_sound {x : Operand} {x' : Opd} (hrel : Rel G B Φ Z H w) (hf : FrR Φ Z w fr a) (ho : o.op = .entry x) (hx : opd x = some x') (h : entK (ev G fr x') H (K · H)) : Reads P o a w Φ Z (K · H) := by
  have hv := ev_sound (x := x) hrel.glob hf hx
  have hex : (execOp a.eval o).run P w = ((Instr.entry (a.eval x)).run P w).andThen fun v w => .ok (.value v) w := by
    simp [execOp, ho]
  generalize a.eval x = xv at hv hex
  generalize ev G fr x' = xa at hv h
  unfold entK at h
  split at h
  · rename_i q
    obtain ⟨hq, h⟩ := h
    split at h
    · rename_i b since seen last hit
      obtain ⟨hb, h⟩ := h
      obtain ⟨pq, rm, hpq, okq, rfl, hvm, hrq⟩ := iter_inv hrel hv hit
      split at h
      · rename_i es clk hes
        obtain ⟨rfl, hnd, h⟩ := h
        obtain ⟨p, re, hp, okm, e, hr, hsz, hre⟩ := map_inv hrel hvm hes
        simp only [Value.map.injEq, Option.some.injEq] at e
        subst e
        split at h
        · rename_i s hs
          split at h
          · rename_i e he
            have hem := List.mem_of_find?_eq_some he
            have hes' := List.find?_some he
            simp only [beq_iff_eq] at hes'
            obtain ⟨i, hi, rfl⟩ := List.getElem_of_mem hem
            have hgd : es.getD i e0V = es[i] := by rw [List.getD_eq_getElem?_getD, List.getElem?_eq_getElem hi]; rfl
            obtain ⟨hb1, hk1, hv1⟩ := hre i hi
            rw [hgd] at hb1 hk1 hv1
            obtain ⟨s0, rfl⟩ := List.getLast?_eq_some_iff.1 hs
            have hborn : re.toList.map (·.born) = es.map (·.1) := by
              refine List.ext_getElem (by simp [hsz]) fun j h1 h2 => ?_
              simp only [List.length_map, Array.length_toList] at h1
              have hj : j < es.length := by omega
              have := (hre j hj).1
              rw [Array.getD_eq_getD_getElem?, Array.getElem?_eq_getElem h1, List.getD_eq_getElem?_getD, List.getElem?_eq_getElem hj] at this
              simpa using this
            have hrq' : w.heap[pq.rb]? = some (.mapIter (some p.rb) since (s0.toArray.push (re.getD i default).born) last) := by
              rw [hrq, hb1, hes']; simp
            have hmem : re.getD i default ∈ re.toList := by
              rw [Array.getD_eq_getD_getElem?, Array.getElem?_eq_getElem (by omega)]
              exact Array.getElem_mem_toList (by omega)
            have hrun := Go.run_entry_at (P := P) w pq.rb p.rb since s0.toArray re last (re.getD i default) hrq' hr hmem (by rw [hborn]; exact hnd)
            refine .here (rv := .tuple #[(re.getD i default).key, (re.getD i default).val]) (by rw [hex, hrun]; rfl) hrel h (.tup _ _ rfl fun j hj => ?_)
            have : j = 0 ∨ j = 1 := by simp at hj; omega
            rcases this with rfl | rfl
            · exact hk1
            · exact hv1
          · exact h.elim
        · exact h.elim
      · exact h.elim
    · exact h.elim
  · exact h.elim

/-- Arrays compared. -/
theorem eqA_sound {neg : Bool} {op : BinOp} {t u e : TypeId} {n : Nat} {ks : List Nat} {x y : Operand} {x' y' : Opd} (hrel : Rel G B Φ Z H w) (hf : FrR Φ Z w fr a) (ho : o.op = .binOp op t x y u) (hop : (op = .eql ∧ neg = false) ∨ (op = .neq ∧ neg = true)) (hu : P.underlying t = some (.array n e)) (hg : P.eqGuardType P.depth t = false) (hfl : flatA P n e = some ks)
    (hx : opd x = some x') (hy : opd y = some y') (h : eqTK neg ks (ev G fr x') (ev G fr y') (K · H)) : Reads P o a w Φ Z (K · H) := by
  have hv := ev_sound (x := x) hrel.glob hf hx
  have hv2 := ev_sound (x := y) hrel.glob hf hy
  have hex : (execOp a.eval o).run P w = (Sem.run P (do eqGuard op t x y (a.eval x) (a.eval y); binOp op t (a.eval x) (a.eval y)) w).andThen fun v w => .ok (.value v) w := by
    simp only [execOp, ho, Sem.run_bind]
    cases (eqGuard op t x y (a.eval x) (a.eval y)).run P w <;> rfl
  generalize a.eval x = xv at hv hex
  generalize a.eval y = yv at hv2 hex
  generalize ev G fr x' = xa at hv h
  generalize ev G fr y' = ya at hv2 h
  unfold eqTK at h
  split at h
  · split at h
    · rename_i as bs _ r hr
      obtain ⟨xs, rfl, hl1, hc1⟩ := hv.agg_inv
      obtain ⟨ys, rfl, hl2, hc2⟩ := hv2.agg_inv
      obtain ⟨hs1, k, hk', rfl⟩ := flatA_spec hfl
      obtain ⟨i, hi⟩ := info_of hs1
      have heq : (Op.equal t (.agg xs) (.agg ys)).run P w = .ok r w := by
        show (Op.equalIn (9999 + 1) t (.agg xs) (.agg ys)).run P w = _
        rw [run_equalIn_array w 9999 xs ys hu hi, List.range_eq_range']
        exact eqI_sound 9998 hk' hs1 n 0 as bs r hr (fun j hj => ⟨by omega, by simpa using hc1 j hj⟩) fun j hj => ⟨by omega, by simpa using hc2 j hj⟩
      have hgu := run_eqGuard_agg (P := P) w op t x y xs ys hg
      refine .here (rv := .bool (bif neg then !r else r)) ?_ hrel h (.bool _)
      rw [hex, Sem.run_bind, hgu, Result.andThen_ok]
      rcases hop with ⟨rfl, rfl⟩ | ⟨rfl, rfl⟩
      · simp [binOp, heq]
      · simp [binOp, heq]
    · exact h.elim
  · exact h.elim

end
end Go.MW

