/- Each operation of the small code against the model's: what it comes to, where its abstract precondition holds. -/
import Derived.Test.YtphbhoggcddgmaaDoorMwRun
namespace Go.MW
open Go Go.RowKit
set_option linter.unusedVariables false
set_option linter.unusedSimpArgs false

/-- The slots of a frame. -/
def FrR (Φ : Nat → Option Pl) (Z : Nat → Prop) (w : World) (fr : Fr) (a : Act) : Prop := ∀ i, VR Φ Z w (get fr i) (a.tmps.getD i undef)

/-- An operation comes to a value, in a world, that are as told. -/
def Comes' (P : Program) (G : Nat → Option (List V)) (B : Nat) (o : Oper) (a : Act) (w : World) (Φ : Nat → Option Pl) (Z : Nat → Prop) (K : V → List Blk → Prop) : Prop :=
  ∀ (next : Act → World → Prop) (Q : Exit → Act → World → Prop),
    (∀ rv v H' Φ' Z' w', K v H' → VR Φ' Z' w' v rv → Rel G B Φ' Z' H' w' → Ev B Φ Z w Φ' Z' w' → next (a.put o.dst rv) w') → o.wp P a w next Q

section
variable {P : Program} {G : Nat → Option (List V)} {B : Nat} {Φ : Nat → Option Pl} {Z : Nat → Prop} {H : List Blk} {w : World} {a : Act} {fr : Fr} {K : V → List Blk → Prop} {o : Oper}

theorem Comes'.value {rv : Value} {v : V} {H' : List Blk} {Φ' : Nat → Option Pl} {Z' : Nat → Prop} {w' : World} (hr : (execOp a.eval o).run P w = .ok (.value rv) w') (hk : K v H') (hv : VR Φ' Z' w' v rv)
    (hrel : Rel G B Φ' Z' H' w') (hev : Ev B Φ Z w Φ' Z' w') : Comes' P G B o a w Φ Z K := by
  intro next Q hn
  unfold Oper.wp
  rw [hr, Oper.upon_value]
  exact hn _ _ _ _ _ _ hk hv hrel hev

theorem Comes'.skip {H' : List Blk} {Φ' : Nat → Option Pl} {Z' : Nat → Prop} {w' : World} (hr : (execOp a.eval o).run P w = .ok .skip w') (hk : K .junk H')
    (hrel : Rel G B Φ' Z' H' w') (hev : Ev B Φ Z w Φ' Z' w') : Comes' P G B o a w Φ Z K := by
  intro next Q hn
  unfold Oper.wp
  rw [hr, Oper.upon_skip]
  exact hn _ _ _ _ _ _ hk (.junk _) hrel hev

/-- An operation reads: a value, the world as it was. -/
def Reads (P : Program) (o : Oper) (a : Act) (w : World) (Φ : Nat → Option Pl) (Z : Nat → Prop) (C : V → Prop) : Prop :=
  ∃ rv v, (execOp a.eval o).run P w = .ok (.value rv) w ∧ C v ∧ VR Φ Z w v rv

theorem Reads.here {rv : Value} {v : V} (hr : (execOp a.eval o).run P w = .ok (.value rv) w) (hrel : Rel G B Φ Z H w) (hk : K v H) (hv : VR Φ Z w v rv) : Reads P o a w Φ Z (K · H) :=
  ⟨rv, v, hr, hk, hv⟩

theorem Reads.comes (h : Reads P o a w Φ Z (K · H)) (hrel : Rel G B Φ Z H w) : Comes' P G B o a w Φ Z K := by
  obtain ⟨rv, v, hr, hk, hv⟩ := h
  exact .value hr hk hv hrel (Ev.refl _ _ _ _)

theorem ev_sound {x : Operand} {y : Opd} (hg : GlobOK G Z w) (hf : FrR Φ Z w fr a) (h : opd x = some y) : VR Φ Z w (ev G fr y) (a.eval x) := by
  cases x with
  | tmp t => simp [opd] at h; subst h; exact hf t
  | const v =>
    simp only [opd, Option.map_eq_some_iff] at h
    obtain ⟨c, hc, rfl⟩ := h
    exact ofVal_sound hc
  | global g =>
    simp [opd] at h
    subst h
    simp only [ev]
    split
    · rename_i cs hcs
      obtain ⟨hz, c, h1, h2⟩ := hg g cs hcs
      exact .vp cs ⟨g, 0, none⟩ c rfl hz (fun j hj => by simpa using h1 j hj) (fun j hj => (h2 j hj).mono (fun _ h => h) (fun _ _ => rfl) (fun b p hp => by cases hp))
    · exact .junk _
  | func f =>
    simp [opd] at h
    subst h
    exact .fn _ _ _ _ _ rfl rfl (by simp) (by simp)

theorem evs_sound (hg : GlobOK G Z w) (hf : FrR Φ Z w fr a) : ∀ {xs : List Operand} {ys : List Opd}, opds xs = some ys → VRs Φ Z w (evs G fr ys) (xs.map a.eval).toArray
  | [], ys, h => by simp [opds] at h; subst h; exact ⟨rfl, by simp [evs]⟩
  | x :: r, ys, h => by
    simp only [opds] at h
    split at h <;> simp at h
    subst h
    rename_i y zs hx hr
    obtain ⟨h1, h2⟩ := evs_sound hg hf hr
    refine ⟨by simp [evs] at h1 ⊢; exact h1, fun i hi => ?_⟩
    cases i with
    | zero => simpa [evs, Array.getD] using ev_sound hg hf hx
    | succ i =>
      have := h2 i (by simpa [evs] using hi)
      simpa [evs, Array.getD_eq_getD_getElem?, List.getD_eq_getElem?_getD] using this

theorem opdO_some {x : Option Operand} {y : Option Opd} (h : opdO x = some y) : (x = none ∧ y = none) ∨ ∃ x' y', x = some x' ∧ y = some y' ∧ opd x' = some y' := by
  cases x with
  | none => simp [opdO] at h; exact .inl ⟨rfl, h.symm⟩
  | some x =>
    simp only [opdO, Option.map_eq_some_iff] at h
    obtain ⟨c, hc, rfl⟩ := h
    exact .inr ⟨x, c, rfl, rfl, hc⟩

/-- What an abstract value tells of the value: by its kind. -/
theorem VR.int_inv {k : IntKind} {n : Int} {r : Value} (h : VR Φ Z w (.int k n) r) : r = .int k n := by cases h; rfl
theorem VR.bool_inv {b : Bool} {r : Value} (h : VR Φ Z w (.bool b) r) : r = .bool b := by cases h; rfl
theorem VR.str_inv {s : List UInt8} {r : Value} (h : VR Φ Z w (.str s) r) : r = .string ⟨s.toArray⟩ := by cases h; rfl

/-- An address in a row. -/
theorem ptr_inv {b n i j : Nat} {r : Value} {sz : Nat} {xs : List V} {opn frz : Bool} (hrel : Rel G B Φ Z H w) (h : VR Φ Z w (.ptr b n i j) r) (hH : getB H b = .row sz xs opn frz) (hn : xs.length = n) :
    ∃ p, Φ b = some p ∧ RowOK Φ Z w p sz xs opn frz ∧ r = .pointer (some ⟨p.rb, i * sz + j, none⟩) := by
  cases h with
  | ptr _ _ _ _ p a hp hle hv =>
    have ok := hrel.row hp hH
    refine ⟨p, hp, ok, ?_⟩
    rw [hv (by rw [ok.len, hn]), ok.size]

/-- A slice into a row. -/
theorem hs_inv {b n i j len sz' : Nat} {cap : Option Nat} {r : Value} {sz : Nat} {xs : List V} {opn frz : Bool} (hrel : Rel G B Φ Z H w) (h : VR Φ Z w (.hs b n i j len cap sz') r) (hH : getB H b = .row sz xs opn frz) (hn : xs.length = n) :
    ∃ p rcap, Φ b = some p ∧ RowOK Φ Z w p sz xs opn frz ∧ r = .slice (some ⟨p.rb, i * sz + j, none⟩) len rcap ∧ len ≤ rcap ∧ capOK p i j sz' rcap cap := by
  cases h with
  | hs _ _ _ _ _ _ _ p base rcap hp hle hv =>
    have ok := hrel.row hp hH
    obtain ⟨h1, h2, h3⟩ := hv (by rw [ok.len, hn])
    exact ⟨p, rcap, hp, ok, by rw [h1, ok.size], h2, h3⟩

/-- The cells of a row's element. -/
theorem RowOK.cell {p : Pl} {sz : Nat} {xs : List V} {opn frz : Bool} (h : RowOK Φ Z w p sz xs opn frz) {i j : Nat} (hi : i < xs.length) (hj : j < sz) :
    ∃ v, w.cell? ⟨p.rb, i * sz + j, none⟩ = some v ∧ VR Φ Z w ((xs.getD i .junk).cells.getD j .junk) v := by
  obtain ⟨c, t, fz, hc, _, h1, h2, _, h4⟩ := h.row
  have : i * sz + j < c.size := by
    have : (i + 1) * sz ≤ xs.length * sz := Nat.mul_le_mul_right _ hi
    rw [Nat.add_mul] at this
    omega
  exact ⟨_, cell_getD hc this, h4 i j hi hj⟩

theorem getD_take {α : Type} (l : List α) (n i : Nat) (d : α) (h : i < n) : (l.take n).getD i d = l.getD i d := by
  simp [List.getD_eq_getElem?_getD, h]
theorem getD_drop {α : Type} (l : List α) (n i : Nat) (d : α) : (l.drop n).getD i d = l.getD (n + i) d := by
  simp [List.getD_eq_getElem?_getD]
theorem getD_range_map {α : Type} (f : Nat → α) (n i : Nat) (d : α) (h : i < n) : (((List.range n).map f).toArray).getD i d = f i := by
  simp [Array.getD_eq_getD_getElem?, h]

theorem ld_sound {t : TypeId} {x : Operand} {agg : Option Nat} {y : Opd} (hrel : Rel G B Φ Z H w) (hf : FrR Φ Z w fr a) (ho : o.op = .load t x) (ht : aggT P t = some agg) (hx : opd x = some y)
    (h : ldK agg (ev G fr y) H K) : Reads P o a w Φ Z (K · H) := by
  have hv := ev_sound (x := x) hrel.glob hf hx
  have hex : (execOp a.eval o).run P w = ((Instr.loadAt t (a.eval x)).run P w).andThen fun v w => .ok (.value v) w := by simp [execOp, ho]
  generalize a.eval x = xv at hv hex
  generalize ev G fr y = yv at hv h
  unfold ldK at h
  split at h
  · -- immutable cells
    rename_i cs
    cases hv with
    | vp _ ad c hs hz hcell hc =>
      cases agg with
      | none =>
        obtain ⟨h1, h2⟩ := h
        refine .here (rv := c 0) ?_ hrel h2 (hc 0 h1)
        have hc0 : w.cell? ad = some (c 0) := by
          have := hcell 0 h1
          cases ad
          simp at hs ⊢ this
          subst hs
          exact this
        simp [hex, Instr.loadAt, Instr.sureAddr, loadVar, (aggT_none ht w).1, hc0]
      | some n =>
        obtain ⟨h1, h2⟩ := h
        have hl : (loadCells ad n).run P w = .ok ((List.range n).map c).toArray w := run_loadCells w ad n c fun j hj => by rw [add_eq hs]; exact hcell j (by omega)
        obtain ⟨h3, h4, _⟩ := aggT_some ht w
        refine .here (rv := .agg ((List.range n).map c).toArray) ?_ hrel h2 (.agg _ _ (by simp; omega) fun i hi => ?_)
        · simp [hex, Instr.loadAt, Instr.sureAddr, loadVar, h3, h4, hl]
        · simp at hi
          rw [getD_range_map _ _ _ _ (by omega), getD_take _ _ _ _ (by omega)]
          exact hc i (by omega)
  · -- a row
    rename_i b n i j
    split at h
    · rename_i sz xs opn frz hH
      obtain ⟨h1, h2, h3⟩ := h
      obtain ⟨p, hp, ok, rfl⟩ := ptr_inv hrel hv hH h1
      cases agg with
      | none =>
        obtain ⟨h4, h5⟩ := h3
        obtain ⟨v, hc, hvr⟩ := ok.cell (i := i) (j := j) (by omega) h4
        refine .here (rv := v) ?_ hrel h5 hvr
        simp [hex, Instr.loadAt, Instr.sureAddr, loadVar, (aggT_none ht w).1, hc]
      | some m =>
        obtain ⟨h4, h5⟩ := h3
        obtain ⟨h6, h7, _⟩ := aggT_some ht w
        obtain ⟨c, tt, fz, hc, _, hsz, hle, _, hcv⟩ := ok.row
        have hin : i * sz + sz ≤ c.size := by
          have : (i + 1) * sz ≤ xs.length * sz := Nat.mul_le_mul_right _ (by omega)
          rw [Nat.add_mul] at this
          omega
        have hl : (loadCells ⟨p.rb, i * sz + j, none⟩ m).run P w = .ok ((List.range m).map fun q => c.getD (i * sz + (j + q)) undef).toArray w :=
          run_loadCells w _ m _ fun q hq => by rw [add_eq rfl]; simp only; rw [Nat.add_assoc]; exact cell_getD hc (by omega)
        have hcs := ok.csz i (by omega)
        have hsub : ∃ cs, sub (xs.getD i .junk) sz j m = .agg cs ∧ cs.length = m ∧ ∀ q, q < m → cs.getD q .junk = (xs.getD i .junk).cells.getD (j + q) .junk := by
          unfold sub
          split
          · rename_i hjm
            exact ⟨_, rfl, by omega, fun q hq => by rw [hjm.1, Nat.zero_add]⟩
          · refine ⟨_, rfl, by rw [List.length_take, List.length_drop]; omega, fun q hq => by rw [getD_take _ _ _ _ hq, getD_drop]⟩
        obtain ⟨cs, hcs1, hcs2, hcs3⟩ := hsub
        refine .here (rv := .agg ((List.range m).map fun q => c.getD (i * sz + (j + q)) undef).toArray) (v := sub (xs.getD i .junk) sz j m) ?_ hrel h5 ?_
        · simp [hex, Instr.loadAt, Instr.sureAddr, loadVar, h6, h7, hl]
        · rw [hcs1]
          refine .agg _ _ (by simp; omega) fun q hq => ?_
          rw [getD_range_map _ _ _ _ (by omega), hcs3 q (by omega)]
          exact hcv i (j + q) (by omega) (by omega)
    · exact h.elim
  · exact h.elim

theorem mv_sound {x : Operand} {y : Opd} (hrel : Rel G B Φ Z H w) (hf : FrR Φ Z w fr a) (ho : o.op = .move x ∨ o.op = .assign x) (hx : opd x = some y) (h : K (ev G fr y) H) : Reads P o a w Φ Z (K · H) := by
  refine .here (rv := a.eval x) ?_ hrel h (ev_sound hrel.glob hf hx)
  rcases ho with ho | ho <;> simp [execOp, ho]

theorem pick_sound {x y z : Operand} {x' y' z' : Opd} (hrel : Rel G B Φ Z H w) (hf : FrR Φ Z w fr a) (ho : o.op = .pick x y z) (hx : opd x = some x') (hy : opd y = some y') (hz : opd z = some z')
    (h : pickK (ev G fr x') (ev G fr y') (ev G fr z') (K · H)) : Reads P o a w Φ Z (K · H) := by
  have hv := ev_sound (x := x) hrel.glob hf hx
  have hv2 := ev_sound (x := y) hrel.glob hf hy
  have hv3 := ev_sound (x := z) hrel.glob hf hz
  unfold pickK at h
  split at h
  · rename_i t ht
    rw [ht] at hv
    have hb := hv.bool_inv
    cases t
    · exact .here (rv := a.eval z) (by simp [execOp, ho, hb, asBool]) hrel h hv3
    · exact .here (rv := a.eval y) (by simp [execOp, ho, hb, asBool]) hrel h hv2
  · exact h.elim

theorem good_cells {n : Nat} {v : V} (h : Good n v) : v.solid = true ∧ v.cells.length = n := ⟨good_solid h, h.1⟩

theorem setR_length : ∀ (l : List V) (n : Nat) (vs : List V), (setR l n vs).length = l.length
  | [], _, _ => rfl
  | a :: l, 0, [] => rfl
  | a :: l, 0, v :: vs => by simp [setR, setR_length l 0 vs]
  | a :: l, n + 1, vs => by simp [setR, setR_length l n vs]

theorem setR_getD : ∀ (l : List V) (n : Nat) (vs : List V) (q : Nat), n + vs.length ≤ l.length → (setR l n vs).getD q .junk = if n ≤ q ∧ q < n + vs.length then vs.getD (q - n) .junk else l.getD q .junk
  | [], n, vs, q, h => by
    simp at h
    obtain ⟨rfl, rfl⟩ := h
    simp [setR]
  | a :: l, 0, [], q, h => by simp [setR]
  | a :: l, 0, v :: vs, q, h => by
    simp only [setR]
    cases q with
    | zero => simp
    | succ q =>
      rw [List.getD_cons_succ, setR_getD l 0 vs q (by simpa using h)]
      simp
  | a :: l, n + 1, vs, q, h => by
    simp only [setR]
    cases q with
    | zero => simp
    | succ q =>
      rw [List.getD_cons_succ, setR_getD l n vs q (by simp at h; omega)]
      simp only [List.getD_cons_succ]
      by_cases hq : n ≤ q ∧ q < n + vs.length
      · rw [if_pos hq, if_pos (by omega)]
        congr 1
        omega
      · rw [if_neg hq, if_neg (by omega)]

theorem agg_cells (cs : List V) : (V.agg cs).cells = cs := rfl

theorem good_upd {x v : V} {sz j m : Nat} (hx : x.cells.length = sz) (hv : v.cells.length = m) (hj : j + m ≤ sz) :
    (upd x sz j m v).cells.length = sz ∧ ∀ q, (upd x sz j m v).cells.getD q .junk = if j ≤ q ∧ q < j + m then v.cells.getD (q - j) .junk else x.cells.getD q .junk := by
  unfold upd
  split
  · rename_i h
    obtain ⟨rfl, rfl⟩ := h
    refine ⟨hv, fun q => ?_⟩
    by_cases hq : q < m
    · rw [if_pos (by omega)]; simp
    · rw [if_neg (by omega)]
      simp only [List.getD_eq_getElem?_getD]
      rw [List.getElem?_eq_none (by omega), List.getElem?_eq_none (by omega)]
  · rw [agg_cells]
    refine ⟨by rw [setR_length, hx], fun q => ?_⟩
    rw [setR_getD _ _ _ _ (by omega), hv]

/-- A store into a row's element. -/
theorem Rel.setCells {b i j m : Nat} {p : Pl} {sz : Nat} {xs : List V} {opn : Bool} {x : V} {vs : List Value} {xv : V} {r0 : Nat} (hrel : Rel G B Φ Z H w) (hp : Φ b = some p) (ok : RowOK Φ Z w p sz xs opn false)
    (hi : i < xs.length) (hj : j + vs.length ≤ sz) (h1 : ∀ v ∈ vs, v.oneCell' = true) (hx : x.cells.length = sz)
    (hc : ∀ q, q < sz → (j ≤ q ∧ q < j + vs.length → VR Φ Z w (x.cells.getD q .junk) (vs.getD (q - j) undef)) ∧ (¬ (j ≤ q ∧ q < j + vs.length) → x.cells.getD q .junk = (xs.getD i .junk).cells.getD q .junk)) :
    ∃ w' Φ', (storeCells ⟨p.rb, i * sz + j, none⟩ vs).run P w = .ok () w' ∧ Rel G B Φ' Z (H.set b (.row sz (xs.set i x) opn false)) w' ∧ Ev B Φ Z w Φ' Z w' := by
  obtain ⟨c, t, fz, hcb, hfz, hsz, hle, hop, hcv⟩ := ok.row
  have hin : i * sz + sz ≤ c.size := by
    have : (i + 1) * sz ≤ xs.length * sz := Nat.mul_le_mul_right _ (by omega)
    rw [Nat.add_mul] at this
    omega
  obtain ⟨c', hs', hr, hq⟩ := run_storeCells_of (P := P) vs p.rb (i * sz + j) 0 w c t fz hcb hfz (by omega) h1
  have hlt : p.rb < w.heap.size := (Array.getElem?_eq_some_iff.1 hcb).1
  have := hrel.write (b := b) (k := .row sz (xs.set i x) opn false) (p := p) (p' := p) (w' := setBlk w p.rb (.cells c' t fz)) hp (ok.z.2 rfl) (.inl rfl) (.inl rfl) (setBlk_below (hrel.low b p hp)) (fun r hr _ => setBlk_ne _ _ _ hr) (fun vr => ?_)
  · exact ⟨_, _, hr, this.1, this.2⟩
  · refine ⟨by simpa using ok.len, ok.size, fun e he => ?_, ⟨c', t, fz, setBlk_same _ hlt, by rw [hs']; exact hfz, by rw [hs']; exact hsz, by simpa using hle, by simpa using hop, fun e q he hqs => ?_⟩, ok.z⟩
    · simp only [List.length_set] at he
      by_cases hei : e = i
      · subst hei
        simpa [List.getD_eq_getElem?_getD, he] using hx
      · have := ok.csz e he
        simpa [List.getD_eq_getElem?_getD, List.getElem?_set_ne (Ne.symm hei)] using this
    · simp only [List.length_set] at he
      refine vr _ _ ?_
      rw [hq]
      simp only [Nat.add_zero]
      by_cases hei : e = i
      · subst hei
        have hx' : ((xs.set e x).getD e .junk) = x := by simp [List.getD_eq_getElem?_getD, he]
        rw [hx']
        by_cases hin' : j ≤ q ∧ q < j + vs.length
        · rw [if_pos (by omega), show e * sz + q - (e * sz + j) = q - j by omega]
          exact (hc q hqs).1 hin'
        · rw [if_neg (by omega), (hc q hqs).2 hin']
          exact hcv e q he hqs
      · have hx' : ((xs.set i x).getD e .junk) = xs.getD e .junk := by simp [List.getD_eq_getElem?_getD, List.getElem?_set_ne (Ne.symm hei)]
        rw [hx', if_neg]
        · exact hcv e q he hqs
        · intro hh
          have h2 : e * sz + q < i * sz + sz := by omega
          have h3 : i * sz < (e + 1) * sz := by rw [Nat.add_mul]; omega
          have h4 : e * sz < (i + 1) * sz := by rw [Nat.add_mul]; omega
          have h5 := Nat.lt_of_mul_lt_mul_right h3
          have h6 := Nat.lt_of_mul_lt_mul_right h4
          omega

theorem st_sound {t : TypeId} {x v : Operand} {n : Nat} {y u : Opd} (hrel : Rel G B Φ Z H w) (hf : FrR Φ Z w fr a) (ho : o.op = .store t x v) (ht : sizeT P t = some n) (hx : opd x = some y) (hv : opd v = some u)
    (h : stK n (ev G fr y) (ev G fr u) H K) : Comes' P G B o a w Φ Z K := by
  have hxv := ev_sound (x := x) hrel.glob hf hx
  have hvv := ev_sound (x := v) hrel.glob hf hv
  have hex : (execOp a.eval o).run P w = ((Instr.storeAt t (a.eval x) (a.eval v)).run P w).andThen fun _ w => .ok .skip w := by simp [execOp, ho]
  generalize a.eval x = xr at hxv hex
  generalize a.eval v = vr at hvv hex
  generalize ev G fr y = xa at hxv h
  generalize ev G fr u = va at hvv h
  obtain ⟨hgood, h⟩ := h
  obtain ⟨hsol, hlen⟩ := good_cells hgood
  obtain ⟨hc1, hc2⟩ := hvv.cells hsol
  split at h
  · rename_i b m i j
    split at h
    · rename_i sz xs opn frz hH
      obtain ⟨h1, h2, h3, rfl, h5⟩ := h
      obtain ⟨p, hp, ok, rfl⟩ := ptr_inv hrel hxv hH h1
      obtain ⟨hu1, hu2⟩ := good_upd (x := xs.getD i .junk) (v := va) (ok.csz i (by omega)) hlen h3
      have hvl : vr.cells.toList.length = n := by simp; omega
      have one : ∀ q ∈ vr.cells.toList, q.oneCell' = true := by
        intro q hq
        obtain ⟨e, he, rfl⟩ := List.getElem_of_mem hq
        have he' : e < va.cells.length := by simp at he; omega
        have hr := hc2 e he'
        have hg := hgood.2 (va.cells.getD e .junk) (by simp [List.getD_eq_getElem?_getD, he'])
        have := oneCell_of hr hg
        have he2 : e < vr.cells.size := by simpa using he
        simpa [Array.getD, he2] using this
      obtain ⟨w', Φ', hr, hrel', hev⟩ := Rel.setCells (P := P) (i := i) (j := j) (x := upd (xs.getD i .junk) sz j n va) (vs := vr.cells.toList) (m := n) (xv := va) (r0 := 0) hrel hp ok (by omega) (by omega) one hu1 (fun q hq => by
        rw [hu2, hvl]
        refine ⟨fun hh => ?_, fun hh => ?_⟩
        · rw [if_pos hh]
          have := hc2 (q - j) (by omega)
          simpa [Array.getD_eq_getD_getElem?, List.getD_eq_getElem?_getD] using this
        · rw [if_neg hh])
      refine .skip (w' := w') (Φ' := Φ') (Z' := Z) ?_ h5 hrel' hev
      rw [hex]
      have hs : vr.cells.size = n := by omega
      simp [Instr.storeAt, Instr.sureAddr, storeVar, run_sizeT ht, hs, hr]
    · exact h.elim
  · exact h.elim

end
end Go.MW
