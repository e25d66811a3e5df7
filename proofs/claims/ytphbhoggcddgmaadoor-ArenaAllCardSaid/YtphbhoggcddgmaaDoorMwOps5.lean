/- Elements of slices: read, and written. -/
import Derived.Test.YtphbhoggcddgmaaDoorMwOps4
namespace Go.MW
open Go Go.RowKit
set_option linter.unusedVariables false
set_option linter.unusedSimpArgs false

section
variable {P : Program} {G : Nat → Option (List V)} {B : Nat} {Φ : Nat → Option Pl} {Z : Nat → Prop} {H : List Blk} {w : World} {a : Act} {fr : Fr} {K : V → List Blk → Prop} {o : Oper}

/-- Cells in a row, element by element. -/
def ElR (Φ : Nat → Option Pl) (Z : Nat → Prop) (w : World) (sz n : Nat) (xs : List V) (f : Nat → Value) : Prop :=
  ∀ i j, i < n → j < sz → VR Φ Z w ((xs.getD i .junk).cells.getD j .junk) (f (i * sz + j))

/-- What a slice's, or a string's, elements are. -/
def Elems (P : Program) (Φ : Nat → Option Pl) (Z : Nat → Prop) (w : World) (xs : List V) (rv : Value) : Prop :=
  (Builtin.lenOf rv).run P w = .ok xs.length w ∧
    ∀ sz n, n ≤ xs.length → (∀ i, i < n → (xs.getD i .junk).cells.length = sz) → ∃ f : Nat → Value, (Builtin.firstCells sz n rv).run P w = .ok ((List.range (n * sz)).map f).toArray w ∧ ElR Φ Z w sz n xs f

theorem getD_mem {l : List V} {i : Nat} (h : i < l.length) : l.getD i .junk ∈ l := by
  rw [List.getD_eq_getElem?_getD, List.getElem?_eq_getElem h]
  exact List.getElem_mem h

theorem one_cells {x : V} (h : x.one = true) : x.cells = [x] := (one_of_good h).2

theorem mul_in {i n sz j : Nat} (hi : i < n) (hj : j < sz) : i * sz + j < n * sz := by
  have : (i + 1) * sz ≤ n * sz := Nat.mul_le_mul_right _ hi
  rw [Nat.add_mul] at this
  omega

theorem div_in {q n sz : Nat} (h : q < n * sz) : q / sz < n ∧ q % sz < sz ∧ q / sz * sz + q % sz = q := by
  have hs : 0 < sz := by
    rcases Nat.eq_zero_or_pos sz with h0 | h0
    · rw [h0] at h; omega
    · exact h0
  refine ⟨Nat.div_lt_of_lt_mul (by rwa [Nat.mul_comm]), Nat.mod_lt _ hs, ?_⟩
  have := Nat.div_add_mod q sz
  rw [Nat.mul_comm] at this
  exact this

/-- Cells that stand behind an address. -/
theorem Elems.of_cells {xs : List V} {ad : Addr} {cap : Nat} (f : Nat → Value) (hs : ad.spot = none)
    (h : ∀ sz i j, i < xs.length → (xs.getD i .junk).cells.length = sz → j < sz → w.cell? ⟨ad.block, ad.off + (i * sz + j), none⟩ = some (f (i * sz + j)) ∧ VR Φ Z w ((xs.getD i .junk).cells.getD j .junk) (f (i * sz + j))) :
    Elems P Φ Z w xs (.slice (some ad) xs.length cap) := by
  refine ⟨by simp [Builtin.lenOf], fun sz n hn hy => ⟨f, ?_, fun i j hi hj => (h sz i j (by omega) (hy i hi) hj).2⟩⟩
  have hl : (loadCells ad (n * sz)).run P w = .ok ((List.range (n * sz)).map f).toArray w := run_loadCells w ad (n * sz) f fun q hq => by
    obtain ⟨h1, h2, h3⟩ := div_in hq
    have := (h sz (q / sz) (q % sz) (by omega) (hy _ h1) h2).1
    rw [h3] at this
    rw [add_eq hs]
    exact this
  simp [Builtin.firstCells, hl]

theorem elems_nil {rv : Value} (h : ∃ base cap, rv = .slice base 0 cap) : Elems P Φ Z w [] rv := by
  obtain ⟨base, cap, rfl⟩ := h
  refine ⟨by simp [Builtin.lenOf], fun sz n hn _ => ⟨fun _ => undef, ?_, fun i j hi _ => by simp at hn; omega⟩⟩
  obtain rfl : n = 0 := by simpa using hn
  cases base with
  | none => simp [Builtin.firstCells]
  | some ad =>
    have hl : (loadCells ad (0 * sz)).run P w = .ok ((List.range (0 * sz)).map fun _ => undef).toArray w := run_loadCells w ad (0 * sz) _ fun q hq => by omega
    rw [show (Builtin.firstCells sz 0 (.slice (some ad) 0 cap)) = loadCells ad (0 * sz) from rfl, hl]

theorem elems_sound {x : V} {rv : Value} {C : List V → Prop} (hrel : Rel G B Φ Z H w) (hv : VR Φ Z w x rv) (h : elemsK H x C) : ∃ xs, C xs ∧ Elems P Φ Z w xs rv := by
  unfold elemsK at h
  split at h
  · rename_i xs
    refine ⟨xs, h, ?_⟩
    cases hv with
    | vs _ ad sz cap c hs hz hc hsz hcell hvr =>
      rcases Nat.eq_zero_or_pos xs.length with h0 | h0
      · obtain rfl := List.length_eq_zero_iff.1 h0
        exact elems_nil ⟨_, _, rfl⟩
      refine Elems.of_cells (fun q => c (q / sz) (q % sz)) hs fun sz' i j hi hy hj => ?_
      have hsz' : sz' = sz := by
        rw [← hy, hsz i hi]
      subst hsz'
      have h1 : (i * sz' + j) / sz' = i := by
        rw [Nat.mul_comm, Nat.mul_add_div (by omega), Nat.div_eq_of_lt hj, Nat.add_zero]
      have h2 : (i * sz' + j) % sz' = j := by
        rw [Nat.mul_comm, Nat.mul_add_mod, Nat.mod_eq_of_lt hj]
      simp only [h1, h2]
      exact ⟨hcell i j hi hj, hvr i j hi hj⟩
    | vs0 base cap => exact elems_nil ⟨_, _, rfl⟩
  · refine ⟨[], h, ?_⟩
    cases hv with
    | nils => exact elems_nil ⟨_, _, rfl⟩
  · rename_i s
    refine ⟨s.map u8V, h, ?_⟩
    obtain rfl := hv.str_inv
    refine ⟨by simp [Builtin.lenOf, bytes_size], fun sz n hn hy => ⟨fun q => .int .u8 ((s.getD q 0).toNat : Int), ?_, fun i j hi hj => ?_⟩⟩
    · rcases Nat.eq_zero_or_pos n with h0 | h0
      · subst h0
        simp [Builtin.firstCells]
      · have hsz : sz = 1 := by
          rw [← hy 0 (by omega)]
          rw [List.getD_eq_getElem?_getD, List.getElem?_eq_getElem (by omega)]
          simp [u8V, V.cells]
        subst hsz
        simp only [Builtin.firstCells, Sem.run_pure, Nat.mul_one]
        congr 1
        apply Array.ext'
        simp only [ByteArray.extract, ByteArray.copySlice]
        simp
        apply List.ext_getElem?
        intro q
        simp at hn
        by_cases hq : q < n
        · have : q < s.length := by omega
          simp [hq, this, ByteArray.empty]
        · simp [hq]
          omega
    · have hsz : sz = 1 := by
        rw [← hy i hi]
        rw [List.getD_eq_getElem?_getD, List.getElem?_eq_getElem (by omega)]
        simp [u8V, V.cells]
      subst hsz
      obtain rfl : j = 0 := by omega
      simp at hn
      have : i < s.length := by omega
      simp [List.getD_eq_getElem?_getD, this, u8V, V.cells]
      exact .int _ _
  · rename_i b n i j len cap sz
    split at h
    · rename_i rsz xs opn frz hH
      obtain ⟨hn, h⟩ := h
      obtain ⟨p, rcap, hp, ok, rfl, hle, hcap⟩ := hs_inv hrel hv hH hn
      split at h
      · rename_i hc
        obtain ⟨rfl, rfl⟩ := hc
        obtain ⟨h1, h2⟩ := h
        refine ⟨_, h2, ?_⟩
        have hlen : ((xs.drop i).take len).length = len := by simp; omega
        obtain ⟨c, t, fz, hc, _, h3, h4, _, h5⟩ := ok.row
        have := Elems.of_cells (P := P) (Φ := Φ) (Z := Z) (w := w) (xs := (xs.drop i).take len) (ad := ⟨p.rb, i * rsz + 0, none⟩) (cap := rcap) (fun q => c.getD (i * rsz + q) undef) rfl (fun sz' e j he hy hj => by
          rw [hlen] at he
          have hsz' : sz' = rsz := by
            rw [← hy, getD_take _ _ _ _ he, getD_drop]
            exact ok.csz _ (by omega)
          subst hsz'
          have e1 : i * sz' + (e * sz' + j) = (i + e) * sz' + j := by rw [Nat.add_mul]; omega
          have hin : (i + e) * sz' + j < c.size := by
            have := mul_in (i := i + e) (n := xs.length) (sz := sz') (j := j) (by omega) hj
            omega
          refine ⟨?_, ?_⟩
          · simp only [Nat.add_zero]
            rw [e1]; exact cell_getD hc hin
          · rw [e1, getD_take _ _ _ _ he, getD_drop]
            exact h5 _ _ (by omega) hj)
        rw [hlen] at this
        exact this
      · obtain ⟨rfl, h1, h2, h3, h4⟩ := h
        refine ⟨_, h4, ?_⟩
        have hcs := ok.csz i (by omega)
        have hlen : (((xs.getD i .junk).cells.drop j).take len).length = len := by simp only [List.length_take, List.length_drop]; omega
        obtain ⟨c, t, fz, hc, _, h5, h6, _, h7⟩ := ok.row
        have := Elems.of_cells (P := P) (Φ := Φ) (Z := Z) (w := w) (xs := ((xs.getD i .junk).cells.drop j).take len) (ad := ⟨p.rb, i * rsz + j, none⟩) (cap := rcap) (fun q => c.getD (i * rsz + j + q) undef) rfl (fun sz' e j' he hy hj => by
          rw [hlen] at he
          have hm := getD_mem (l := ((xs.getD i .junk).cells.drop j).take len) (i := e) (by omega)
          have hone := h3 _ hm
          have hsz' : sz' = 1 := by
            rw [← hy, one_cells hone]
            rfl
          subst hsz'
          obtain rfl : j' = 0 := by omega
          have hin : i * rsz + (j + e) < c.size := by
            have := mul_in (i := i) (n := xs.length) (sz := rsz) (j := j + e) (by omega) (by omega)
            omega
          refine ⟨?_, ?_⟩
          · simp only [Nat.mul_one, Nat.add_zero]
            rw [Nat.add_assoc]; exact cell_getD hc hin
          · rw [one_cells hone]
            simp only [Nat.mul_one, Nat.add_zero, List.getD_cons_zero]
            rw [getD_take _ _ _ _ he, getD_drop, Nat.add_assoc]
            exact h7 _ _ (by omega) (by omega))
        rw [hlen] at this
        exact this
    · exact h.elim
  · exact h.elim

/-- Cells stored into a row's block, from a place on: the row may grow, as far as its block goes. -/
theorem Rel.storeRow {b off : Nat} {p : Pl} {sz : Nat} {xs xs' : List V} {opn : Bool} {vs : List Value} (hrel : Rel G B Φ Z H w) (hp : Φ b = some p) (ok : RowOK Φ Z w p sz xs opn false)
    (hoff : off + vs.length ≤ p.re) (h1 : ∀ v ∈ vs, v.oneCell' = true) (hcs : ∀ i, i < xs'.length → (xs'.getD i .junk).cells.length = sz) (hle : xs'.length * sz ≤ p.re) (hge : xs.length ≤ xs'.length) (hop : opn = false → xs'.length = xs.length)
    (hc : ∀ i j, i < xs'.length → j < sz → (off ≤ i * sz + j ∧ i * sz + j < off + vs.length → VR Φ Z w ((xs'.getD i .junk).cells.getD j .junk) (vs.getD (i * sz + j - off) undef)) ∧
      (¬ (off ≤ i * sz + j ∧ i * sz + j < off + vs.length) → i < xs.length ∧ (xs'.getD i .junk).cells.getD j .junk = (xs.getD i .junk).cells.getD j .junk)) :
    ∃ w' p', (storeCells ⟨p.rb, off, none⟩ vs).run P w = .ok () w' ∧ Rel G B (put1 Φ b p') Z (H.set b (.row sz xs' opn false)) w' ∧ Ev B Φ Z w (put1 Φ b p') Z w' ∧ p'.n = xs'.length ∧ p'.rb = p.rb ∧ p'.sz = p.sz ∧ p'.re = p.re := by
  obtain ⟨c, t, fz, hcb, hfz, hsz, hle0, hop0, hcv⟩ := ok.row
  obtain ⟨c', hs', hr, hq⟩ := run_storeCells_of (P := P) vs p.rb off 0 w c t fz hcb hfz (by omega) h1
  have hlt : p.rb < w.heap.size := (Array.getElem?_eq_some_iff.1 hcb).1
  have hn : (⟨p.rb, xs'.length, p.sz, p.re⟩ : Pl) = p ∨ p.n < xs'.length := by
    have := ok.len
    rcases Nat.lt_or_eq_of_le hge with h | h
    · exact .inr (by omega)
    · left; cases p; simp at this ⊢; omega
  have := hrel.write (b := b) (k := .row sz xs' opn false) (p := p) (p' := ⟨p.rb, xs'.length, p.sz, p.re⟩) (w' := setBlk w p.rb (.cells c' t fz)) hp (ok.z.2 rfl) hn (.inl rfl) (setBlk_below (hrel.low b p hp)) (fun r hr _ => setBlk_ne _ _ _ hr) (fun vr => ?_)
  · exact ⟨_, _, hr, this.1, this.2, rfl, rfl, rfl, rfl⟩
  · refine ⟨rfl, ok.size, hcs, ⟨c', t, fz, setBlk_same _ hlt, by rw [hs']; exact hfz, by rw [hs']; exact hsz, hle, fun h => ?_, fun i j hi hj => ?_⟩, ok.z⟩
    · rw [hop h]; exact hop0 h
    · refine vr _ _ ?_
      rw [hq]
      simp only [Nat.add_zero]
      by_cases hin : off ≤ i * sz + j ∧ i * sz + j < off + vs.length
      · rw [if_pos hin]; exact (hc i j hi hj).1 hin
      · rw [if_neg hin]
        obtain ⟨h2, h3⟩ := (hc i j hi hj).2 hin
        rw [h3]
        exact hcv i j h2 hj

end
end Go.MW
