/- How the relation between abstract heap and world goes on where a block is made, or written. -/
import Derived.Test.YtphbhoggcddgmaaDoorMwSem
namespace Go.MW
open Go Go.RowKit

theorem BlkOK.mono {Φ Φ' : Nat → Option Pl} {Z : Nat → Prop} {w w' : World} {p : Pl} {k : Blk} (h : BlkOK Φ Z w p k) (hb : w'.heap[p.rb]? = w.heap[p.rb]?)
    (vr : ∀ v r, VR Φ Z w v r → VR Φ' Z w' v r) : BlkOK Φ' Z w' p k := by
  cases k with
  | row sz xs opn frz =>
    obtain ⟨n, s, cs, ⟨c, t, fz, hc, h0, h1, h2, h3, h4⟩, z⟩ := h
    exact ⟨n, s, cs, ⟨c, t, fz, by rw [hb]; exact hc, h0, h1, h2, h3, fun i j hi hj => vr _ _ (h4 i j hi hj)⟩, z⟩
  | map es =>
    obtain ⟨n, ⟨c, t, hc, h1, h2⟩, z⟩ := h
    exact ⟨n, ⟨c, t, by rw [hb]; exact hc, h1, fun i hi => ⟨vr _ _ (h2 i hi).1, vr _ _ (h2 i hi).2⟩⟩, z⟩

theorem BlkOK.lt {Φ : Nat → Option Pl} {Z : Nat → Prop} {w : World} {p : Pl} {k : Blk} (h : BlkOK Φ Z w p k) : p.rb < w.heap.size := by
  cases k with
  | row sz xs opn frz =>
    obtain ⟨n, s, cs, ⟨c, t, fz, hc, _⟩, z⟩ := h
    exact (Array.getElem?_eq_some_iff.1 hc).1
  | map es =>
    obtain ⟨n, ⟨c, t, hc, _⟩, z⟩ := h
    exact (Array.getElem?_eq_some_iff.1 hc).1

theorem GlobOK.mono {G : Nat → Option (List V)} {Z Z' : Nat → Prop} {w w' : World} (h : GlobOK G Z w) (hz : ∀ r, Z r → Z' r) (hw : ∀ r, Z r → w'.heap[r]? = w.heap[r]?) : GlobOK G Z' w' := by
  intro g cs hg
  obtain ⟨hzg, c, h1, h2⟩ := h g cs hg
  refine ⟨hz _ hzg, c, fun j hj => ?_, fun j hj => (h2 j hj).mono hz hw (fun b p hp => by cases hp)⟩
  rw [show w'.cell? ⟨g, j, none⟩ = w.cell? ⟨g, j, none⟩ from World.cell?_of_block (w := w) (hw _ hzg)]
  exact h1 j hj

/-- One place more, or another one. -/
def put1 (Φ : Nat → Option Pl) (b : Nat) (p : Pl) : Nat → Option Pl := fun x => if x = b then some p else Φ x

theorem put1_same (Φ : Nat → Option Pl) (b : Nat) (p : Pl) : put1 Φ b p b = some p := by simp [put1]
theorem put1_ne {Φ : Nat → Option Pl} {b x : Nat} {p : Pl} (h : x ≠ b) : put1 Φ b p x = Φ x := by simp [put1, h]

section
variable {G : Nat → Option (List V)} {B : Nat} {Φ : Nat → Option Pl} {Z : Nat → Prop} {H : List Blk} {w : World}

/-- Blocks that nothing leads to may stand behind. -/
theorem Rel.extend (h : Rel G B Φ Z H w) (T : List Blk) : Rel G B Φ Z (H ++ T) w := by
  refine ⟨fun b p hp => ?_, h.inj, h.low, h.zin, h.size, h.glob⟩
  obtain ⟨k, hk, ok⟩ := h.blk b p hp
  refine ⟨k, ?_, ok⟩
  rw [List.getElem?_append_left (List.getElem?_eq_some_iff.1 hk).1]
  exact hk

/-- A new block. -/
theorem Rel.make {b : Nat} {k : Blk} {p : Pl} (o : Obj) (h : Rel G B Φ Z H w) (hb : Φ b = none) (hH : H[b]? = some k) (hp : p.rb = w.heap.size)
    (hk : ∀ w' : World, w' = w.alloc o → (∀ v r, VR Φ Z w v r → VR (put1 Φ b p) Z w' v r) → BlkOK (put1 Φ b p) Z w' p k) :
    Rel G B (put1 Φ b p) Z H (w.alloc o) ∧ Ev B Φ Z w (put1 Φ b p) Z (w.alloc o) := by
  have hev : Ev B Φ Z w (put1 Φ b p) Z (w.alloc o) := by
    refine ⟨fun _ h => h, fun r hr => Below.heap_alloc w o r (h.zin r hr), fun c q hq => ?_, (Below.refl _ _).alloc h.size o, fun _ h _ => .inl h⟩
    refine ⟨q, ?_, .inl rfl⟩
    rw [put1_ne (by rintro rfl; rw [hb] at hq; cases hq)]
    exact hq
  refine ⟨⟨fun c q hq => ?_, fun c c' q q' hq hq' e => ?_, fun c q hq => ?_, fun r hr => ?_, ?_, ?_⟩, hev⟩
  · by_cases hc : c = b
    · subst hc
      rw [put1_same] at hq
      obtain rfl := Option.some.inj hq
      exact ⟨k, hH, hk _ rfl fun v r hv => hv.ev hev⟩
    · rw [put1_ne hc] at hq
      obtain ⟨k', hk', ok⟩ := h.blk c q hq
      exact ⟨k', hk', ok.mono (Below.heap_alloc w o _ ok.lt) (fun v r hv => hv.ev hev)⟩
  · by_cases hc : c = b <;> by_cases hc' : c' = b
    · rw [hc, hc']
    · subst hc
      rw [put1_same] at hq; obtain rfl := Option.some.inj hq
      rw [put1_ne hc'] at hq'
      obtain ⟨k', _, ok⟩ := h.blk c' q' hq'
      have := ok.lt
      omega
    · subst hc'
      rw [put1_same] at hq'; obtain rfl := Option.some.inj hq'
      rw [put1_ne hc] at hq
      obtain ⟨k', _, ok⟩ := h.blk c q hq
      have := ok.lt
      omega
    · rw [put1_ne hc] at hq; rw [put1_ne hc'] at hq'
      exact h.inj c c' q q' hq hq' e
  · by_cases hc : c = b
    · subst hc; rw [put1_same] at hq; obtain rfl := Option.some.inj hq
      rw [hp]; exact h.size
    · rw [put1_ne hc] at hq; exact h.low c q hq
  · have := h.zin r hr; show r < (w.heap.push o).size; rw [Array.size_push]; omega
  · have := h.size; show B ≤ (w.heap.push o).size; rw [Array.size_push]; omega
  · exact h.glob.mono (fun _ h => h) (fun r hr => Below.heap_alloc w o r (h.zin r hr))

/-- A block written: the world turns at that block alone. -/
theorem Rel.write {b : Nat} {k : Blk} {p p' : Pl} {w' : World} (h : Rel G B Φ Z H w) (hb : Φ b = some p) (hz : ¬ Z p.rb) (hn : p' = p ∨ p.n < p'.n) (hrb : p'.rb = p.rb ∨ w.heap.size ≤ p'.rb)
    (hbel : Below B w w') (hw : ∀ r, r ≠ p.rb → r < w.heap.size → w'.heap[r]? = w.heap[r]?)
    (hk : (∀ v r, VR Φ Z w v r → VR (put1 Φ b p') Z w' v r) → BlkOK (put1 Φ b p') Z w' p' k) :
    Rel G B (put1 Φ b p') Z (H.set b k) w' ∧ Ev B Φ Z w (put1 Φ b p') Z w' := by
  have hZ : ∀ r, Z r → w'.heap[r]? = w.heap[r]? := fun r hr => hw r (by rintro rfl; exact hz hr) (h.zin r hr)
  have hev : Ev B Φ Z w (put1 Φ b p') Z w' := by
    refine ⟨fun _ h => h, hZ, fun c q hq => ?_, hbel, fun _ h _ => .inl h⟩
    by_cases hc : c = b
    · subst hc
      rw [hb] at hq; obtain rfl := Option.some.inj hq
      exact ⟨p', put1_same _ _ _, hn⟩
    · exact ⟨q, by rw [put1_ne hc]; exact hq, .inl rfl⟩
  obtain ⟨k0, hk0, ok0⟩ := h.blk b p hb
  have hlt := (List.getElem?_eq_some_iff.1 hk0).1
  refine ⟨⟨fun c q hq => ?_, fun c c' q q' hq hq' e => ?_, fun c q hq => ?_, fun r hr => ?_, ?_, ?_⟩, hev⟩
  · by_cases hc : c = b
    · subst hc
      rw [put1_same] at hq
      obtain rfl := Option.some.inj hq
      exact ⟨k, by rw [List.getElem?_set_self hlt], hk fun v r hv => hv.ev hev⟩
    · rw [put1_ne hc] at hq
      obtain ⟨k', hk', ok⟩ := h.blk c q hq
      refine ⟨k', by rw [List.getElem?_set_ne (Ne.symm hc)]; exact hk', ok.mono (hw _ ?_ ok.lt) (fun v r hv => hv.ev hev)⟩
      intro e; exact hc (h.inj c b q p hq hb e)
  · by_cases hc : c = b <;> by_cases hc' : c' = b
    · rw [hc, hc']
    · subst hc
      rw [put1_same] at hq; obtain rfl := Option.some.inj hq
      rw [put1_ne hc'] at hq'
      rcases hrb with hrb | hrb
      · exact h.inj _ _ _ _ hb hq' (by omega)
      · obtain ⟨k', _, ok⟩ := h.blk c' q' hq'
        have := ok.lt
        omega
    · subst hc'
      rw [put1_same] at hq'; obtain rfl := Option.some.inj hq'
      rw [put1_ne hc] at hq
      rcases hrb with hrb | hrb
      · exact h.inj _ _ _ _ hq hb (by omega)
      · obtain ⟨k', _, ok⟩ := h.blk c q hq
        have := ok.lt
        omega
    · rw [put1_ne hc] at hq; rw [put1_ne hc'] at hq'
      exact h.inj c c' q q' hq hq' e
  · by_cases hc : c = b
    · subst hc; rw [put1_same] at hq; obtain rfl := Option.some.inj hq
      rcases hrb with hrb | hrb
      · rw [hrb]; exact h.low c p hb
      · have := h.size; omega
    · rw [put1_ne hc] at hq; exact h.low c q hq
  · have := h.zin r hr; have := hbel.size; omega
  · have := h.size; have := hbel.size; omega
  · exact h.glob.mono (fun _ h => h) hZ

/-- What a slice into a row, or an address in it, leads to. -/
theorem Rel.row {b : Nat} {p : Pl} {sz : Nat} {xs : List V} {opn frz : Bool} (h : Rel G B Φ Z H w) (hp : Φ b = some p) (hH : getB H b = .row sz xs opn frz) : RowOK Φ Z w p sz xs opn frz := by
  obtain ⟨k, hk, ok⟩ := h.blk b p hp
  have : getB H b = k := by simp [getB, List.getD, hk]
  rw [this] at hH
  subst hH
  exact ok

theorem Rel.mapb {b : Nat} {p : Pl} {es : List (V × V)} (h : Rel G B Φ Z H w) (hp : Φ b = some p) (hH : getB H b = .map es) : MapOK Φ Z w p es := by
  obtain ⟨k, hk, ok⟩ := h.blk b p hp
  have : getB H b = k := by simp [getB, List.getD, hk]
  rw [this] at hH
  subst hH
  exact ok

end
end Go.MW
