/- Abstract values, abstract rows, and how they stand to the model's values and memory. -/
import Derived.WalkKit
import Derived.Below
import Derived.KernelRfl
namespace Go.MW
open Go Go.RowKit

/-- Abstract values: 'vs' a slice that nothing writes any more, by its elements; 'vp' an address of cells that nothing writes; 'hs', 'ptr', 'map' lead into the abstract heap. -/
inductive V where
  | junk
  | bool (b : Bool)
  | int (k : IntKind) (n : Int)
  | str (s : List UInt8)
  | agg (cs : List V)
  | tup (vs : List V)
  | vs (xs : List V)
  | vp (cs : List V)
  | nils
  | hs (b n i j len : Nat) (cap : Option Nat) (sz : Nat)
  | ptr (b n i j : Nat)
  | nilp
  | map (b : Nat)
  | fn (f : Fn) (first cap : List V)
  | nilf

/-- The cells of a value: those of a struct or an array, else itself. -/
def V.cells : V → List V
  | .agg cs => cs
  | v => [v]

/-- Where a row of the abstract heap lies: its block, how many elements it has, how many cells each, and how many cells the block has. -/
structure Pl where
  rb : Nat
  n : Nat
  sz : Nat
  re : Nat

/-- The capacity of a slice into a row: told, or all that the block has. -/
def capOK (p : Pl) (i j sz rcap : Nat) : Option Nat → Prop
  | some c => rcap = c
  | none => i * p.sz + j + rcap * sz = p.re

inductive VR (Φ : Nat → Option Pl) (Z : Nat → Prop) (w : World) : V → Value → Prop where
  | junk (v : Value) : VR Φ Z w .junk v
  | bool (b : Bool) : VR Φ Z w (.bool b) (.bool b)
  | int (k : IntKind) (n : Int) : VR Φ Z w (.int k n) (.int k n)
  | str (s : List UInt8) : VR Φ Z w (.str s) (.string ⟨s.toArray⟩)
  | agg (cs : List V) (rs : Array Value) (hl : rs.size = cs.length) (h : ∀ i, i < cs.length → VR Φ Z w (cs.getD i .junk) (rs.getD i undef)) : VR Φ Z w (.agg cs) (.agg rs)
  | tup (cs : List V) (rs : Array Value) (hl : rs.size = cs.length) (h : ∀ i, i < cs.length → VR Φ Z w (cs.getD i .junk) (rs.getD i undef)) : VR Φ Z w (.tup cs) (.tuple rs)
  | vs (xs : List V) (a : Addr) (sz cap : Nat) (c : Nat → Nat → Value) (hs : a.spot = none) (hz : Z a.block) (hc : xs.length ≤ cap)
      (hsz : ∀ i, i < xs.length → (xs.getD i .junk).cells.length = sz)
      (hcell : ∀ i j, i < xs.length → j < sz → w.cell? ⟨a.block, a.off + (i * sz + j), none⟩ = some (c i j))
      (h : ∀ i j, i < xs.length → j < sz → VR Φ Z w ((xs.getD i .junk).cells.getD j .junk) (c i j)) : VR Φ Z w (.vs xs) (.slice (some a) xs.length cap)
  | vs0 (base : Addr) (cap : Nat) : VR Φ Z w (.vs []) (.slice (some base) 0 cap)
  | vp (cs : List V) (a : Addr) (c : Nat → Value) (hs : a.spot = none) (hz : Z a.block)
      (hcell : ∀ j, j < cs.length → w.cell? ⟨a.block, a.off + j, none⟩ = some (c j))
      (h : ∀ j, j < cs.length → VR Φ Z w (cs.getD j .junk) (c j)) : VR Φ Z w (.vp cs) (.pointer (some a))
  | nils : VR Φ Z w .nils (.slice none 0 0)
  | hs (b n i j len : Nat) (cap : Option Nat) (sz : Nat) (p : Pl) (base : Option Addr) (rcap : Nat) (hp : Φ b = some p) (hn : n ≤ p.n)
      (hv : p.n = n → base = some ⟨p.rb, i * p.sz + j, none⟩ ∧ len ≤ rcap ∧ capOK p i j sz rcap cap) : VR Φ Z w (.hs b n i j len cap sz) (.slice base len rcap)
  | ptr (b n i j : Nat) (p : Pl) (a : Addr) (hp : Φ b = some p) (hn : n ≤ p.n) (hv : p.n = n → a = ⟨p.rb, i * p.sz + j, none⟩) : VR Φ Z w (.ptr b n i j) (.pointer (some a))
  | nilp : VR Φ Z w .nilp (.pointer none)
  | map (b : Nat) (p : Pl) (r : Nat) (hp : Φ b = some p) (hv : p.n = 0 → r = p.rb) : VR Φ Z w (.map b) (.map (some r))
  | fn (f : Fn) (fs cs : List V) (rf rc : Array Value) (hlf : rf.size = fs.length) (hlc : rc.size = cs.length)
      (hf : ∀ i, i < fs.length → VR Φ Z w (fs.getD i .junk) (rf.getD i undef)) (hc : ∀ i, i < cs.length → VR Φ Z w (cs.getD i .junk) (rc.getD i undef)) : VR Φ Z w (.fn f fs cs) (.func f rf rc)
  | nilf : VR Φ Z w .nilf .nilFunc

/-- A list of values against an array. -/
def VRs (Φ : Nat → Option Pl) (Z : Nat → Prop) (w : World) (vs : List V) (rs : Array Value) : Prop :=
  rs.size = vs.length ∧ ∀ i, i < vs.length → VR Φ Z w (vs.getD i .junk) (rs.getD i undef)

theorem VR.mono {Φ Φ' : Nat → Option Pl} {Z Z' : Nat → Prop} {w w' : World} (hZ : ∀ b, Z b → Z' b) (hw : ∀ b, Z b → w'.heap[b]? = w.heap[b]?)
    (hΦ : ∀ b p, Φ b = some p → ∃ p', Φ' b = some p' ∧ (p' = p ∨ p.n < p'.n)) {v : V} {r : Value} (h : VR Φ Z w v r) : VR Φ' Z' w' v r := by
  have cell : ∀ a : Addr, Z a.block → w'.cell? a = w.cell? a := fun a ha => World.cell?_of_block (w := w) (hw _ ha)
  induction h with
  | junk v => exact .junk v
  | bool b => exact .bool b
  | int k n => exact .int k n
  | str s => exact .str s
  | agg cs rs hl _ ih => exact .agg cs rs hl ih
  | tup cs rs hl _ ih => exact .tup cs rs hl ih
  | vs xs a sz cap c hs hz hc hsz hcell _ ih => exact .vs xs a sz cap c hs (hZ _ hz) hc hsz (fun i j hi hj => by rw [cell ⟨a.block, _, none⟩ hz]; exact hcell i j hi hj) ih
  | vs0 b c => exact .vs0 b c
  | vp cs a c hs hz hcell _ ih => exact .vp cs a c hs (hZ _ hz) (fun j hj => by rw [cell ⟨a.block, _, none⟩ hz]; exact hcell j hj) ih
  | nils => exact .nils
  | hs b n i j len cap sz p base rcap hp hn hv =>
    obtain ⟨p', hp', h | h⟩ := hΦ b p hp
    · subst h; exact .hs _ _ _ _ _ _ _ _ _ _ hp' hn hv
    · exact .hs _ _ _ _ _ _ _ _ _ _ hp' (by omega) (fun e => by omega)
  | ptr b n i j p a hp hn hv =>
    obtain ⟨p', hp', h | h⟩ := hΦ b p hp
    · subst h; exact .ptr _ _ _ _ _ _ hp' hn hv
    · exact .ptr _ _ _ _ _ _ hp' (by omega) (fun e => by omega)
  | nilp => exact .nilp
  | map b p r hp hv =>
    obtain ⟨p', hp', h | h⟩ := hΦ b p hp
    · subst h; exact .map _ _ _ hp' hv
    · exact .map _ _ _ hp' (fun e => by omega)
  | fn f fs cs rf rc hlf hlc _ _ ihf ihc => exact .fn f fs cs rf rc hlf hlc ihf ihc
  | nilf => exact .nilf

/-- Rows and maps of the abstract heap. 'opn': behind the row its block may have room; 'frz': nothing writes it any more. -/
inductive Blk where
  | row (sz : Nat) (xs : List V) (opn frz : Bool)
  | map (es : List (V × V))

structure RowOK (Φ : Nat → Option Pl) (Z : Nat → Prop) (w : World) (p : Pl) (sz : Nat) (xs : List V) (opn frz : Bool) : Prop where
  len : p.n = xs.length
  size : p.sz = sz
  csz : ∀ i, i < xs.length → (xs.getD i .junk).cells.length = sz
  row : ∃ (c : Array Value) (e : TypeId) (fz : Nat × Nat), w.heap[p.rb]? = some (.cells c e fz) ∧ (fz.2 ≤ fz.1 ∨ c.size ≤ fz.1) ∧ c.size = p.re ∧ xs.length * sz ≤ p.re ∧ (opn = false → p.re = xs.length * sz) ∧
    ∀ i j, i < xs.length → j < sz → VR Φ Z w ((xs.getD i .junk).cells.getD j .junk) (c.getD (i * sz + j) undef)
  z : (frz = true → Z p.rb) ∧ (frz = false → ¬ Z p.rb)

structure MapOK (Φ : Nat → Option Pl) (Z : Nat → Prop) (w : World) (p : Pl) (es : List (V × V)) : Prop where
  len : p.n = 0
  row : ∃ (re : Array MapEntry) (clock : Nat), w.heap[p.rb]? = some (.map re clock) ∧ re.size = es.length ∧
    ∀ i, i < es.length → VR Φ Z w (es.getD i (.junk, .junk)).1 (re.getD i default).key ∧ VR Φ Z w (es.getD i (.junk, .junk)).2 (re.getD i default).val
  z : ¬ Z p.rb

def BlkOK (Φ : Nat → Option Pl) (Z : Nat → Prop) (w : World) (p : Pl) : Blk → Prop
  | .row sz xs opn frz => RowOK Φ Z w p sz xs opn frz
  | .map es => MapOK Φ Z w p es

/-- Package-level variables that are read alone. -/
def GlobOK (G : Nat → Option (List V)) (Z : Nat → Prop) (w : World) : Prop :=
  ∀ g cs, G g = some cs → Z g ∧ ∃ c : Nat → Value, (∀ j, j < cs.length → w.cell? ⟨g, j, none⟩ = some (c j)) ∧ ∀ j, j < cs.length → VR (fun _ => none) Z w (cs.getD j .junk) (c j)

/-- The abstract heap against the world; B: the heap's size when the call began. -/
structure Rel (G : Nat → Option (List V)) (B : Nat) (Φ : Nat → Option Pl) (Z : Nat → Prop) (H : List Blk) (w : World) : Prop where
  blk : ∀ b p, Φ b = some p → ∃ k, H[b]? = some k ∧ BlkOK Φ Z w p k
  inj : ∀ b b' p p', Φ b = some p → Φ b' = some p' → p.rb = p'.rb → b = b'
  low : ∀ b p, Φ b = some p → B ≤ p.rb
  zin : ∀ r, Z r → r < w.heap.size
  size : B ≤ w.heap.size
  glob : GlobOK G Z w

/-- How relation and world may go on. -/
structure Ev (B : Nat) (Φ : Nat → Option Pl) (Z : Nat → Prop) (w : World) (Φ' : Nat → Option Pl) (Z' : Nat → Prop) (w' : World) : Prop where
  z : ∀ b, Z b → Z' b
  zw : ∀ b, Z b → w'.heap[b]? = w.heap[b]?
  phi : ∀ b p, Φ b = some p → ∃ p', Φ' b = some p' ∧ (p' = p ∨ p.n < p'.n)
  below : Below B w w'
  znew : ∀ r, Z' r → r < w.heap.size → Z r ∨ B ≤ r

theorem Ev.refl (B : Nat) (Φ : Nat → Option Pl) (Z : Nat → Prop) (w : World) : Ev B Φ Z w Φ Z w :=
  ⟨fun _ h => h, fun _ _ => rfl, fun _ p h => ⟨p, h, .inl rfl⟩, Below.refl _ _, fun _ h _ => .inl h⟩

theorem Ev.trans {B : Nat} {Φ Φ' Φ'' : Nat → Option Pl} {Z Z' Z'' : Nat → Prop} {w w' w'' : World} (h : Ev B Φ Z w Φ' Z' w') (k : Ev B Φ' Z' w' Φ'' Z'' w'') : Ev B Φ Z w Φ'' Z'' w'' where
  z := fun b hb => k.z b (h.z b hb)
  zw := fun b hb => (k.zw b (h.z b hb)).trans (h.zw b hb)
  phi := fun b p hp => by
    obtain ⟨p', hp', e⟩ := h.phi b p hp
    obtain ⟨p'', hp'', e'⟩ := k.phi b p' hp'
    refine ⟨p'', hp'', ?_⟩
    rcases e with rfl | e <;> rcases e' with rfl | e'
    · exact .inl rfl
    · exact .inr e'
    · exact .inr e
    · exact .inr (by omega)
  below := h.below.trans k.below
  znew := fun r hr hlt => by
    rcases k.znew r hr (Nat.lt_of_lt_of_le hlt h.below.size) with h' | h'
    · exact h.znew r h' hlt
    · exact .inr h'

theorem VR.ev {B : Nat} {Φ Φ' : Nat → Option Pl} {Z Z' : Nat → Prop} {w w' : World} (e : Ev B Φ Z w Φ' Z' w') {v : V} {r : Value} (h : VR Φ Z w v r) : VR Φ' Z' w' v r :=
  h.mono e.z e.zw e.phi

theorem VRs.ev {B : Nat} {Φ Φ' : Nat → Option Pl} {Z Z' : Nat → Prop} {w w' : World} (e : Ev B Φ Z w Φ' Z' w') {v : List V} {r : Array Value} (h : VRs Φ Z w v r) : VRs Φ' Z' w' v r :=
  ⟨h.1, fun i hi => (h.2 i hi).ev e⟩

/-- A draw turns nothing. -/
theorem Ev.drew (B : Nat) (Φ : Nat → Option Pl) (Z : Nat → Prop) (w : World) : Ev B Φ Z w Φ Z w.drew :=
  ⟨fun _ h => h, fun _ _ => rfl, fun _ p h => ⟨p, h, .inl rfl⟩, (Below.refl _ _).drew, fun _ h _ => .inl h⟩

/-- With the world's blocks as they were, the relation stays. -/
theorem Rel.heap {G : Nat → Option (List V)} {B : Nat} {Φ : Nat → Option Pl} {Z : Nat → Prop} {H : List Blk} {w w' : World} (h : Rel G B Φ Z H w) (e : w'.heap = w.heap) : Rel G B Φ Z H w' := by
  have vr : ∀ {v r}, VR Φ Z w v r → VR Φ Z w' v r := fun hv => hv.mono (fun _ h => h) (fun _ _ => by rw [e]) (fun b p hp => ⟨p, hp, .inl rfl⟩)
  refine ⟨fun b p hp => ?_, h.inj, h.low, fun r hr => by rw [e]; exact h.zin r hr, by rw [e]; exact h.size, fun g cs hg => ?_⟩
  · obtain ⟨k, hk, ok⟩ := h.blk b p hp
    refine ⟨k, hk, ?_⟩
    cases k with
    | row sz xs opn frz =>
      obtain ⟨n, s, cs, ⟨c, t, fz, hc, h0, h1, h2, h3, h4⟩, z⟩ := ok
      exact ⟨n, s, cs, ⟨c, t, fz, by rw [e]; exact hc, h0, h1, h2, h3, fun i j hi hj => vr (h4 i j hi hj)⟩, z⟩
    | map es =>
      obtain ⟨n, ⟨c, t, hc, h1, h2⟩, z⟩ := ok
      exact ⟨n, ⟨c, t, by rw [e]; exact hc, h1, fun i hi => ⟨vr (h2 i hi).1, vr (h2 i hi).2⟩⟩, z⟩
  · obtain ⟨hz, c, h1, h2⟩ := h.glob g cs hg
    refine ⟨hz, c, fun j hj => ?_, fun j hj => (h2 j hj).mono (fun _ h => h) (fun _ _ => by rw [e]) (fun b p hp => by cases hp)⟩
    rw [show w'.cell? ⟨g, j, none⟩ = w.cell? ⟨g, j, none⟩ from World.cell?_of_block (w := w) (by rw [e])]
    exact h1 j hj

end Go.MW
