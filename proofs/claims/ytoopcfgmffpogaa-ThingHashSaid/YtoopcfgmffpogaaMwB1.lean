import Derived.WalkKit
import Derived.Below
import Derived.KernelRfl
/- Abstract values, abstract rows, and how they stand to the model's values and memory. -/
namespace Go.MW
open Go Go.RowKit

/-- Abstract values: 'vs' a slice that nothing writes any more, by its elements; 'vp' an address of cells that nothing writes; 'hs', 'ptr', 'map' lead into the abstract heap. -/
inductive V where
  | junk
  | bool (b : Bool)
  | int (k : IntKind) (n : Int)
  | str (s : List UInt8)
  | agg (cs : List V)
  | tup (vs : List V)
  | vs (xs : List V)
  | vp (cs : List V)
  | nils
  | hs (b n i j len : Nat) (cap : Option Nat) (sz : Nat)
  | ptr (b n i j : Nat)
  | nilp
  | map (b : Nat)
  | fn (f : Fn) (first cap : List V)
  | nilf

/-- The cells of a value: those of a struct or an array, else itself. -/
def V.cells : V → List V
  | .agg cs => cs
  | v => [v]

/-- Where a row of the abstract heap lies: its block, how many elements it has, how many cells each, and how many cells the block has. -/
structure Pl where
  rb : Nat
  n : Nat
  sz : Nat
  re : Nat

/-- The capacity of a slice into a row: told, or all that the block has. -/
def capOK (p : Pl) (i j sz rcap : Nat) : Option Nat → Prop
  | some c => rcap = c
  | none => i * p.sz + j + rcap * sz = p.re

inductive VR (Φ : Nat → Option Pl) (Z : Nat → Prop) (w : World) : V → Value → Prop where
  | junk (v : Value) : VR Φ Z w .junk v
  | bool (b : Bool) : VR Φ Z w (.bool b) (.bool b)
  | int (k : IntKind) (n : Int) : VR Φ Z w (.int k n) (.int k n)
  | str (s : List UInt8) : VR Φ Z w (.str s) (.string ⟨s.toArray⟩)
  | agg (cs : List V) (rs : Array Value) (hl : rs.size = cs.length) (h : ∀ i, i < cs.length → VR Φ Z w (cs.getD i .junk) (rs.getD i undef)) : VR Φ Z w (.agg cs) (.agg rs)
  | tup (cs : List V) (rs : Array Value) (hl : rs.size = cs.length) (h : ∀ i, i < cs.length → VR Φ Z w (cs.getD i .junk) (rs.getD i undef)) : VR Φ Z w (.tup cs) (.tuple rs)
  | vs (xs : List V) (a : Addr) (sz cap : Nat) (c : Nat → Nat → Value) (hs : a.spot = none) (hz : Z a.block) (hc : xs.length ≤ cap)
      (hsz : ∀ i, i < xs.length → (xs.getD i .junk).cells.length = sz)
      (hcell : ∀ i j, i < xs.length → j < sz → w.cell? ⟨a.block, a.off + (i * sz + j), none⟩ = some (c i j))
      (h : ∀ i j, i < xs.length → j < sz → VR Φ Z w ((xs.getD i .junk).cells.getD j .junk) (c i j)) : VR Φ Z w (.vs xs) (.slice (some a) xs.length cap)
  | vs0 (base : Addr) (cap : Nat) : VR Φ Z w (.vs []) (.slice (some base) 0 cap)
  | vp (cs : List V) (a : Addr) (c : Nat → Value) (hs : a.spot = none) (hz : Z a.block)
      (hcell : ∀ j, j < cs.length → w.cell? ⟨a.block, a.off + j, none⟩ = some (c j))
      (h : ∀ j, j < cs.length → VR Φ Z w (cs.getD j .junk) (c j)) : VR Φ Z w (.vp cs) (.pointer (some a))
  | nils : VR Φ Z w .nils (.slice none 0 0)
  | hs (b n i j len : Nat) (cap : Option Nat) (sz : Nat) (p : Pl) (base : Option Addr) (rcap : Nat) (hp : Φ b = some p) (hn : n ≤ p.n)
      (hv : p.n = n → base = some ⟨p.rb, i * p.sz + j, none⟩ ∧ len ≤ rcap ∧ capOK p i j sz rcap cap) : VR Φ Z w (.hs b n i j len cap sz) (.slice base len rcap)
  | ptr (b n i j : Nat) (p : Pl) (a : Addr) (hp : Φ b = some p) (hn : n ≤ p.n) (hv : p.n = n → a = ⟨p.rb, i * p.sz + j, none⟩) : VR Φ Z w (.ptr b n i j) (.pointer (some a))
  | nilp : VR Φ Z w .nilp (.pointer none)
  | map (b : Nat) (p : Pl) (r : Nat) (hp : Φ b = some p) (hv : p.n = 0 → r = p.rb) : VR Φ Z w (.map b) (.map (some r))
  | fn (f : Fn) (fs cs : List V) (rf rc : Array Value) (hlf : rf.size = fs.length) (hlc : rc.size = cs.length)
      (hf : ∀ i, i < fs.length → VR Φ Z w (fs.getD i .junk) (rf.getD i undef)) (hc : ∀ i, i < cs.length → VR Φ Z w (cs.getD i .junk) (rc.getD i undef)) : VR Φ Z w (.fn f fs cs) (.func f rf rc)
  | nilf : VR Φ Z w .nilf .nilFunc

/-- A list of values against an array. -/
def VRs (Φ : Nat → Option Pl) (Z : Nat → Prop) (w : World) (vs : List V) (rs : Array Value) : Prop :=
  rs.size = vs.length ∧ ∀ i, i < vs.length → VR Φ Z w (vs.getD i .junk) (rs.getD i undef)

theorem VR.mono {Φ Φ' : Nat → Option Pl} {Z Z' : Nat → Prop} {w w' : World} (hZ : ∀ b, Z b → Z' b) (hw : ∀ b, Z b → w'.heap[b]? = w.heap[b]?)
    (hΦ : ∀ b p, Φ b = some p → ∃ p', Φ' b = some p' ∧ (p' = p ∨ p.n < p'.n)) {v : V} {r : Value} (h : VR Φ Z w v r) : VR Φ' Z' w' v r := by
  have cell : ∀ a : Addr, Z a.block → w'.cell? a = w.cell? a := fun a ha => World.cell?_of_block (w := w) (hw _ ha)
  induction h with
  | junk v => exact .junk v
  | bool b => exact .bool b
  | int k n => exact .int k n
  | str s => exact .str s
  | agg cs rs hl _ ih => exact .agg cs rs hl ih
  | tup cs rs hl _ ih => exact .tup cs rs hl ih
  | vs xs a sz cap c hs hz hc hsz hcell _ ih => exact .vs xs a sz cap c hs (hZ _ hz) hc hsz (fun i j hi hj => by rw [cell ⟨a.block, _, none⟩ hz]; exact hcell i j hi hj) ih
  | vs0 b c => exact .vs0 b c
  | vp cs a c hs hz hcell _ ih => exact .vp cs a c hs (hZ _ hz) (fun j hj => by rw [cell ⟨a.block, _, none⟩ hz]; exact hcell j hj) ih
  | nils => exact .nils
  | hs b n i j len cap sz p base rcap hp hn hv =>
    obtain ⟨p', hp', h | h⟩ := hΦ b p hp
    · subst h; exact .hs _ _ _ _ _ _ _ _ _ _ hp' hn hv
    · exact .hs _ _ _ _ _ _ _ _ _ _ hp' (by omega) (fun e => by omega)
  | ptr b n i j p a hp hn hv =>
    obtain ⟨p', hp', h | h⟩ := hΦ b p hp
    · subst h; exact .ptr _ _ _ _ _ _ hp' hn hv
    · exact .ptr _ _ _ _ _ _ hp' (by omega) (fun e => by omega)
  | nilp => exact .nilp
  | map b p r hp hv =>
    obtain ⟨p', hp', h | h⟩ := hΦ b p hp
    · subst h; exact .map _ _ _ hp' hv
    · exact .map _ _ _ hp' (fun e => by omega)
  | fn f fs cs rf rc hlf hlc _ _ ihf ihc => exact .fn f fs cs rf rc hlf hlc ihf ihc
  | nilf => exact .nilf

/-- Rows, maps (each entry with the number of its birth) and iterators of the abstract heap. 'opn': behind the row its block may have room; 'frz': nothing writes it any more. -/
inductive Blk where
  | row (sz : Nat) (xs : List V) (opn frz : Bool)
  | map (es : List (Nat × V × V)) (clk : Nat)
  | iter (m since : Nat) (seen : List Nat) (last : Nat)

structure RowOK (Φ : Nat → Option Pl) (Z : Nat → Prop) (w : World) (p : Pl) (sz : Nat) (xs : List V) (opn frz : Bool) : Prop where
  len : p.n = xs.length
  size : p.sz = sz
  csz : ∀ i, i < xs.length → (xs.getD i .junk).cells.length = sz
  row : ∃ (c : Array Value) (e : TypeId) (fz : Nat × Nat), w.heap[p.rb]? = some (.cells c e fz) ∧ (fz.2 ≤ fz.1 ∨ c.size ≤ fz.1) ∧ c.size = p.re ∧ xs.length * sz ≤ p.re ∧ (opn = false → p.re = xs.length * sz) ∧
    ∀ i j, i < xs.length → j < sz → VR Φ Z w ((xs.getD i .junk).cells.getD j .junk) (c.getD (i * sz + j) undef)
  z : (frz = true → Z p.rb) ∧ (frz = false → ¬ Z p.rb)

structure MapOK (Φ : Nat → Option Pl) (Z : Nat → Prop) (w : World) (p : Pl) (es : List (Nat × V × V)) (clk : Nat) : Prop where
  len : p.n = 0
  row : ∃ (re : Array MapEntry), w.heap[p.rb]? = some (.map re clk) ∧ re.size = es.length ∧
    ∀ i, i < es.length → (re.getD i default).born = (es.getD i (0, .junk, .junk)).1 ∧ VR Φ Z w (es.getD i (0, .junk, .junk)).2.1 (re.getD i default).key ∧ VR Φ Z w (es.getD i (0, .junk, .junk)).2.2 (re.getD i default).val
  z : ¬ Z p.rb

structure IterOK (Φ : Nat → Option Pl) (Z : Nat → Prop) (w : World) (p : Pl) (m since : Nat) (seen : List Nat) (last : Nat) : Prop where
  len : p.n = 0
  row : ∃ r, VR Φ Z w (.map m) (.map (some r)) ∧ w.heap[p.rb]? = some (.mapIter (some r) since seen.toArray last)
  z : ¬ Z p.rb

def BlkOK (Φ : Nat → Option Pl) (Z : Nat → Prop) (w : World) (p : Pl) : Blk → Prop
  | .row sz xs opn frz => RowOK Φ Z w p sz xs opn frz
  | .map es clk => MapOK Φ Z w p es clk
  | .iter m s sn l => IterOK Φ Z w p m s sn l

/-- Package-level variables that are read alone. -/
def GlobOK (G : Nat → Option (List V)) (Z : Nat → Prop) (w : World) : Prop :=
  ∀ g cs, G g = some cs → Z g ∧ ∃ c : Nat → Value, (∀ j, j < cs.length → w.cell? ⟨g, j, none⟩ = some (c j)) ∧ ∀ j, j < cs.length → VR (fun _ => none) Z w (cs.getD j .junk) (c j)

/-- Bounds: the heap's size when the call began; blocks of the abstract heap that are not made yet. -/
structure Bd where
  w : Nat
  pd : Nat → Option Blk
instance : Coe Bd Nat := ⟨Bd.w⟩

/-- The abstract heap against the world. -/
structure Rel (G : Nat → Option (List V)) (B : Bd) (Φ : Nat → Option Pl) (Z : Nat → Prop) (H : List Blk) (w : World) : Prop where
  blk : ∀ b p, Φ b = some p → ∃ k, H[b]? = some k ∧ BlkOK Φ Z w p k
  inj : ∀ b b' p p', Φ b = some p → Φ b' = some p' → p.rb = p'.rb → b = b'
  low : ∀ b p, Φ b = some p → B.w ≤ p.rb
  zin : ∀ r, Z r → r < w.heap.size
  size : B.w ≤ w.heap.size
  glob : GlobOK G Z w
  pend : ∀ b k, B.pd b = some k → H[b]? = some k ∧ Φ b = none

/-- How relation and world may go on. -/
structure Ev (B : Nat) (Φ : Nat → Option Pl) (Z : Nat → Prop) (w : World) (Φ' : Nat → Option Pl) (Z' : Nat → Prop) (w' : World) : Prop where
  z : ∀ b, Z b → Z' b
  zw : ∀ b, Z b → w'.heap[b]? = w.heap[b]?
  phi : ∀ b p, Φ b = some p → ∃ p', Φ' b = some p' ∧ (p' = p ∨ p.n < p'.n)
  below : Below B w w'
  znew : ∀ r, Z' r → r < w.heap.size → Z r ∨ B ≤ r

theorem Ev.refl (B : Nat) (Φ : Nat → Option Pl) (Z : Nat → Prop) (w : World) : Ev B Φ Z w Φ Z w :=
  ⟨fun _ h => h, fun _ _ => rfl, fun _ p h => ⟨p, h, .inl rfl⟩, Below.refl _ _, fun _ h _ => .inl h⟩

theorem Ev.trans {B : Nat} {Φ Φ' Φ'' : Nat → Option Pl} {Z Z' Z'' : Nat → Prop} {w w' w'' : World} (h : Ev B Φ Z w Φ' Z' w') (k : Ev B Φ' Z' w' Φ'' Z'' w'') : Ev B Φ Z w Φ'' Z'' w'' where
  z := fun b hb => k.z b (h.z b hb)
  zw := fun b hb => (k.zw b (h.z b hb)).trans (h.zw b hb)
  phi := fun b p hp => by
    obtain ⟨p', hp', e⟩ := h.phi b p hp
    obtain ⟨p'', hp'', e'⟩ := k.phi b p' hp'
    refine ⟨p'', hp'', ?_⟩
    rcases e with rfl | e <;> rcases e' with rfl | e'
    · exact .inl rfl
    · exact .inr e'
    · exact .inr e
    · exact .inr (by omega)
  below := h.below.trans k.below
  znew := fun r hr hlt => by
    rcases k.znew r hr (Nat.lt_of_lt_of_le hlt h.below.size) with h' | h'
    · exact h.znew r h' hlt
    · exact .inr h'

theorem VR.ev {B : Nat} {Φ Φ' : Nat → Option Pl} {Z Z' : Nat → Prop} {w w' : World} (e : Ev B Φ Z w Φ' Z' w') {v : V} {r : Value} (h : VR Φ Z w v r) : VR Φ' Z' w' v r :=
  h.mono e.z e.zw e.phi

theorem VRs.ev {B : Nat} {Φ Φ' : Nat → Option Pl} {Z Z' : Nat → Prop} {w w' : World} (e : Ev B Φ Z w Φ' Z' w') {v : List V} {r : Array Value} (h : VRs Φ Z w v r) : VRs Φ' Z' w' v r :=
  ⟨h.1, fun i hi => (h.2 i hi).ev e⟩

/-- A draw turns nothing. -/
theorem Ev.drew (B : Nat) (Φ : Nat → Option Pl) (Z : Nat → Prop) (w : World) : Ev B Φ Z w Φ Z w.drew :=
  ⟨fun _ h => h, fun _ _ => rfl, fun _ p h => ⟨p, h, .inl rfl⟩, (Below.refl _ _).drew, fun _ h _ => .inl h⟩

/-- With the world's blocks as they were, the relation stays. -/
theorem Rel.heap {G : Nat → Option (List V)} {B : Bd} {Φ : Nat → Option Pl} {Z : Nat → Prop} {H : List Blk} {w w' : World} (h : Rel G B Φ Z H w) (e : w'.heap = w.heap) : Rel G B Φ Z H w' := by
  have vr : ∀ {v r}, VR Φ Z w v r → VR Φ Z w' v r := fun hv => hv.mono (fun _ h => h) (fun _ _ => by rw [e]) (fun b p hp => ⟨p, hp, .inl rfl⟩)
  refine ⟨fun b p hp => ?_, h.inj, h.low, fun r hr => by rw [e]; exact h.zin r hr, by rw [e]; exact h.size, fun g cs hg => ?_, h.pend⟩
  · obtain ⟨k, hk, ok⟩ := h.blk b p hp
    refine ⟨k, hk, ?_⟩
    cases k with
    | row sz xs opn frz =>
      obtain ⟨n, s, cs, ⟨c, t, fz, hc, h0, h1, h2, h3, h4⟩, z⟩ := ok
      exact ⟨n, s, cs, ⟨c, t, fz, by rw [e]; exact hc, h0, h1, h2, h3, fun i j hi hj => vr (h4 i j hi hj)⟩, z⟩
    | map es clk =>
      obtain ⟨n, ⟨c, hc, h1, h2⟩, z⟩ := ok
      exact ⟨n, ⟨c, by rw [e]; exact hc, h1, fun i hi => ⟨(h2 i hi).1, vr (h2 i hi).2.1, vr (h2 i hi).2.2⟩⟩, z⟩
    | iter m s sn l =>
      obtain ⟨n, ⟨r, hv, hc⟩, z⟩ := ok
      exact ⟨n, ⟨r, vr hv, by rw [e]; exact hc⟩, z⟩
  · obtain ⟨hz, c, h1, h2⟩ := h.glob g cs hg
    refine ⟨hz, c, fun j hj => ?_, fun j hj => (h2 j hj).mono (fun _ h => h) (fun _ _ => by rw [e]) (fun b p hp => by cases hp)⟩
    rw [show w'.cell? ⟨g, j, none⟩ = w.cell? ⟨g, j, none⟩ from World.cell?_of_block (w := w) (by rw [e])]
    exact h1 j hj

end Go.MW

/- The small code: what the model's code is compiled to, with types resolved. -/
namespace Go.MW
open Go

inductive Opd where
  | t (i : Nat)
  | c (v : V)
  | g (n : Nat)
  | f (n : Nat)

inductive MOp where
  | mv (x : Opd)
  | pick (c a b : Opd)
  | new (sz : Nat) (x : V)
  | box (sz : Nat) (x : Opd)
  | build (zero : List V) (parts : List (Nat × Nat × Opd))
  | bslice (sz : Nat) (zero : V) (len : Nat) (parts : List (Nat × Opd))
  | ld (agg : Option Nat) (a : Opd)
  | st (n : Nat) (a x : Opd)
  | nchk (x : Opd)
  | bin (op : BinOp) (x y : Opd)
  | eqT (neg : Bool) (ks : List Nat) (x y : Opd)
  | eqB (neg : Bool) (x y : Opd)
  | nilq (neg : Bool) (x : Opd)
  | un (op : UnOp) (x : Opd)
  | cvi (k : IntKind) (x : Opd)
  | b2s (x : Opd)
  | s2b (x : Opd)
  | mkf (f : Fn) (first cap : List Opd)
  | mks (sz bytes : Nat) (zero : V) (l c : Opd)
  | slS (x : Opd) (lo hi : Option Opd)
  | sl (sz : Nat) (x : Opd) (lo hi mx : Option Opd)
  | slA (n sz : Nat) (x : Opd) (lo hi mx : Option Opd)
  | fa (off : Nat) (x : Opd)
  | fld (agg : Option Nat) (off : Nat) (x : Opd)
  | ia (sz : Nat) (x i : Opd)
  | iaA (n sz : Nat) (x i : Opd)
  | ixA (n sz : Nat) (agg : Bool) (x i : Opd)
  | ixS (x i : Opd)
  | ext (x : Opd) (i : Nat)
  | len (k : Nat) (x : Opd)
  | lenC (n : Nat)
  | capa (x : Opd)
  | app (sz bytes : Nat) (zero : V) (x y : Opd)
  | appZ (sz bytes : Nat) (zero : V) (x n : Opd)
  | cpy (sz : Nat) (x y : Opd)
  | clr (sz : Nat) (zero : V) (x : Opd)
  | min (x y : Opd)
  | max (x y : Opd)
  | call (f : Nat) (args : List Opd)
  | callv (x : Opd) (args : List Opd)
  | mkm
  | look (ks : List Nat) (ok : Bool) (zero : V) (m k : Opd)
  | mset (ks : List Nat) (m k v : Opd)
  | mdel (ks : List Nat) (m k : Opd)
  | rng (x : Opd)
  | nxt (x : Opd)
  | ent (x : Opd)
  | bad

/-- One operation: where its result goes; its guard; 'q': if it is a call, it must leave the heap as it is. -/
structure MO where
  dst : Option Nat
  op : MOp
  gd : Option (Nat × Bool)
  q : Bool

def o (d : Nat) (op : MOp) : MO := ⟨some d, op, none, false⟩
def s (op : MOp) : MO := ⟨none, op, none, false⟩
def go (d t : Nat) (w : Bool) (op : MOp) : MO := ⟨some d, op, some (t, w), false⟩
def gs (t : Nat) (w : Bool) (op : MOp) : MO := ⟨none, op, some (t, w), false⟩
def qq (d : Option Nat) (g : Option (Nat × Bool)) (op : MOp) : MO := ⟨d, op, g, true⟩

inductive MC where
  | skip
  | reg (draw : Bool) (ops : List MO)
  | seq (a b : MC)
  | cond (c : Opd) (a b : MC)
  | block (id : Nat) (c : MC)
  | loop (c : MC)
  | exit (id : Nat)
  | scope (c : MC)
  | scopeL (l : Nat) (c r : MC)
  | label (l : Nat)
  | goto (l : Nat)
  | ret
  | bad

/-- A constant. -/
def ofVal1 : Value → Option V
  | .bool b => some (.bool b)
  | .int k n => some (.int k n)
  | .string s => some (.str s.data.toList)
  | .pointer none => some .nilp
  | .slice none 0 0 => some .nils
  | .nilFunc => some .nilf
  | _ => none

def ofVals : List Value → Option (List V)
  | [] => some []
  | v :: r => match ofVal1 v, ofVals r with
    | some x, some xs => some (x :: xs)
    | _, _ => none

def ofVal : Value → Option V
  | .agg cs => (ofVals cs.toList).map .agg
  | v => ofVal1 v

def opd : Operand → Option Opd
  | .tmp t => some (.t t)
  | .const v => (ofVal v).map .c
  | .global g => some (.g g)
  | .func f => some (.f f)

def opds : List Operand → Option (List Opd)
  | [] => some []
  | x :: r => match opd x, opds r with
    | some a, some as => some (a :: as)
    | _, _ => none

def opdO : Option Operand → Option (Option Opd)
  | none => some none
  | some x => (opd x).map some

/-- A type's zero value, by its cells, and its size. -/
def zeroT (P : Program) (t : TypeId) : Option (V × Nat) :=
  match P.info? t with
  | none => none
  | some i => match i.zero with
    | none => none
    | some z => match ofVal z with
      | none => none
      | some v => if v.cells.length = i.size then some (v, i.size) else none

/-- 'none': one cell; 'some n': a struct or an array of n cells. -/
def aggT (P : Program) (t : TypeId) : Option (Option Nat) :=
  match P.underlying t, P.info? t with
  | some (.struct _), some i => some (some i.size)
  | some (.array _ _), some i => some (some i.size)
  | some _, some i => if i.size = 1 then some none else none
  | _, _ => none

def sizeT (P : Program) (t : TypeId) : Option Nat := (P.info? t).map (·.size)
def bytesT (P : Program) (t : TypeId) : Option Nat := (P.info? t).map (·.bytes)

def compParts (P : Program) (fields : Array Field) (n : Nat) : List (Nat × Operand) → Option (List (Nat × Nat × Opd))
  | [] => some []
  | (i, x) :: r => match fields[i]?, opd x, compParts P fields n r with
    | some f, some a, some as => match sizeT P f.type with
      | some s => if f.offset + s ≤ n then some ((f.offset, s, a) :: as) else none
      | none => none
    | _, _, _ => none

def compPartsA (sz n : Nat) : List (Nat × Operand) → Option (List (Nat × Nat × Opd))
  | [] => some []
  | (i, x) :: r => match opd x, compPartsA sz n r with
    | some a, some as => if i * sz + sz ≤ n then some ((i * sz, sz, a) :: as) else none
    | _, _ => none

def compPartsS (n : Nat) : List (Nat × Operand) → Option (List (Nat × Opd))
  | [] => some []
  | (i, x) :: r => match opd x, compPartsS n r with
    | some a, some as => if i < n then some ((i, a) :: as) else none
    | _, _ => none

def scalarT (P : Program) (t : TypeId) : Bool :=
  match P.underlying t with
  | some (.int _) | some .string => true
  | _ => false

def kindT (P : Program) (t : TypeId) : Option Nat :=
  match P.underlying t with
  | some (.int _) => some 0
  | some .bool => some 1
  | some .string => some 2
  | _ => none

/-- Fields of one cell each, that can be compared: of which kind. -/
def flatF (P : Program) : Nat → List Field → Option (List Nat)
  | _, [] => some []
  | i, f :: fs => if f.offset == i && f.name != "_" && sizeT P f.type == some 1 then match kindT P f.type, flatF P (i + 1) fs with
      | some k, some ks => some (k :: ks)
      | _, _ => none
    else none

def flatS (P : Program) (t : TypeId) (fs : Array Field) : Option (List Nat) := if !P.eqGuardType P.depth t && !P.stoodInHeld t then flatF P 0 fs.toList else none

/-- An array's elements, of one cell each: of which kind. -/
def flatA (P : Program) (n : Nat) (e : TypeId) : Option (List Nat) := if sizeT P e == some 1 then (kindT P e).map (List.replicate n ·) else none
/-- Of which kinds a map's key is, cell by cell ('9' ahead of them: it is a struct or an array). -/
def keyKs (P : Program) (t : TypeId) : Option (List Nat) :=
  match P.underlying t with
  | some (.struct fs) => if !P.stoodInHeld t then (flatF P 0 fs.toList).map (9 :: ·) else none
  | some (.array n e) => (flatA P n e).map (9 :: ·)
  | _ => (kindT P t).map ([·])

def compCall (P : Program) (c : Call) : Option MOp :=
  match c.callee with
  | .value (.func f) => match P.funcs[f]?, opds c.args.toList with
    | some fn, some as => if fn.body.isSome && fn.name != "runtime.NumGoroutine" then some (.call f as) else some .bad
    | _, _ => none
  | .value x => match opd x, opds c.args.toList with
    | some a, some as => some (.callv a as)
    | _, _ => none
  | .invoke _ _ => some .bad
  | .builtin b => match b, c.argTypes.toList, c.args.toList with
    | .len, [t], [x] => match P.underlying t, opd x with
      | some .string, some a => some (.len 0 a)
      | some (.slice _), some a => some (.len 1 a)
      | some (.map _ _), some a => some (.len 2 a)
      | some (.array n _), some _ => some (.lenC n)
      | _, _ => none
    | .cap, [t], [x] => match P.underlying t, opd x with
      | some (.slice _), some a => some (.capa a)
      | _, _ => none
    | .min, [t, u], [x, y] => match P.underlying t, P.underlying u, opd x, opd y with
      | some (.int _), some (.int _), some a, some b => some (.min a b)
      | _, _, _, _ => none
    | .max, [t, u], [x, y] => match P.underlying t, P.underlying u, opd x, opd y with
      | some (.int _), some (.int _), some a, some b => some (.max a b)
      | _, _, _, _ => none
    | .append, [t, u], [x, y] => match P.underlying t, P.underlying u, opd x, opd y with
      | some (.slice e), some d, some a, some b => match zeroT P e, bytesT P e with
        | some (z, sz), some by_ => if sz = 0 || by_ = 0 then none else match d with
          | .int _ => some (.appZ sz by_ z a b)
          | _ => some (.app sz by_ z a b)
        | _, _ => none
      | _, _, _, _ => none
    | .copy, [t, _], [x, y] => match P.underlying t, opd x, opd y with
      | some (.slice e), some a, some b => match sizeT P e with
        | some sz => if sz = 0 then none else some (.cpy sz a b)
        | none => none
      | _, _, _ => none
    | .clear, [t], [x] => match P.underlying t, opd x with
      | some (.slice e), some a => match zeroT P e with
        | some (z, sz) => if sz = 0 then none else some (.clr sz z a)
        | none => none
      | _, _ => none
    | .delete, [t, _], [m, k] => match P.underlying t, opd m, opd k with
      | some (.map kt _), some a, some b => (keyKs P kt).map (.mdel · a b)
      | _, _, _ => none
    | _, _, _ => some .bad

def compOp (P : Program) : Op → Option MOp
  | .move x | .assign x => (opd x).map .mv
  | .pick c a b => match opd c, opd a, opd b with
    | some c, some a, some b => some (.pick c a b)
    | _, _, _ => none
  | .alloc e => match zeroT P e with
    | some (z, n) => if n = 0 then none else some (.new n z)
    | none => none
  | .box e x => match sizeT P e, opd x with
    | some n, some a => if n = 0 then none else some (.box n a)
    | _, _ => none
  | .build t parts => match P.underlying t, zeroT P t with
    | some (.struct fs), some (z, n) => if (fs.toList.mapM fun f => (P.info? f.type).map fun i => (f.offset, i.size)).isSome then (compParts P fs n parts.toList).map (.build z.cells) else none
    | some (.array _ e), some (z, n) => match sizeT P e with
      | some sz => (compPartsA sz n parts.toList).map (.build z.cells)
      | none => none
    | _, _ => none
  | .buildSlice t len parts => match P.underlying t with
    | some (.slice e) => match zeroT P e with
      | some (z, sz) => if sz = 0 || len * sz > 2 ^ 24 then none else (compPartsS len parts.toList).map (.bslice sz z len)
      | none => none
    | _ => none
  | .load t a => match aggT P t, opd a with
    | some n, some x => some (.ld n x)
    | _, _ => none
  | .store t a v => match sizeT P t, opd a, opd v with
    | some n, some x, some y => some (.st n x y)
    | _, _, _ => none
  | .nilCheck x => (opd x).map .nchk
  | .binOp op t x y _ => match opd x, opd y with
    | some a, some b =>
      if scalarT P t then some (.bin op a b) else
      match op, P.underlying t with
      | .eql, some (.struct fs) => match flatS P t fs with
        | some ks => some (.eqT false ks a b)
        | none => some .bad
      | .neq, some (.struct fs) => match flatS P t fs with
        | some ks => some (.eqT true ks a b)
        | none => some .bad
      | .eql, some (.array n e) => match !P.eqGuardType P.depth t, flatA P n e with
        | true, some ks => some (.eqT false ks a b)
        | _, _ => some .bad
      | .neq, some (.array n e) => match !P.eqGuardType P.depth t, flatA P n e with
        | true, some ks => some (.eqT true ks a b)
        | _, _ => some .bad
      | .eql, some .bool => some (.eqB false a b)
      | .neq, some .bool => some (.eqB true a b)
      | .eql, some (.slice _) => match y with
        | .const (.slice none 0 0) => some (.nilq false a)
        | _ => some .bad
      | .neq, some (.slice _) => match y with
        | .const (.slice none 0 0) => some (.nilq true a)
        | _ => some .bad
      | _, _ => some .bad
    | _, _ => none
  | .unOp op _ x => (opd x).map (.un op)
  | .convert s d x => match P.underlying s, P.underlying d, opd x with
    | some (.int _), some (.int k), some a => some (.cvi k a)
    | some (.slice e), some .string, some a => match P.underlying e with
      | some (.int .u8) => some (.b2s a)
      | _ => none
    | some .string, some (.slice e), some a => match P.underlying e with
      | some (.int .u8) => some (.s2b a)
      | _ => none
    | some .string, some .string, some a => some (.slS a none none)
    | _, _, _ => none
  | .makeFunc f first cap => match opds first.toList, opds cap.toList with
    | some a, some b => some (.mkf f a b)
    | _, _ => none
  | .makeSlice t l c => match P.underlying t, opd l, opd c with
    | some (.slice e), some a, some b => match zeroT P e, bytesT P e with
      | some (z, sz), some by_ => if sz = 0 then none else some (.mks sz by_ z a b)
      | _, _ => none
    | _, _, _ => none
  | .slice t x lo hi mx => match P.underlying t, opd x, opdO lo, opdO hi, opdO mx with
    | some .string, some a, some l, some h, some none => some (.slS a l h)
    | some (.slice e), some a, some l, some h, some m => match sizeT P e with
      | some sz => if sz = 0 then none else some (.sl sz a l h m)
      | none => none
    | some (.array n e), some a, some l, some h, some m => match sizeT P e with
      | some sz => if sz = 0 then none else some (.slA n sz a l h m)
      | none => none
    | _, _, _, _, _ => none
  | .fieldAddr s x f => match P.underlying s, opd x with
    | some (.struct fs), some a => match fs[f]? with
      | some fd => match sizeT P fd.type with
        | some n => if n = 0 then none else some (.fa fd.offset a)
        | none => none
      | none => none
    | _, _ => none
  | .field s x f => match P.underlying s, opd x with
    | some (.struct fs), some a => match fs[f]? with
      | some fd => match aggT P fd.type with
        | some n => some (.fld n fd.offset a)
        | none => none
      | none => none
    | _, _ => none
  | .indexAddr t x i => match P.underlying t, opd x, opd i with
    | some (.slice e), some a, some b => match sizeT P e with
      | some sz => if sz = 0 then none else some (.ia sz a b)
      | none => none
    | some (.array n e), some a, some b => match sizeT P e with
      | some sz => if sz = 0 then none else some (.iaA n sz a b)
      | none => none
    | _, _, _ => none
  | .index t x i => match P.underlying t, opd x, opd i with
    | some .string, some a, some b => some (.ixS a b)
    | some (.array n e), some a, some b => match aggT P e with
      | some (some sz) => if sz = 0 then none else some (.ixA n sz true a b)
      | some none => some (.ixA n 1 false a b)
      | none => none
    | _, _, _ => none
  | .extract x i => (opd x).map (.ext · i)
  | .lookup t m k ok => match P.underlying t, opd m, opd k with
    | some (.map kt e), some a, some b => match zeroT P e, keyKs P kt with
      | some (z, _), some ks => some (.look ks ok z a b)
      | _, _ => none
    | _, _, _ => none
  | .mapUpdate t m k v | .insert t m k v => match P.underlying t, opd m, opd k, opd v with
    | some (.map kt _), some a, some b, some c => (keyKs P kt).map (.mset · a b c)
    | _, _, _, _ => none
  | .makeMap _ none => some .mkm
  | .range t x => match P.underlying t, opd x with
    | some (.map _ _), some a => some (.rng a)
    | _, _ => some .bad
  | .next x s => match s, opd x with
    | false, some a => some (.nxt a)
    | _, _ => some .bad
  | .entry x => match opd x with
    | some a => some (.ent a)
    | none => some .bad
  | .call c => compCall P c
  | _ => some .bad

/-- Does an operation touch memory? 0: no; 1: it reads, or makes; 2: it may write. -/
def MOp.heat : MOp → Nat
  | .mv _ | .pick .. | .build .. | .nchk _ | .bin .. | .eqT .. | .eqB .. | .nilq .. | .un .. | .cvi .. | .mkf .. | .slS .. | .fa .. | .fld .. | .iaA .. | .ixA .. | .ixS .. | .ext .. | .lenC _
  | .min .. | .max .. | .bad => 0
  | .sl .. | .slA .. | .ia .. | .len .. | .capa _ | .new .. | .box .. | .bslice .. | .ld .. | .b2s _ | .s2b _ | .mks .. | .mkm | .look .. | .ent _ => 1
  | .call .. | .callv .. => 2
  | _ => 3

/-- 0: it reads alone; 1: it makes a block; 2: a call; 3: it writes. -/
def MOp.kind : MOp → Nat
  | .new .. | .box .. | .bslice .. | .s2b _ | .mks .. | .mkm => 1
  | .call .. | .callv .. => 2
  | .st .. | .app .. | .appZ .. | .cpy .. | .clr .. | .mset .. | .mdel .. | .rng _ | .nxt _ => 3
  | _ => 0

/-- Does it come to one thing? -/
def MOp.det : MOp → Bool
  | .nxt _ => false
  | _ => true

/-- Does it look at a slice's head alone? -/
def MOp.hdr : MOp → Bool
  | .sl _ (.t _) .. | .slA _ _ (.t _) .. | .ia _ (.t _) _ => true
  | .len k (.t _) => k != 2
  | _ => false

/-- An operation's operands. -/
def MOp.opds : MOp → List Opd
  | .mv x | .box _ x | .nchk x | .nilq _ x | .un _ x | .cvi _ x | .b2s x | .s2b x | .fa _ x | .fld _ _ x | .ext x _ | .len _ x | .capa x | .clr _ _ x | .rng x | .nxt x | .ent x => [x]
  | .ld _ x => [x]
  | .pick c a b => [c, a, b]
  | .build _ p => p.map (·.2.2)
  | .bslice _ _ _ p => p.map (·.2)
  | .st _ x y | .bin _ x y | .eqT _ _ x y | .eqB _ x y | .mks _ _ _ x y | .ia _ x y | .iaA _ _ x y | .ixA _ _ _ x y | .ixS x y | .app _ _ _ x y | .appZ _ _ _ x y | .cpy _ x y | .min x y | .max x y | .look _ _ _ x y | .mdel _ x y => [x, y]
  | .mkf _ a b => a ++ b
  | .slS x lo hi => x :: (lo.toList ++ hi.toList)
  | .sl _ x lo hi mx | .slA _ _ x lo hi mx => x :: (lo.toList ++ hi.toList ++ mx.toList)
  | .call _ as => as
  | .callv x as => x :: as
  | .mset _ x y z => [x, y, z]
  | .new .. | .lenC _ | .mkm | .bad => []

/-- Which slots an operation looks at. -/
def MO.looks (m : MO) : List Nat := (m.op.opds.filterMap fun | .t i => some i | _ => none) ++ (match m.gd with | some (t, _) => [t] | none => [])

/-- Does it write memory, or may it? -/
def MO.isW (m : MO) : Bool := m.op.kind == 3 || (m.op.kind == 2 && !m.q)

/-- May two operations, in this order, not be turned round? -/
def conflict (a b : MO) : Bool :=
  (match a.dst with | some d => b.looks.contains d || b.dst == some d | none => false) || (match b.dst with | some d => a.looks.contains d | none => false) ||
    (a.isW && b.op.heat != 0 && !(b.op.hdr && a.op.kind == 3)) || (a.op.heat != 0 && a.op.kind != 1 && b.isW)

/-- Which operations stand ahead of one, as bits, by the edges that always bind. -/
def ancOf (acc : List Nat) (o : Oper) : Nat := o.after.toList.foldr (fun e r => if Region.binds .any e then r ||| (2 ^ e.on ||| acc.getD e.on 0) else r) 0

def ancs : List Oper → List Nat → List Nat
  | [], acc => acc
  | o :: r, acc => ancs r (acc ++ [ancOf acc o])

/-- Every edge leads back. -/
def edgesOK : Nat → List Oper → Bool
  | _, [] => true
  | i, o :: r => (o.after.toList.all fun e => !Region.binds .any e || decide (e.on < i)) && edgesOK (i + 1) r

def ahead (bs : List Nat) (i j : Nat) : Bool := (bs.getD j 0).testBit i

def noMO : MO := ⟨none, .bad, none, false⟩

/-- Do they conflict by what they name? -/
def confR (a b : MO) : Bool := (match a.dst with | some d => b.looks.contains d || b.dst == some d | none => false) || (match b.dst with | some d => a.looks.contains d | none => false)

/-- Ahead of an operation, does a name stand for a slice that the region made? -/
def freshT (ms : List MO) : Nat → Nat → Bool
  | 0, _ => false
  | j + 1, x => if (ms.getD j noMO).dst == some x then (ms.getD j noMO).gd.isNone && (match (ms.getD j noMO).op with
      | .bslice .. => true
      | .app _ _ _ (.t y) _ => freshT ms j y
      | _ => false) else freshT ms j x
/-- An append to a slice that the region made, with no loud call ahead of it. -/
def freshW (ms : List MO) (j : Nat) : Bool := (match (ms.getD j noMO).op with
  | .app _ _ _ (.t x) _ => freshT ms j x
  | _ => false) && (List.range j).all fun i => (ms.getD i noMO).op.kind != 2 || (ms.getD i noMO).q
/-- A read at an address that was there ahead of the region. -/
def oldR (ms : List MO) (i : Nat) : Bool := match (ms.getD i noMO).op with
  | .ld _ (.t t) => ms.all fun m => m.dst != some t
  | _ => false

/-- All that conflict are ordered; but an old read does not see an append to what is new. -/
def drawOK (bs : List Nat) (ms : List MO) : Bool :=
  (ms.all fun m => m.op.det) && (List.range ms.length).all fun j => (List.range j).all fun i => !(conflict (ms.getD i noMO) (ms.getD j noMO)) || ahead bs i j || (!(confR (ms.getD i noMO) (ms.getD j noMO)) && (oldR ms i && freshW ms j))

/-- Is operation i beside (neither ahead of nor behind) some other one that touches memory? -/
def beside (bs : List Nat) (ms : List MO) (i : Nat) : Bool :=
  (List.range ms.length).any fun j => j != i && (ms.getD j noMO).op.heat != 0 && !(decide (j < i) && (ms.getD j noMO).op.kind == 1) && !(ahead bs i j) && !(ahead bs j i)

def markQ (bs : List Nat) (ms : List MO) : List MO :=
  (List.range ms.length).map fun i => let m := ms.getD i noMO; { m with q := m.op.kind == 2 && beside bs ms i }

/-- Another order of the text: variables that are made stand first. -/
def hoistable (o : Oper) : Bool := (match o.op with | .alloc _ => true | _ => false) && o.guard.isNone && o.after.toList.all fun e => !Region.binds .any e
def hoist (ops : List Oper) : List Nat := (List.range ops.length).filter (fun i => (ops[i]?).any hoistable) ++ (List.range ops.length).filter fun i => !(ops[i]?).any hoistable
def relab (q : Nat → Nat) (o : Oper) : Oper := { o with after := o.after.map fun e => { e with on := q e.on }, guard := o.guard.map fun g => (q g.1, g.2) }
def posIn (p : List Nat) (i : Nat) : Nat := p.idxOf i
def permOps (ops : List Oper) (p : List Nat) : List Oper := p.filterMap fun i => (ops[i]?).map (relab (posIn p))
def permOK (n : Nat) (p : List Nat) : Bool := p.length == n && ((List.range n).all fun i => decide (posIn p i < n)) && ((List.range n).all fun k => match p[k]? with | some i => decide (i < n) && posIn p i == k | none => false)

def compGuard (ops : List Oper) (nt : Nat) : Option (Nat × Bool) → Option (Option (Nat × Bool))
  | none => some none
  | some (j, want) => match (ops[j]?).bind (·.dst) with
    | some d => if d < nt then some (some (d, want)) else none
    | none => none

def dstOK (nt : Nat) : Option Nat → Bool
  | none => true
  | some d => decide (d < nt)

def compOps (P : Program) (nt : Nat) (all : List Oper) : List Oper → Option (List MO)
  | [] => some []
  | o :: r => match compOp P o.op, compGuard all nt o.guard, compOps P nt all r with
    | some m, some g, some ms => if dstOK nt o.dst then some (⟨o.dst, m, g, false⟩ :: ms) else none
    | _, _, _ => none

/-- The label that is jumped to. -/
def gotoOf : MC → Option Nat
  | .goto l => some l
  | .seq a b => match gotoOf a with
    | some l => some l
    | none => gotoOf b
  | .cond _ a b => match gotoOf a with
    | some l => some l
    | none => gotoOf b
  | .block _ c => gotoOf c
  | .loop c => gotoOf c
  | _ => none

/-- What stands behind a label. -/
def findL : MC → Nat → Option MC
  | .seq a b, l => match findL a l with
    | some r => some (.seq r b)
    | none => findL b l
  | .label l', l => if l' == l then some .skip else none
  | _, _ => none

def mkScope (x : MC) : Option MC :=
  match gotoOf x with
  | none => some (.scope x)
  | some l => match findL x l with
    | some r => some (.scopeL l x r)
    | none => none

def compDraw (P : Program) (nt : Nat) (ops : List Oper) : Option (List MO) :=
  match compOps P nt ops ops with
  | some ms => if edgesOK 0 ops && drawOK (ancs ops []) (markQ (ancs ops []) ms) then some (markQ (ancs ops []) ms) else none
  | none => none

/-- The order in which fewer calls must be quiet. -/
def pickDraw : Option (List MO) → Option (List MO) → Option (List MO)
  | some x, some y => if y.countP (·.q) < x.countP (·.q) then some y else some x
  | some x, none => some x
  | none, y => y

def comp (P : Program) (nt : Nat) : Code → Option MC
  | .skip => some .skip
  | .region _ ops draw =>
    if draw then (pickDraw (compDraw P nt ops.toList) (if permOK ops.toList.length (hoist ops.toList) then compDraw P nt (permOps ops.toList (hoist ops.toList)) else none)).map (.reg true)
    else (compOps P nt ops.toList ops.toList).map (.reg false)
  | .seq a b => match comp P nt a, comp P nt b with
    | some x, some y => some (.seq x y)
    | _, _ => none
  | .cond c a b => match opd c, comp P nt a, comp P nt b with
    | some c, some x, some y => some (.cond c x y)
    | _, _, _ => none
  | .block id c => (comp P nt c).map (.block id)
  | .loop c => (comp P nt c).map .loop
  | .exit id => some (.exit id)
  | .scope c => match comp P nt c with
    | some x => mkScope x
    | none => none
  | .label l => some (.label l)
  | .goto l => some (.goto l)
  | .ret => some .ret
  | .rangeFunc .. => some .bad
  | .refuse _ => some .bad

end Go.MW

/- What the small code does, as a weakest precondition by recursion on the code. -/
namespace Go.MW
open Go

abbrev Fr := List (Nat × V)

structure St where
  fr : Fr
  H : List Blk

def get : Fr → Nat → V
  | [], _ => .junk
  | (j, v) :: r, i => bif j == i then v else get r i

theorem get_cons (j : Nat) (v : V) (r : Fr) (i : Nat) : get ((j, v) :: r) i = if j = i then v else get r i := by
  simp only [get, cond_eq_ite, beq_iff_eq]

def put : Option Nat → V → Fr → Fr
  | some d, v, fr => (d, v) :: fr
  | none, _, fr => fr

/-- Is it a value that memory holds in one cell, or a struct's or an array's? -/
def V.solid : V → Bool
  | .junk | .tup _ => false
  | _ => true
def V.one : V → Bool
  | .junk | .tup _ | .agg _ => false
  | _ => true

def V.isStr : V → Bool
  | .str _ => true
  | _ => false

/-- An element of so many cells, each of which memory may hold. -/
def Good (sz : Nat) (y : V) : Prop := y.cells.length = sz ∧ ∀ c ∈ y.cells, c.one = true
def Goods (sz : Nat) (ys : List V) : Prop := ∀ y ∈ ys, Good sz y

def u8V (b : UInt8) : V := .int .u8 b.toNat

/-- Some cells in the place of others, from a place on. -/
def setR : List V → Nat → List V → List V
  | [], _, _ => []
  | a :: l, 0, [] => a :: l
  | _ :: l, 0, v :: vs => v :: setR l 0 vs
  | a :: l, n + 1, vs => a :: setR l n vs

def getB (H : List Blk) (b : Nat) : Blk := H.getD b (.map [] 0)

/-- A part of an element. -/
def sub (x : V) (sz j m : Nat) : V := if j = 0 ∧ m = sz then .agg x.cells else .agg ((x.cells.drop j).take m)
/-- An element with a part of it changed. -/
def upd (x : V) (sz j m : Nat) (v : V) : V := if j = 0 ∧ m = sz then v else .agg (setR x.cells j v.cells)

section
variable (P : Program) (G : Nat → Option (List V))

def ev (fr : Fr) : Opd → V
  | .t i => get fr i
  | .c v => v
  | .g n => match G n with
    | some cs => .vp cs
    | none => .junk
  | .f n => .fn (.func n) [] []

def evs (fr : Fr) (xs : List Opd) : List V := xs.map (ev G fr)

/-- Either way of a test; 'simp' goes into the test alone. -/
def br (b : Bool) (p q : Prop) : Prop := (b = true → p) ∧ (b = false → q)

def ldK (agg : Option Nat) (a : V) (H : List Blk) (K : V → List Blk → Prop) : Prop :=
  match a with
  | .vp cs => match agg with
    | none => 0 < cs.length ∧ K (cs.getD 0 .junk) H
    | some n => n ≤ cs.length ∧ K (.agg (cs.take n)) H
  | .ptr b n i j => match getB H b with
    | .row sz xs _ _ => xs.length = n ∧ i < n ∧ match agg with
      | none => j < sz ∧ K ((xs.getD i .junk).cells.getD j .junk) H
      | some m => j + m ≤ sz ∧ K (sub (xs.getD i .junk) sz j m) H
    | _ => False
  | _ => False

def stK (m : Nat) (a v : V) (H : List Blk) (K : V → List Blk → Prop) : Prop :=
  Good m v ∧ match a with
  | .ptr b n i j => match getB H b with
    | .row sz xs opn frz => xs.length = n ∧ i < n ∧ j + m ≤ sz ∧ frz = false ∧ K .junk (H.set b (.row sz (xs.set i (upd (xs.getD i .junk) sz j m v)) opn false))
    | _ => False
  | _ => False

def nchkK (x : V) (K : V → Prop) : Prop :=
  match x with
  | .vp _ | .ptr .. => K x
  | .fn (.func _) _ _ => K x
  | _ => False

/-- Bits, in so many as the kind has. -/
def bitOp (op : BinOp) (k : IntKind) (a b : Int) : Int :=
  let x := BitVec.ofInt k.bits a
  let y := BitVec.ofInt k.bits b
  match op with
  | .and => k.wrap (x &&& y).toNat
  | .or => k.wrap (x ||| y).toNat
  | .xor => k.wrap (x ^^^ y).toNat
  | _ => k.wrap (x &&& ~~~y).toNat

def binK (op : BinOp) (x y : V) (K : V → Prop) : Prop :=
  match x, y with
  | .int k a, .int k' b => match op with
    | .add => k = k' ∧ K (.int k (k.wrap (a + b)))
    | .sub => k = k' ∧ K (.int k (k.wrap (a - b)))
    | .mul => k = k' ∧ K (.int k (k.wrap (a * b)))
    | .quo => k = k' ∧ b ≠ 0 ∧ K (.int k (k.wrap (a.tdiv b)))
    | .rem => k = k' ∧ b ≠ 0 ∧ K (.int k (a.tmod b))
    | .and => k = k' ∧ K (.int k (bitOp .and k a b))
    | .or => k = k' ∧ K (.int k (bitOp .or k a b))
    | .xor => k = k' ∧ K (.int k (bitOp .xor k a b))
    | .andNot => k = k' ∧ K (.int k (bitOp .andNot k a b))
    | .shl => 0 ≤ b ∧ K (.int k (k.wrap (a * 2 ^ (Nat.min b.toNat k.bits))))
    | .shr => 0 ≤ b ∧ K (.int k (a.fdiv (2 ^ (Nat.min b.toNat k.bits))))
    | .eql => k = k' ∧ K (.bool (a == b))
    | .neq => k = k' ∧ K (.bool (a != b))
    | .lss => k = k' ∧ K (.bool (decide (a < b)))
    | .leq => k = k' ∧ K (.bool (decide (a ≤ b)))
    | .gtr => k = k' ∧ K (.bool (decide (b < a)))
    | .geq => k = k' ∧ K (.bool (decide (b ≤ a)))
  | .str a, .str b => match op with
    | .add => a.length + b.length < 2 ^ 63 ∧ K (.str (a ++ b))
    | .eql => K (.bool (a == b))
    | .neq => K (.bool (a != b))
    | .lss => K (.bool (Op.bytesLess a b))
    | .leq => K (.bool (Op.bytesLess a b || a == b))
    | .gtr => K (.bool (!(Op.bytesLess a b || a == b)))
    | .geq => K (.bool (!Op.bytesLess a b))
    | _ => False
  | _, _ => False

def unK (op : UnOp) (x : V) (K : V → Prop) : Prop :=
  match op, x with
  | .not, .bool b => K (.bool !b)
  | .neg, .int k n => K (.int k (k.wrap (0 - n)))
  | .xor, .int k n => K (.int k (bitOp .xor k (if k.signed then -1 else k.max) n))
  | _, _ => False

/-- Are two cells alike? -/
def eq1 : Nat → V → V → Option Bool
  | 0, .int k a, .int k' b => if k = k' then some (decide (a = b)) else none
  | 1, .bool a, .bool b => some (a == b)
  | 2, .str a, .str b => some (a == b)
  | _, _, _ => none
def eqs : List Nat → List V → List V → Option Bool
  | [], [], [] => some true
  | k :: ks, a :: as, b :: bs => match eq1 k a b, eqs ks as bs with
    | some x, some y => some (x && y)
    | _, _ => none
  | _, _, _ => none
def eqTK (neg : Bool) (ks : List Nat) (x y : V) (K : V → Prop) : Prop :=
  match x, y with
  | .agg as, .agg bs => match eqs ks as bs with
    | some r => K (.bool (bif neg then !r else r))
    | none => False
  | _, _ => False

def eqBK (neg : Bool) (x y : V) (K : V → Prop) : Prop :=
  match x, y with
  | .bool a, .bool b => K (.bool (bif neg then !(a == b) else a == b))
  | _, _ => False

def nilqK (neg : Bool) (x : V) (K : V → Prop) : Prop :=
  match x with
  | .nils => K (.bool !neg)
  | .vs _ => K (.bool neg)
  | _ => False

def cviK (k : IntKind) (x : V) (K : V → Prop) : Prop :=
  match x with
  | .int _ n => K (.int k (k.wrap n))
  | _ => False

/-- The elements of a slice, or a string's bytes. -/
def elemsK (H : List Blk) (x : V) (K : List V → Prop) : Prop :=
  match x with
  | .vs xs => K xs
  | .nils => K []
  | .str s => K (s.map u8V)
  | .hs b n i j len _ sz => match getB H b with
    | .row rsz xs _ _ => xs.length = n ∧
      (if rsz = sz ∧ j = 0 then i + len ≤ n ∧ K ((xs.drop i).take len)
       else sz = 1 ∧ i < n ∧ j + len ≤ rsz ∧ (∀ y ∈ ((xs.getD i .junk).cells.drop j).take len, y.one = true) ∧ K (((xs.getD i .junk).cells.drop j).take len))
    | _ => False
  | _ => False

def lenK (k : Nat) (H : List Blk) (x : V) (K : V → Prop) : Prop :=
  match k, x with
  | 0, .str s => K (.int .i64 s.length)
  | 1, .vs xs => K (.int .i64 xs.length)
  | 1, .nils => K (.int .i64 0)
  | 1, .hs _ _ _ _ len _ _ => K (.int .i64 len)
  | 2, .map b => b < H.length ∧ match getB H b with
    | .map es _ => K (.int .i64 es.length)
    | _ => False
  | _, _ => False

/-- A slice's capacity, where it is known. -/
def capaK (H : List Blk) (x : V) (K : V → Prop) : Prop :=
  match x with
  | .nils => K (.int .i64 0)
  | .hs b n _ _ _ (some c) _ => match getB H b with
    | .row _ xs _ _ => xs.length = n ∧ K (.int .i64 c)
    | _ => False
  | _ => False

/-- A bound of a slice expression: 'none' is d. -/
def bnd (d : Nat) (x : Option V) (K : Nat → Prop) : Prop :=
  match x with
  | none => K d
  | some (.int _ n) => 0 ≤ n ∧ K n.toNat
  | some _ => False

def slSK (x : V) (lo hi : Option V) (K : V → Prop) : Prop :=
  match x with
  | .str s => bnd s.length hi fun h => h ≤ s.length ∧ bnd 0 lo fun l => l ≤ h ∧ K (.str ((s.drop l).take (h - l)))
  | _ => False

/-- A slice of a row, from l to h, with capacity up to m ('none': as far as there is). -/
def slHK (H : List Blk) (b n i j : Nat) (cap : Option Nat) (sz l h : Nat) (K : V → Prop) : Prop :=
  match getB H b with
  | .row rsz xs _ _ => xs.length = n ∧ if l = 0 then K (.hs b n i j h cap sz)
    else (if l = h ∧ (cap = some l ∨ cap = none) then K (.vs [])
      else K (if rsz = sz then .hs b n (i + l) j (h - l) (cap.map (· - l)) sz else .hs b n i (j + l * sz) (h - l) (cap.map (· - l)) sz))
  | _ => False

def slK (H : List Blk) (sz : Nat) (x : V) (lo hi mx : Option V) (K : V → Prop) : Prop :=
  (mx.isSome = true → hi.isSome = true) ∧ match x with
  | .vs xs => (∀ y ∈ xs, y.cells.length = sz) ∧ bnd xs.length mx fun m => m ≤ xs.length ∧ bnd xs.length hi fun h => h ≤ m ∧ bnd 0 lo fun l => l ≤ h ∧ K (.vs ((xs.drop l).take (h - l)))
  | .nils => bnd 0 mx fun m => m = 0 ∧ bnd 0 hi fun h => h = 0 ∧ bnd 0 lo fun l => l = 0 ∧ K .nils
  | .hs b n i j len cap sz' => sz' = sz ∧ match mx, cap with
    | none, some c => bnd len hi fun h => h ≤ c ∧ bnd 0 lo fun l => l ≤ h ∧ slHK H b n i j (some c) sz l h K
    | none, none => bnd len hi fun h => h ≤ len ∧ bnd 0 lo fun l => l ≤ h ∧ slHK H b n i j none sz l h K
    | some mv, some c => bnd c (some mv) fun m => m ≤ c ∧ bnd len hi fun h => h ≤ m ∧ bnd 0 lo fun l => l ≤ h ∧ slHK H b n i j (some m) sz l h K
    | some mv, none => bnd len (some mv) fun m => m ≤ len ∧ bnd len hi fun h => h ≤ m ∧ bnd 0 lo fun l => l ≤ h ∧ slHK H b n i j (some m) sz l h K
  | _ => False

def slAK (H : List Blk) (n sz : Nat) (x : V) (lo hi mx : Option V) (K : V → Prop) : Prop :=
  (mx.isSome = true → hi.isSome = true) ∧ match x with
  | .ptr b m i j => bnd n mx fun mm => mm ≤ n ∧ bnd n hi fun h => h ≤ mm ∧ bnd 0 lo fun l => l ≤ h ∧ slHK H b m i j (some mm) sz l h K
  | _ => False

def faK (off : Nat) (x : V) (K : V → Prop) : Prop :=
  match x with
  | .vp cs => off ≤ cs.length ∧ K (.vp (cs.drop off))
  | .ptr b n i j => K (.ptr b n i (j + off))
  | _ => False

def fldK (agg : Option Nat) (off : Nat) (x : V) (K : V → Prop) : Prop :=
  match x with
  | .agg cs => match agg with
    | none => off < cs.length ∧ K (cs.getD off .junk)
    | some n => off + n ≤ cs.length ∧ K (.agg ((cs.drop off).take n))
  | _ => False

def iaK (H : List Blk) (sz : Nat) (x i : V) (K : V → Prop) : Prop :=
  match x, i with
  | .vs xs, .int _ n => 0 ≤ n ∧ n.toNat < xs.length ∧ (xs.getD n.toNat .junk).cells.length = sz ∧ K (.vp (xs.getD n.toNat .junk).cells)
  | .hs b m i j len _ sz', .int _ n => sz' = sz ∧ 0 ≤ n ∧ n.toNat < len ∧ match getB H b with
    | .row rsz xs _ _ => xs.length = m ∧ K (if rsz = sz then .ptr b m (i + n.toNat) j else .ptr b m i (j + n.toNat * sz))
    | _ => False
  | _, _ => False

def iaAK (n sz : Nat) (x i : V) (K : V → Prop) : Prop :=
  match x, i with
  | .ptr b m e j, .int _ q => 0 ≤ q ∧ q.toNat < n ∧ K (.ptr b m e (j + q.toNat * sz))
  | .vp cs, .int _ q => 0 ≤ q ∧ q.toNat < n ∧ n * sz ≤ cs.length ∧ K (.vp (cs.drop (q.toNat * sz)))
  | _, _ => False

def ixAK (n sz : Nat) (agg : Bool) (x i : V) (K : V → Prop) : Prop :=
  match x, i with
  | .agg cs, .int _ q => 0 ≤ q ∧ q.toNat < n ∧ n * sz ≤ cs.length ∧ K (if agg then .agg ((cs.drop (q.toNat * sz)).take sz) else cs.getD (q.toNat * sz) .junk)
  | _, _ => False

def ixSK (x i : V) (K : V → Prop) : Prop :=
  match x, i with
  | .str s, .int _ n => 0 ≤ n ∧ n.toNat < s.length ∧ K (u8V (s.getD n.toNat 0))
  | _, _ => False

def extK (x : V) (i : Nat) (K : V → Prop) : Prop :=
  match x with
  | .tup vs => i < vs.length ∧ K (vs.getD i .junk)
  | _ => False

def pickK (c a b : V) (K : V → Prop) : Prop :=
  match c with
  | .bool t => K (cond t a b)
  | _ => False

/-- How many bytes an append may make. -/
def roomy (n bytes : Nat) : Prop := n * bytes ≤ 2 ^ 47

/-- Elements behind a slice. -/
def appK (sz bytes : Nat) (x : V) (ys : List V) (H : List Blk) (K : V → List Blk → Prop) : Prop :=
  Goods sz ys ∧ match x with
  | .nils => if ys = [] then K .nils H else roomy ys.length bytes ∧ K (.hs H.length ys.length 0 0 ys.length none sz) (H ++ [.row sz ys true false])
  | .vs xs => ys = [] ∧ K (.vs xs) H
  | .hs b n i j len cap sz' => sz' = sz ∧ j = 0 ∧ match getB H b with
    | .row rsz xs opn frz => rsz = sz ∧ xs.length = n ∧ i + len ≤ n ∧ Goods sz xs ∧ match cap with
      | some c => if len + ys.length ≤ c then i + c ≤ n ∧ frz = false ∧ K (.hs b n i 0 (len + ys.length) (some c) sz) (H.set b (.row sz (xs.take (i + len) ++ ys ++ xs.drop (i + len + ys.length)) opn false))
        else roomy (len + ys.length) bytes ∧ K (.hs H.length (len + ys.length) 0 0 (len + ys.length) none sz) (H ++ [.row sz ((xs.drop i).take len ++ ys) true false])
      | none => if i + len + ys.length ≤ n then frz = false ∧ K (.hs b n i 0 (len + ys.length) none sz) (H.set b (.row sz (xs.take (i + len) ++ ys ++ xs.drop (i + len + ys.length)) opn false))
        else i = 0 ∧ frz = false ∧ roomy (len + ys.length) bytes ∧ K (.hs b (len + ys.length) 0 0 (len + ys.length) none sz) (H.set b (.row sz (xs.take len ++ ys) true false))
    | _ => False
  | _ => False

/-- Elements written over those of a slice, from its first one on. -/
def wrK (sz : Nat) (x : V) (ys : List V) (H : List Blk) (K : List Blk → Prop) : Prop :=
  Goods sz ys ∧ match x with
  | .hs b n i j len _ sz' => sz' = sz ∧ ys.length ≤ len ∧ match getB H b with
    | .row rsz xs opn frz => xs.length = n ∧ frz = false ∧
      (if rsz = sz ∧ j = 0 then i + len ≤ n ∧ K (H.set b (.row rsz (xs.take i ++ ys ++ xs.drop (i + ys.length)) opn false))
       else sz = 1 ∧ i < n ∧ j + len ≤ rsz ∧ (∀ y ∈ ys, y.one = true) ∧ K (H.set b (.row rsz (xs.set i (.agg (setR (xs.getD i .junk).cells j ys))) opn false)))
    | _ => False
  | .nils => ys = [] ∧ K H
  | .vs _ => ys = [] ∧ K H
  | _ => False

def minK (lt : Bool) (x y : V) (K : V → Prop) : Prop :=
  match x, y with
  | .int k a, .int k' b => k = k' ∧ K (.int k (if lt then (if b < a then b else a) else (if a < b then b else a)))
  | _, _ => False

def mksK (sz bytes : Nat) (zero l c : V) (K : (Nat → V) → Blk → Prop) : Prop :=
  match l, c with
  | .int _ a, .int _ b => 0 ≤ a ∧ a ≤ b ∧ b < 2 ^ 63 ∧ bytes * b ≤ 2 ^ 48 ∧ K (fun q => .hs q b.toNat 0 0 a.toNat (some b.toNat) sz) (.row sz (List.replicate b.toNat zero) false false)
  | _, _ => False

def bytesK (xs : List V) (K : V → Prop) : Prop := ∃ s : List UInt8, xs = s.map u8V ∧ K (.str s)

def partsV (fr : Fr) : List V → List (Nat × Nat × Opd) → (List V → Prop) → Prop
  | z, [], K => K z
  | z, (off, sz, x) :: r, K => (ev G fr x).solid = true ∧ (ev G fr x).cells.length = sz ∧ partsV fr (setR z off (ev G fr x).cells) r K

def partsS (fr : Fr) (sz : Nat) : List V → List (Nat × Opd) → (List V → Prop) → Prop
  | z, [], K => K z
  | z, (i, x) :: r, K => (ev G fr x).solid = true ∧ (ev G fr x).cells.length = sz ∧ partsS fr sz (z.set i (ev G fr x)) r K

end

/-- A call on the abstract heap. -/
def Sim (P : Program) (G : Nat → Option (List V)) (f : Nat) (args : List V) (H : List Blk) (r : V) (H' : List Blk) : Prop :=
  ∀ (B : Bd) (Φ : Nat → Option Pl) (Z : Nat → Prop) (w : World) (rargs : Array Value), Rel G B Φ Z H w → VRs Φ Z w args rargs →
    Calls P f rargs w fun e w' => ∃ rv Φ' Z', e = .returned rv ∧ VR Φ' Z' w' r rv ∧ Rel G B Φ' Z' H' w' ∧ Ev B Φ Z w Φ' Z' w'

/-- A call that leaves the abstract heap, and where its rows lie, as they are. -/
def QSim (P : Program) (G : Nat → Option (List V)) (f : Nat) (args : List V) (H : List Blk) (r : V) : Prop :=
  ∀ (B : Bd) (Φ : Nat → Option Pl) (Z : Nat → Prop) (w : World) (rargs : Array Value), Rel G B Φ Z H w → VRs Φ Z w args rargs →
    Calls P f rargs w fun e w' => ∃ rv Z', e = .returned rv ∧ VR Φ Z' w' r rv ∧ Rel G B Φ Z' H w' ∧ Ev B Φ Z w Φ Z' w'

def callK (P : Program) (G : Nat → Option (List V)) (q : Bool) (f : Nat) (args : List V) (H : List Blk) (K : V → List Blk → Prop) : Prop :=
  if q then ∃ r, (∀ T, QSim P G f args (H ++ T) r) ∧ K r H else ∃ r H', Sim P G f args H r H' ∧ K r H'

def callvK (P : Program) (G : Nat → Option (List V)) (q : Bool) (x : V) (args : List V) (H : List Blk) (K : V → List Blk → Prop) : Prop :=
  match x with
  | .fn (.func f) first cap => (P.funcs[f]?).any (fun fn => fn.body.isSome && fn.name != "runtime.NumGoroutine") = true ∧ callK P G q f (first ++ args ++ cap) H K
  | _ => False

/-- Are two keys alike? -/
def keq : List Nat → V → V → Option Bool
  | 9 :: ks, .agg as, .agg bs => eqs ks as bs
  | [k], x, y => eq1 k x y
  | _, _, _ => none
/-- Where a key stands. -/
def findV (ks : List Nat) (k : V) : List (Nat × V × V) → Nat → Option (Option Nat)
  | [], _ => some none
  | e :: es, i => match keq ks k e.2.1 with
    | some true => some (some i)
    | some false => findV ks k es (i + 1)
    | none => none
abbrev e0V : Nat × V × V := (0, .junk, .junk)
def lookK (ks : List Nat) (ok : Bool) (z m k : V) (H : List Blk) (K : V → Prop) : Prop :=
  match m with
  | .map b => b < H.length ∧ match getB H b with
    | .map es _ => keq ks k k = some true ∧ match findV ks k es 0 with
      | some (some i) => K (if ok then .tup [(es.getD i e0V).2.2, .bool true] else (es.getD i e0V).2.2)
      | some none => K (if ok then .tup [z, .bool false] else z)
      | none => False
    | _ => False
  | _ => False
def msetK (ks : List Nat) (m k v : V) (H : List Blk) (K : V → List Blk → Prop) : Prop :=
  match m with
  | .map b => b < H.length ∧ match getB H b with
    | .map es clk => keq ks k k = some true ∧ match findV ks k es 0 with
      | some (some i) => K .junk (H.set b (.map (es.set i ((es.getD i e0V).1, (es.getD i e0V).2.1, v)) clk))
      | some none => K .junk (H.set b (.map (es ++ [(clk, k, v)]) (clk + 1)))
      | none => False
    | _ => False
  | _ => False
def mdelK (ks : List Nat) (m k : V) (H : List Blk) (K : V → List Blk → Prop) : Prop :=
  match m with
  | .map b => b < H.length ∧ match getB H b with
    | .map es clk => keq ks k k = some true ∧ match findV ks k es 0 with
      | some (some i) => K (.tup []) (H.set b (.map (es.eraseIdx i) clk))
      | some none => K (.tup []) (H.set b (.map es clk))
      | none => False
    | _ => False
  | _ => False
/-- A range over a map begins. -/
def rngK (m : V) (H : List Blk) (K : V → List Blk → Prop) : Prop :=
  match m with
  | .map b => b < H.length ∧ match getB H b with
    | .map _ clk => K (.ptr H.length 0 0 0) (H ++ [.iter b clk [] clk])
    | _ => False
  | _ => False
/-- A step of it: whichever entry is left may come. -/
def nxtK (x : V) (H : List Blk) (K : V → List Blk → Prop) : Prop :=
  match x with
  | .ptr q 0 0 0 => q < H.length ∧ match getB H q with
    | .iter b since seen last => b < H.length ∧ match getB H b with
      | .map es clk => ((∀ e ∈ es, e.1 < since) ∧ since ≤ last) ∧ ((∀ e ∈ es, e.1 ∈ seen) → K (.tup [.bool false]) H) ∧
        ∀ e ∈ es, e.1 ∉ seen → K (.tup [.bool true, e.2.1, e.2.2]) (H.set q (.iter b since (seen ++ [e.1]) clk))
      | _ => False
    | _ => False
  | _ => False
/-- What the step handed out. -/
def entK (x : V) (H : List Blk) (K : V → Prop) : Prop :=
  match x with
  | .ptr q 0 0 0 => q < H.length ∧ match getB H q with
    | .iter b _ seen last => b < H.length ∧ match getB H b with
      | .map es clk => last = clk ∧ (es.map (·.1)).Nodup ∧ match seen.getLast? with
        | some s => match es.find? (fun e => e.1 == s) with
          | some e => K (.tup [e.2.1, e.2.2])
          | none => False
        | none => False
      | _ => False
    | _ => False
  | _ => False

section
variable (P : Program) (G : Nat → Option (List V))

/-- What makes a block: its value, by the block's number, and the block. -/
def mkM (m : MOp) (fr : Fr) (K : (Nat → V) → Blk → Prop) : Prop :=
  let e := ev G fr
  match m with
  | .new sz x => K (fun q => .ptr q 1 0 0) (.row sz [x] false false)
  | .box sz x => (e x).solid = true ∧ (e x).cells.length = sz ∧ K (fun q => .ptr q 1 0 0) (.row sz [e x] false false)
  | .bslice sz z len parts => partsS G fr sz (List.replicate len z) parts fun xs => K (fun q => .hs q len 0 0 len (some len) sz) (.row sz xs false false)
  | .s2b x => match e x with
    | .str s => K (fun q => .hs q s.length 0 0 s.length none 1) (.row 1 (s.map u8V) true false)
    | _ => False
  | .mks sz by_ z l c => mksK sz by_ z (e l) (e c) K
  | .mkm => K (fun q => .map q) (.map [] 0)
  | _ => False

def stepM (q : Bool) (m : MOp) (fr : Fr) (H : List Blk) (K : V → List Blk → Prop) : Prop :=
  let e := ev G fr
  match m with
  | .mv x => K (e x) H
  | .pick c a b => pickK (e c) (e a) (e b) (K · H)
  | .new .. | .box .. | .bslice .. | .s2b .. | .mks .. | .mkm => mkM G m fr fun r k => K (r H.length) (H ++ [k])
  | .build z parts => partsV G fr z parts fun cs => K (.agg cs) H
  | .ld agg a => ldK agg (e a) H K
  | .st n a x => stK n (e a) (e x) H K
  | .nchk x => nchkK (e x) (K · H)
  | .bin op x y => binK op (e x) (e y) (K · H)
  | .eqT neg ks x y => eqTK neg ks (e x) (e y) (K · H)
  | .eqB neg x y => eqBK neg (e x) (e y) (K · H)
  | .nilq neg x => nilqK neg (e x) (K · H)
  | .un op x => unK op (e x) (K · H)
  | .cvi k x => cviK k (e x) (K · H)
  | .b2s x => (e x).isStr = false ∧ elemsK H (e x) fun xs => bytesK xs (K · H)
  | .mkf f first cap => K (.fn f (evs G fr first) (evs G fr cap)) H
  | .slS x lo hi => slSK (e x) (lo.map e) (hi.map e) (K · H)
  | .sl sz x lo hi mx => slK H sz (e x) (lo.map e) (hi.map e) (mx.map e) (K · H)
  | .slA n sz x lo hi mx => slAK H n sz (e x) (lo.map e) (hi.map e) (mx.map e) (K · H)
  | .fa off x => faK off (e x) (K · H)
  | .fld agg off x => fldK agg off (e x) (K · H)
  | .ia sz x i => iaK H sz (e x) (e i) (K · H)
  | .iaA n sz x i => iaAK n sz (e x) (e i) (K · H)
  | .ixA n sz agg x i => ixAK n sz agg (e x) (e i) (K · H)
  | .ixS x i => ixSK (e x) (e i) (K · H)
  | .ext x i => extK (e x) i (K · H)
  | .len k x => lenK k H (e x) (K · H)
  | .lenC n => K (.int .i64 n) H
  | .app sz by_ _ x y => elemsK H (e y) fun ys => appK sz by_ (e x) ys H K
  | .appZ sz by_ z x n => match e n with
    | .int _ n => (0 ≤ n ∧ n < 2 ^ 63 ∧ n * (by_ : Int) ≤ 2 ^ 48) ∧ appK sz by_ (e x) (List.replicate n.toNat z) H K
    | _ => False
  | .capa x => capaK H (e x) (K · H)
  | .cpy sz x y => elemsK H (e y) fun ys => lenK 1 H (e x) fun l => match l with
    | .int _ n => wrK sz (e x) (ys.take n.toNat) H fun H' => K (.int .i64 (Nat.min ys.length n.toNat)) H'
    | _ => False
  | .clr sz z x => lenK 1 H (e x) fun l => match l with
    | .int _ n => wrK sz (e x) (List.replicate n.toNat z) H fun H' => K .junk H'
    | _ => False
  | .look ks ok z m k => lookK ks ok z (e m) (e k) H (K · H)
  | .mset ks m k v => msetK ks (e m) (e k) (e v) H K
  | .mdel ks m k => mdelK ks (e m) (e k) H K
  | .rng x => rngK (e x) H K
  | .nxt x => nxtK (e x) H K
  | .ent x => entK (e x) H (K · H)
  | .min x y => minK true (e x) (e y) (K · H)
  | .max x y => minK false (e x) (e y) (K · H)
  | .call f args => callK P G q f (evs G fr args) H K
  | .callv x args => callvK P G q (e x) (evs G fr args) H K
  | _ => False

/-- A guard: is it wanted? -/
def gdK (fr : Fr) (g : Option (Nat × Bool)) (p q : Prop) : Prop :=
  match g with
  | none => p
  | some (t, want) => match get fr t with
    | .bool b => br (b == want) p q
    | .tup [] => q
    | _ => False

def mops : List MO → (St → Prop) → St → Prop
  | [], K, st => K st
  | m :: r, K, st => gdK st.fr m.gd (stepM P G m.q m.op st.fr st.H fun v H' => mops r K ⟨put m.dst v st.fr, H'⟩) (mops r K ⟨put m.dst (.tup []) st.fr, st.H⟩)

def thenK (K : St → Prop) (Q : Exit → St → Prop) : Exit → St → Prop
  | .normal, st => K st
  | e, st => Q e st

def blockK (id : Nat) (Q : Exit → St → Prop) : Exit → St → Prop
  | .exit id', st => if id' = id then Q .normal st else Q (.exit id') st
  | e, st => Q e st

def scopeK (Q : Exit → St → Prop) : Exit → St → Prop
  | .goto _, _ => False
  | e, st => Q e st

def jumpK (l : Nat) (J : St → Prop) (Q : Exit → St → Prop) : Exit → St → Prop
  | .goto l', st => l' = l ∧ J st
  | e, st => Q e st

def condK (c : V) (p q : Prop) : Prop :=
  match c with
  | .bool b => br b p q
  | _ => False

def mwp : MC → (Exit → St → Prop) → St → Prop
  | .skip, Q, st => Q .normal st
  | .reg _ ops, Q, st => mops P G ops (Q .normal) st
  | .seq a b, Q, st => mwp a (thenK (mwp b Q) Q) st
  | .cond c a b, Q, st => condK (ev G st.fr c) (mwp a Q st) (mwp b Q st)
  | .block id c, Q, st => mwp c (blockK id Q) st
  | .loop c, Q, st => ∃ I : Nat → St → Prop, (∃ n, I n st) ∧ ∀ n st, I n st → mwp c (thenK (fun st' => ∃ n', n' < n ∧ I n' st') Q) st
  | .scope c, Q, st => mwp c (scopeK Q) st
  | .scopeL l c r, Q, st => ∃ I : Nat → St → Prop, mwp c (jumpK l (fun st' => ∃ n, I n st') Q) st ∧ ∀ n st, I n st → mwp r (jumpK l (fun st' => ∃ n', n' < n ∧ I n' st') Q) st
  | .goto l, Q, st => Q (.goto l) st
  | .exit id, Q, st => Q (.exit id) st
  | .ret, Q, st => Q .ret st
  | .label _, Q, st => Q .normal st
  | _, _, _ => False

end
end Go.MW

/- How the relation between abstract heap and world goes on where a block is made, or written. -/
namespace Go.MW
open Go Go.RowKit

theorem BlkOK.mono {Φ Φ' : Nat → Option Pl} {Z : Nat → Prop} {w w' : World} {p : Pl} {k : Blk} (h : BlkOK Φ Z w p k) (hb : w'.heap[p.rb]? = w.heap[p.rb]?)
    (vr : ∀ v r, VR Φ Z w v r → VR Φ' Z w' v r) : BlkOK Φ' Z w' p k := by
  cases k with
  | row sz xs opn frz =>
    obtain ⟨n, s, cs, ⟨c, t, fz, hc, h0, h1, h2, h3, h4⟩, z⟩ := h
    exact ⟨n, s, cs, ⟨c, t, fz, by rw [hb]; exact hc, h0, h1, h2, h3, fun i j hi hj => vr _ _ (h4 i j hi hj)⟩, z⟩
  | map es clk =>
    obtain ⟨n, ⟨c, hc, h1, h2⟩, z⟩ := h
    exact ⟨n, ⟨c, by rw [hb]; exact hc, h1, fun i hi => ⟨(h2 i hi).1, vr _ _ (h2 i hi).2.1, vr _ _ (h2 i hi).2.2⟩⟩, z⟩
  | iter m s sn l =>
    obtain ⟨n, ⟨r, hv, hc⟩, z⟩ := h
    exact ⟨n, ⟨r, vr _ _ hv, by rw [hb]; exact hc⟩, z⟩

theorem BlkOK.lt {Φ : Nat → Option Pl} {Z : Nat → Prop} {w : World} {p : Pl} {k : Blk} (h : BlkOK Φ Z w p k) : p.rb < w.heap.size := by
  cases k with
  | row sz xs opn frz =>
    obtain ⟨n, s, cs, ⟨c, t, fz, hc, _⟩, z⟩ := h
    exact (Array.getElem?_eq_some_iff.1 hc).1
  | map es clk =>
    obtain ⟨n, ⟨c, hc, _⟩, z⟩ := h
    exact (Array.getElem?_eq_some_iff.1 hc).1
  | iter m s sn l =>
    obtain ⟨n, ⟨r, hv, hc⟩, z⟩ := h
    exact (Array.getElem?_eq_some_iff.1 hc).1

theorem GlobOK.mono {G : Nat → Option (List V)} {Z Z' : Nat → Prop} {w w' : World} (h : GlobOK G Z w) (hz : ∀ r, Z r → Z' r) (hw : ∀ r, Z r → w'.heap[r]? = w.heap[r]?) : GlobOK G Z' w' := by
  intro g cs hg
  obtain ⟨hzg, c, h1, h2⟩ := h g cs hg
  refine ⟨hz _ hzg, c, fun j hj => ?_, fun j hj => (h2 j hj).mono hz hw (fun b p hp => by cases hp)⟩
  rw [show w'.cell? ⟨g, j, none⟩ = w.cell? ⟨g, j, none⟩ from World.cell?_of_block (w := w) (hw _ hzg)]
  exact h1 j hj

/-- One place more, or another one. -/
def put1 (Φ : Nat → Option Pl) (b : Nat) (p : Pl) : Nat → Option Pl := fun x => if x = b then some p else Φ x

theorem put1_same (Φ : Nat → Option Pl) (b : Nat) (p : Pl) : put1 Φ b p b = some p := by simp [put1]
theorem put1_ne {Φ : Nat → Option Pl} {b x : Nat} {p : Pl} (h : x ≠ b) : put1 Φ b p x = Φ x := by simp [put1, h]

section
variable {G : Nat → Option (List V)} {B : Bd} {Φ : Nat → Option Pl} {Z : Nat → Prop} {H : List Blk} {w : World}

/-- Blocks that nothing leads to may stand behind. -/
theorem Rel.extend (h : Rel G B Φ Z H w) (T : List Blk) : Rel G B Φ Z (H ++ T) w := by
  refine ⟨fun b p hp => ?_, h.inj, h.low, h.zin, h.size, h.glob, fun b k hb => ⟨by rw [List.getElem?_append_left (List.getElem?_eq_some_iff.1 (h.pend b k hb).1).1]; exact (h.pend b k hb).1, (h.pend b k hb).2⟩⟩
  obtain ⟨k, hk, ok⟩ := h.blk b p hp
  refine ⟨k, ?_, ok⟩
  rw [List.getElem?_append_left (List.getElem?_eq_some_iff.1 hk).1]
  exact hk

/-- A new block. -/
theorem Rel.make {b : Nat} {k : Blk} {p : Pl} (o : Obj) (h : Rel G B Φ Z H w) (hb : Φ b = none) (hpd : B.pd b = none) (hH : H[b]? = some k) (hp : p.rb = w.heap.size)
    (hk : ∀ w' : World, w' = w.alloc o → (∀ v r, VR Φ Z w v r → VR (put1 Φ b p) Z w' v r) → BlkOK (put1 Φ b p) Z w' p k) :
    Rel G B (put1 Φ b p) Z H (w.alloc o) ∧ Ev B Φ Z w (put1 Φ b p) Z (w.alloc o) := by
  have hev : Ev B Φ Z w (put1 Φ b p) Z (w.alloc o) := by
    refine ⟨fun _ h => h, fun r hr => Below.heap_alloc w o r (h.zin r hr), fun c q hq => ?_, (Below.refl _ _).alloc h.size o, fun _ h _ => .inl h⟩
    refine ⟨q, ?_, .inl rfl⟩
    rw [put1_ne (by rintro rfl; rw [hb] at hq; cases hq)]
    exact hq
  refine ⟨⟨fun c q hq => ?_, fun c c' q q' hq hq' e => ?_, fun c q hq => ?_, fun r hr => ?_, ?_, ?_, fun c k' hc => ?_⟩, hev⟩
  rotate_right
  · have hcb : c ≠ b := by rintro rfl; rw [hpd] at hc; cases hc
    rw [put1_ne hcb]
    exact h.pend c k' hc
  · by_cases hc : c = b
    · subst hc
      rw [put1_same] at hq
      obtain rfl := Option.some.inj hq
      exact ⟨k, hH, hk _ rfl fun v r hv => hv.ev hev⟩
    · rw [put1_ne hc] at hq
      obtain ⟨k', hk', ok⟩ := h.blk c q hq
      exact ⟨k', hk', ok.mono (Below.heap_alloc w o _ ok.lt) (fun v r hv => hv.ev hev)⟩
  · by_cases hc : c = b <;> by_cases hc' : c' = b
    · rw [hc, hc']
    · subst hc
      rw [put1_same] at hq; obtain rfl := Option.some.inj hq
      rw [put1_ne hc'] at hq'
      obtain ⟨k', _, ok⟩ := h.blk c' q' hq'
      have := ok.lt
      omega
    · subst hc'
      rw [put1_same] at hq'; obtain rfl := Option.some.inj hq'
      rw [put1_ne hc] at hq
      obtain ⟨k', _, ok⟩ := h.blk c q hq
      have := ok.lt
      omega
    · rw [put1_ne hc] at hq; rw [put1_ne hc'] at hq'
      exact h.inj c c' q q' hq hq' e
  · by_cases hc : c = b
    · subst hc; rw [put1_same] at hq; obtain rfl := Option.some.inj hq
      rw [hp]; exact h.size
    · rw [put1_ne hc] at hq; exact h.low c q hq
  · have := h.zin r hr; show r < (w.heap.push o).size; rw [Array.size_push]; omega
  · have := h.size; show B.w ≤ (w.heap.push o).size; rw [Array.size_push]; omega
  · exact h.glob.mono (fun _ h => h) (fun r hr => Below.heap_alloc w o r (h.zin r hr))

/-- A block written: the world turns at that block alone. -/
theorem Rel.write {b : Nat} {k : Blk} {p p' : Pl} {w' : World} (h : Rel G B Φ Z H w) (hb : Φ b = some p) (hz : ¬ Z p.rb) (hn : p' = p ∨ p.n < p'.n) (hrb : p'.rb = p.rb ∨ w.heap.size ≤ p'.rb)
    (hbel : Below B w w') (hw : ∀ r, r ≠ p.rb → r < w.heap.size → w'.heap[r]? = w.heap[r]?)
    (hk : (∀ v r, VR Φ Z w v r → VR (put1 Φ b p') Z w' v r) → BlkOK (put1 Φ b p') Z w' p' k) :
    Rel G B (put1 Φ b p') Z (H.set b k) w' ∧ Ev B Φ Z w (put1 Φ b p') Z w' := by
  have hZ : ∀ r, Z r → w'.heap[r]? = w.heap[r]? := fun r hr => hw r (by rintro rfl; exact hz hr) (h.zin r hr)
  have hev : Ev B Φ Z w (put1 Φ b p') Z w' := by
    refine ⟨fun _ h => h, hZ, fun c q hq => ?_, hbel, fun _ h _ => .inl h⟩
    by_cases hc : c = b
    · subst hc
      rw [hb] at hq; obtain rfl := Option.some.inj hq
      exact ⟨p', put1_same _ _ _, hn⟩
    · exact ⟨q, by rw [put1_ne hc]; exact hq, .inl rfl⟩
  obtain ⟨k0, hk0, ok0⟩ := h.blk b p hb
  have hlt := (List.getElem?_eq_some_iff.1 hk0).1
  refine ⟨⟨fun c q hq => ?_, fun c c' q q' hq hq' e => ?_, fun c q hq => ?_, fun r hr => ?_, ?_, ?_, fun c k' hc => ?_⟩, hev⟩
  rotate_right
  · obtain ⟨h1, h2⟩ := h.pend c k' hc
    have hcb : c ≠ b := by rintro rfl; rw [hb] at h2; cases h2
    rw [put1_ne hcb, List.getElem?_set_ne (Ne.symm hcb)]
    exact ⟨h1, h2⟩
  · by_cases hc : c = b
    · subst hc
      rw [put1_same] at hq
      obtain rfl := Option.some.inj hq
      exact ⟨k, by rw [List.getElem?_set_self hlt], hk fun v r hv => hv.ev hev⟩
    · rw [put1_ne hc] at hq
      obtain ⟨k', hk', ok⟩ := h.blk c q hq
      refine ⟨k', by rw [List.getElem?_set_ne (Ne.symm hc)]; exact hk', ok.mono (hw _ ?_ ok.lt) (fun v r hv => hv.ev hev)⟩
      intro e; exact hc (h.inj c b q p hq hb e)
  · by_cases hc : c = b <;> by_cases hc' : c' = b
    · rw [hc, hc']
    · subst hc
      rw [put1_same] at hq; obtain rfl := Option.some.inj hq
      rw [put1_ne hc'] at hq'
      rcases hrb with hrb | hrb
      · exact h.inj _ _ _ _ hb hq' (by omega)
      · obtain ⟨k', _, ok⟩ := h.blk c' q' hq'
        have := ok.lt
        omega
    · subst hc'
      rw [put1_same] at hq'; obtain rfl := Option.some.inj hq'
      rw [put1_ne hc] at hq
      rcases hrb with hrb | hrb
      · exact h.inj _ _ _ _ hq hb (by omega)
      · obtain ⟨k', _, ok⟩ := h.blk c q hq
        have := ok.lt
        omega
    · rw [put1_ne hc] at hq; rw [put1_ne hc'] at hq'
      exact h.inj c c' q q' hq hq' e
  · by_cases hc : c = b
    · subst hc; rw [put1_same] at hq; obtain rfl := Option.some.inj hq
      rcases hrb with hrb | hrb
      · rw [hrb]; exact h.low c p hb
      · have := h.size; omega
    · rw [put1_ne hc] at hq; exact h.low c q hq
  · have := h.zin r hr; have := hbel.size; omega
  · have := h.size; have := hbel.size; omega
  · exact h.glob.mono (fun _ h => h) hZ

/-- What a slice into a row, or an address in it, leads to. -/
theorem Rel.row {b : Nat} {p : Pl} {sz : Nat} {xs : List V} {opn frz : Bool} (h : Rel G B Φ Z H w) (hp : Φ b = some p) (hH : getB H b = .row sz xs opn frz) : RowOK Φ Z w p sz xs opn frz := by
  obtain ⟨k, hk, ok⟩ := h.blk b p hp
  have : getB H b = k := by simp [getB, List.getD, hk]
  rw [this] at hH
  subst hH
  exact ok

theorem Rel.iterb {b : Nat} {p : Pl} {m s l : Nat} {sn : List Nat} (h : Rel G B Φ Z H w) (hp : Φ b = some p) (hH : getB H b = .iter m s sn l) : IterOK Φ Z w p m s sn l := by
  obtain ⟨k, hk, ok⟩ := h.blk b p hp
  have : getB H b = k := by simp [getB, List.getD, hk]
  rw [this] at hH
  subst hH
  exact ok

theorem Rel.mapb {b : Nat} {p : Pl} {es : List (Nat × V × V)} {clk : Nat} (h : Rel G B Φ Z H w) (hp : Φ b = some p) (hH : getB H b = .map es clk) : MapOK Φ Z w p es clk := by
  obtain ⟨k, hk, ok⟩ := h.blk b p hp
  have : getB H b = k := by simp [getB, List.getD, hk]
  rw [this] at hH
  subst hH
  exact ok

end
end Go.MW

/- What the model's parts do, in the forms that the operations' proofs want. -/
namespace Go.MW
open Go Go.RowKit

theorem add_eq {a : Addr} (h : a.spot = none) (n : Nat) : a.add n = ⟨a.block, a.off + n, none⟩ := by
  unfold Addr.add
  split
  · subst_vars; cases a; simp_all
  · rfl

/-- A world with another block in the place of one. -/
def setBlk (w : World) (b : Nat) (o : Obj) : World := { w with heap := w.heap.setIfInBounds b o }

theorem setBlk_ne (w : World) (b : Nat) (o : Obj) {r : Nat} (h : r ≠ b) : (setBlk w b o).heap[r]? = w.heap[r]? := by
  simp only [setBlk, Array.getElem?_setIfInBounds]
  rw [if_neg (Ne.symm h)]

theorem setBlk_same {w : World} {b : Nat} (o : Obj) (h : b < w.heap.size) : (setBlk w b o).heap[b]? = some o := by
  simp [setBlk, h]

theorem setBlk_size (w : World) (b : Nat) (o : Obj) : (setBlk w b o).heap.size = w.heap.size := by simp [setBlk]

theorem setBlk_below {B : Nat} {w : World} {b : Nat} {o : Obj} (h : B ≤ b) : Below B w (setBlk w b o) :=
  ⟨rfl, rfl, rfl, by rw [setBlk_size]; exact Nat.le_refl _, fun k hk => setBlk_ne _ _ _ (by omega)⟩

theorem setBlk_setBlk (w : World) (b : Nat) (o o' : Obj) : setBlk (setBlk w b o) b o' = setBlk w b o' := by
  simp [setBlk]

theorem setBlk_self {w : World} {b : Nat} {o : Obj} (h : w.heap[b]? = some o) : setBlk w b o = w := by
  unfold setBlk
  obtain ⟨h1, h2⟩ := Array.getElem?_eq_some_iff.1 h
  have : w.heap.setIfInBounds b o = w.heap := by
    apply Array.ext
    · simp
    · intro i h3 h4
      rw [Array.getElem_setIfInBounds]
      split
      · subst_vars; rfl
      · rfl
  rw [this]

theorem cell_of {w : World} {b : Nat} {c : Array Value} {t : TypeId} {fz : Nat × Nat} (h : w.heap[b]? = some (.cells c t fz)) (o : Nat) : w.cell? ⟨b, o, none⟩ = c[o]? := by
  simp [World.cell?, h]

theorem cell_getD {w : World} {b : Nat} {c : Array Value} {t : TypeId} {fz : Nat × Nat} (h : w.heap[b]? = some (.cells c t fz)) {o : Nat} (ho : o < c.size) : w.cell? ⟨b, o, none⟩ = some (c.getD o undef) := by
  rw [cell_of h]
  simp [Array.getD, ho]

theorem frozen_of {w : World} {b : Nat} {c : Array Value} {t : TypeId} {fz : Nat × Nat} (h : w.heap[b]? = some (.cells c t fz)) (hfz : fz.2 ≤ fz.1 ∨ c.size ≤ fz.1) {o : Nat} (ho : o < c.size) : w.frozen? ⟨b, o, none⟩ = false := by
  simp only [World.frozen?, h]
  obtain ⟨lo, hi⟩ := fz
  simp only at hfz ⊢
  simp
  omega

theorem setCell_of {w : World} {b : Nat} {c : Array Value} {t : TypeId} {fz : Nat × Nat} (h : w.heap[b]? = some (.cells c t fz)) (o : Nat) (v : Value) : w.setCell ⟨b, o, none⟩ v = setBlk w b (.cells (c.setIfInBounds o v) t fz) := by
  obtain ⟨h1, h2⟩ := Array.getElem?_eq_some_iff.1 h
  unfold World.setCell setBlk
  congr 1
  apply Array.ext
  · simp
  · intro i h3 h4
    have h5 : i < w.heap.size := by simpa using h4
    rw [Array.getElem_modify, Array.getElem_setIfInBounds h5]
    by_cases hi : b = i
    · subst hi; simp [h2]
    · simp [hi]

section
variable {P : Program}

theorem run_storeCells_of : ∀ (vs : List Value) (b o i : Nat) (w : World) (c : Array Value) (t : TypeId) (fz : Nat × Nat), w.heap[b]? = some (.cells c t fz) → (fz.2 ≤ fz.1 ∨ c.size ≤ fz.1) →
    o + i + vs.length ≤ c.size → (∀ v ∈ vs, v.oneCell' = true) →
    ∃ c' : Array Value, c'.size = c.size ∧ (storeCells ⟨b, o, none⟩ vs i).run P w = .ok () (setBlk w b (.cells c' t fz)) ∧
      ∀ q, c'.getD q undef = if o + i ≤ q ∧ q < o + i + vs.length then vs.getD (q - (o + i)) undef else c.getD q undef
  | [], b, o, i, w, c, t, fz, hg, _, _, _ => ⟨c, rfl, by rw [setBlk_self hg]; rfl, fun q => by rw [if_neg (by rintro ⟨h1, h2⟩; simp at h2; omega)]⟩
  | v :: r, b, o, i, w, c, t, fz, hg, hf, hl, h1 => by
    have hi : o + i < c.size := by simp at hl; omega
    have hlt : b < w.heap.size := (Array.getElem?_eq_some_iff.1 hg).1
    have hst : (store ((⟨b, o, none⟩ : Addr).add i) v).run P w = .ok () (setBlk w b (.cells (c.setIfInBounds (o + i) v) t fz)) := by
      rw [add_eq rfl, run_store P w _ v _ (h1 v (by simp)), cell_getD hg hi]
      simp only [frozen_of hg hf hi, setCell_of hg]
      simp
    obtain ⟨c', hs, hr, hq⟩ := run_storeCells_of r b o (i + 1) (setBlk w b (.cells (c.setIfInBounds (o + i) v) t fz)) _ t fz (setBlk_same _ hlt) (by simpa using hf) (by simp at hl ⊢; omega) (fun x hx => h1 x (by simp [hx]))
    refine ⟨c', by simpa using hs, ?_, fun q => ?_⟩
    · simp only [storeCells, Sem.run_bind, hst, Result.andThen_ok, hr, setBlk_setBlk]
    · rw [hq]
      simp only [List.length_cons]
      by_cases h2 : q = o + i
      · subst h2
        rw [if_neg (by omega), if_pos (by omega), Nat.sub_self]
        simp [Array.getD, hi]
      · by_cases h3 : o + (i + 1) ≤ q ∧ q < o + (i + 1) + r.length
        · rw [if_pos h3, if_pos (by omega)]
          have : q - (o + i) = (q - (o + (i + 1))) + 1 := by omega
          rw [this, List.getD_cons_succ]
        · rw [if_neg h3, if_neg (by omega)]
          simp only [Array.getD_eq_getD_getElem?, Array.getElem?_setIfInBounds]
          rw [if_neg (Ne.symm h2)]

theorem aggT_none {t : TypeId} (h : aggT P t = some none) (w : World) : (isAgg t).run P w = .ok false w ∧ sizeT P t = some 1 := by
  unfold aggT at h
  split at h <;> simp_all
  rename_i d i hd hi h1 h2
  constructor
  · simp only [isAgg, Sem.run_bind, run_underlying h1, Result.andThen_ok]
    cases d <;> simp_all
  · simp [sizeT, h2, h]

theorem aggT_some {t : TypeId} {n : Nat} (h : aggT P t = some (some n)) (w : World) : (isAgg t).run P w = .ok true w ∧ (sizeOf t).run P w = .ok n w ∧ sizeT P t = some n := by
  unfold aggT at h
  split at h <;> simp_all
  · rename_i h1 h2
    refine ⟨by simp [isAgg, run_underlying h1], by simp [sizeOf, typeInfo, h2, h], by simp [sizeT, h2, h]⟩
  · rename_i h1 h2
    refine ⟨by simp [isAgg, run_underlying h1], by simp [sizeOf, typeInfo, h2, h], by simp [sizeT, h2, h]⟩

theorem run_sizeT {t : TypeId} {n : Nat} (h : sizeT P t = some n) (w : World) : (sizeOf t).run P w = .ok n w := by
  simp only [sizeT, Option.map_eq_some_iff] at h
  obtain ⟨i, hi, rfl⟩ := h
  simp [sizeOf, typeInfo, hi]

theorem run_bytesT {t : TypeId} {n : Nat} (h : bytesT P t = some n) (w : World) : ∃ i, (typeInfo t).run P w = .ok i w ∧ i.bytes = n := by
  simp only [bytesT, Option.map_eq_some_iff] at h
  obtain ⟨i, hi, rfl⟩ := h
  exact ⟨i, by simp [typeInfo, hi], rfl⟩

theorem ofVal1_sound {Φ : Nat → Option Pl} {Z : Nat → Prop} {w : World} {v : Value} {x : V} (h : ofVal1 v = some x) : VR Φ Z w x v ∧ x.cells = [x] ∧ v.cells = #[v] := by
  unfold ofVal1 at h
  split at h <;> simp at h <;> subst h
  · exact ⟨.bool _, rfl, rfl⟩
  · exact ⟨.int _ _, rfl, rfl⟩
  · rename_i s
    refine ⟨?_, rfl, rfl⟩
    have := VR.str (Φ := Φ) (Z := Z) (w := w) s.data.toList
    rw [Array.toArray_toList] at this
    exact this
  · exact ⟨.nilp, rfl, rfl⟩
  · exact ⟨.nils, rfl, rfl⟩
  · exact ⟨.nilf, rfl, rfl⟩

theorem ofVals_sound {Φ : Nat → Option Pl} {Z : Nat → Prop} {w : World} : ∀ {vs : List Value} {xs : List V}, ofVals vs = some xs → xs.length = vs.length ∧ ∀ i, i < xs.length → VR Φ Z w (xs.getD i .junk) (vs.getD i undef)
  | [], xs, h => by simp [ofVals] at h; subst h; simp
  | v :: r, xs, h => by
    simp only [ofVals] at h
    split at h <;> simp at h
    subst h
    rename_i x ys hx hy
    obtain ⟨h1, h2⟩ := ofVals_sound hy (Φ := Φ) (Z := Z) (w := w)
    refine ⟨by simp [h1], fun i hi => ?_⟩
    cases i with
    | zero => exact (ofVal1_sound hx).1
    | succ i => simp only [List.getD_cons_succ]; exact h2 i (by simpa using hi)

theorem ofVal_sound {Φ : Nat → Option Pl} {Z : Nat → Prop} {w : World} {v : Value} {x : V} (h : ofVal v = some x) : VR Φ Z w x v := by
  unfold ofVal at h
  split at h
  · simp only [Option.map_eq_some_iff] at h
    obtain ⟨xs, h1, rfl⟩ := h
    rename_i cs
    obtain ⟨h2, h3⟩ := ofVals_sound h1 (Φ := Φ) (Z := Z) (w := w)
    refine .agg _ _ (by simpa using h2.symm) fun i hi => ?_
    have := h3 i hi
    simpa [Array.getD_eq_getD_getElem?, List.getD_eq_getElem?_getD] using this
  · exact (ofVal1_sound h).1

/-- A value's cells, against the abstract one's. -/
theorem VR.cells {Φ : Nat → Option Pl} {Z : Nat → Prop} {w : World} {x : V} {v : Value} (h : VR Φ Z w x v) (hs : x.solid = true) :
    v.cells.size = x.cells.length ∧ ∀ j, j < x.cells.length → VR Φ Z w (x.cells.getD j .junk) (v.cells.getD j undef) := by
  cases h with
  | junk v => simp [V.solid] at hs
  | tup => simp [V.solid] at hs
  | agg cs rs hl h =>
    exact ⟨hl, h⟩
  | _ => 
    refine ⟨rfl, fun j hj => ?_⟩
    obtain rfl : j = 0 := by simp [V.cells] at hj; omega
    first
      | exact .bool _ | exact .int _ _ | exact .str _ | exact .nilp | exact .nilf | exact .nils | exact .vs0 _ _
      | (simp [V.cells, Value.cells, Array.getD]; constructor <;> assumption)
      | (simp [V.cells, Value.cells, Array.getD]; constructor)

theorem one_of_good {x : V} (h : x.one = true) : x.solid = true ∧ x.cells = [x] := by
  cases x <;> simp_all [V.one, V.solid, V.cells]

theorem oneCell_of {Φ : Nat → Option Pl} {Z : Nat → Prop} {w : World} {x : V} {v : Value} (h : VR Φ Z w x v) (hs : x.one = true) : v.oneCell' = true := by
  cases h <;> first | rfl | simp [V.one] at hs

theorem good_solid {n : Nat} {v : V} (h : Good n v) : v.solid = true := by
  cases v <;> first | rfl | (have := h.2 _ (by simp [V.cells]; rfl); simp [V.one] at this)

theorem zeroT_spec {t : TypeId} {z : V} {n : Nat} (h : zeroT P t = some (z, n)) : ∃ (i : TypeInfo) (zv : Value), P.info? t = some i ∧ i.zero = some zv ∧ ofVal zv = some z ∧ z.cells.length = n ∧ i.size = n := by
  unfold zeroT at h
  split at h
  · cases h
  rename_i i hi
  split at h
  · cases h
  rename_i zv hz
  split at h
  · cases h
  rename_i v hv
  split at h
  · rename_i hl
    simp at h
    obtain ⟨rfl, rfl⟩ := h
    exact ⟨i, zv, hi, hz, hv, hl, rfl⟩
  · cases h

theorem run_zeroValue_of {t : TypeId} {i : TypeInfo} {zv : Value} (hi : P.info? t = some i) (hz : i.zero = some zv) (w : World) : (zeroValue t).run P w = .ok zv w := by
  simp [zeroValue, typeInfo, hi, hz]

theorem solid_of_ofVal {zv : Value} {z : V} (h : ofVal zv = some z) : z.solid = true := by
  unfold ofVal at h
  split at h
  · simp only [Option.map_eq_some_iff] at h
    obtain ⟨xs, h1, rfl⟩ := h
    rfl
  · unfold ofVal1 at h
    split at h <;> simp at h <;> subst h <;> rfl

end
end Go.MW

/- Each operation of the small code against the model's: what it comes to, where its abstract precondition holds. -/
namespace Go.MW
open Go Go.RowKit
set_option linter.unusedVariables false
set_option linter.unusedSimpArgs false

/-- The slots of a frame. -/
def FrR (Φ : Nat → Option Pl) (Z : Nat → Prop) (w : World) (fr : Fr) (a : Act) : Prop := ∀ i, VR Φ Z w (get fr i) (a.tmps.getD i undef)

/-- An operation comes to a value, in a world, that are as told. -/
def Comes' (P : Program) (G : Nat → Option (List V)) (B : Bd) (o : Oper) (a : Act) (w : World) (Φ : Nat → Option Pl) (Z : Nat → Prop) (K : V → List Blk → Prop) : Prop :=
  ∀ (next : Act → World → Prop) (Q : Exit → Act → World → Prop),
    (∀ rv v H' Φ' Z' w', K v H' → VR Φ' Z' w' v rv → Rel G B Φ' Z' H' w' → Ev B Φ Z w Φ' Z' w' → next (a.put o.dst rv) w') → o.wp P a w next Q

section
variable {P : Program} {G : Nat → Option (List V)} {B : Bd} {Φ : Nat → Option Pl} {Z : Nat → Prop} {H : List Blk} {w : World} {a : Act} {fr : Fr} {K : V → List Blk → Prop} {o : Oper}

theorem Comes'.value {rv : Value} {v : V} {H' : List Blk} {Φ' : Nat → Option Pl} {Z' : Nat → Prop} {w' : World} (hr : (execOp a.eval o).run P w = .ok (.value rv) w') (hk : K v H') (hv : VR Φ' Z' w' v rv)
    (hrel : Rel G B Φ' Z' H' w') (hev : Ev B Φ Z w Φ' Z' w') : Comes' P G B o a w Φ Z K := by
  intro next Q hn
  unfold Oper.wp
  rw [hr, Oper.upon_value]
  exact hn _ _ _ _ _ _ hk hv hrel hev

theorem Comes'.skip {H' : List Blk} {Φ' : Nat → Option Pl} {Z' : Nat → Prop} {w' : World} (hr : (execOp a.eval o).run P w = .ok .skip w') (hk : K .junk H')
    (hrel : Rel G B Φ' Z' H' w') (hev : Ev B Φ Z w Φ' Z' w') : Comes' P G B o a w Φ Z K := by
  intro next Q hn
  unfold Oper.wp
  rw [hr, Oper.upon_skip]
  exact hn _ _ _ _ _ _ hk (.junk _) hrel hev

/-- An operation reads: a value, the world as it was. -/
def Reads (P : Program) (o : Oper) (a : Act) (w : World) (Φ : Nat → Option Pl) (Z : Nat → Prop) (C : V → Prop) : Prop :=
  ∃ rv v, (execOp a.eval o).run P w = .ok (.value rv) w ∧ C v ∧ VR Φ Z w v rv

theorem Reads.here {rv : Value} {v : V} (hr : (execOp a.eval o).run P w = .ok (.value rv) w) (hrel : Rel G B Φ Z H w) (hk : K v H) (hv : VR Φ Z w v rv) : Reads P o a w Φ Z (K · H) :=
  ⟨rv, v, hr, hk, hv⟩

theorem Reads.comes (h : Reads P o a w Φ Z (K · H)) (hrel : Rel G B Φ Z H w) : Comes' P G B o a w Φ Z K := by
  obtain ⟨rv, v, hr, hk, hv⟩ := h
  exact .value hr hk hv hrel (Ev.refl _ _ _ _)

theorem ev_sound {x : Operand} {y : Opd} (hg : GlobOK G Z w) (hf : FrR Φ Z w fr a) (h : opd x = some y) : VR Φ Z w (ev G fr y) (a.eval x) := by
  cases x with
  | tmp t => simp [opd] at h; subst h; exact hf t
  | const v =>
    simp only [opd, Option.map_eq_some_iff] at h
    obtain ⟨c, hc, rfl⟩ := h
    exact ofVal_sound hc
  | global g =>
    simp [opd] at h
    subst h
    simp only [ev]
    split
    · rename_i cs hcs
      obtain ⟨hz, c, h1, h2⟩ := hg g cs hcs
      exact .vp cs ⟨g, 0, none⟩ c rfl hz (fun j hj => by simpa using h1 j hj) (fun j hj => (h2 j hj).mono (fun _ h => h) (fun _ _ => rfl) (fun b p hp => by cases hp))
    · exact .junk _
  | func f =>
    simp [opd] at h
    subst h
    exact .fn _ _ _ _ _ rfl rfl (by simp) (by simp)

theorem evs_sound (hg : GlobOK G Z w) (hf : FrR Φ Z w fr a) : ∀ {xs : List Operand} {ys : List Opd}, opds xs = some ys → VRs Φ Z w (evs G fr ys) (xs.map a.eval).toArray
  | [], ys, h => by simp [opds] at h; subst h; exact ⟨rfl, by simp [evs]⟩
  | x :: r, ys, h => by
    simp only [opds] at h
    split at h <;> simp at h
    subst h
    rename_i y zs hx hr
    obtain ⟨h1, h2⟩ := evs_sound hg hf hr
    refine ⟨by simp [evs] at h1 ⊢; exact h1, fun i hi => ?_⟩
    cases i with
    | zero => simpa [evs, Array.getD] using ev_sound hg hf hx
    | succ i =>
      have := h2 i (by simpa [evs] using hi)
      simpa [evs, Array.getD_eq_getD_getElem?, List.getD_eq_getElem?_getD] using this

theorem opdO_some {x : Option Operand} {y : Option Opd} (h : opdO x = some y) : (x = none ∧ y = none) ∨ ∃ x' y', x = some x' ∧ y = some y' ∧ opd x' = some y' := by
  cases x with
  | none => simp [opdO] at h; exact .inl ⟨rfl, h.symm⟩
  | some x =>
    simp only [opdO, Option.map_eq_some_iff] at h
    obtain ⟨c, hc, rfl⟩ := h
    exact .inr ⟨x, c, rfl, rfl, hc⟩

/-- What an abstract value tells of the value: by its kind. -/
theorem VR.int_inv {k : IntKind} {n : Int} {r : Value} (h : VR Φ Z w (.int k n) r) : r = .int k n := by cases h; rfl
theorem VR.bool_inv {b : Bool} {r : Value} (h : VR Φ Z w (.bool b) r) : r = .bool b := by cases h; rfl
theorem VR.str_inv {s : List UInt8} {r : Value} (h : VR Φ Z w (.str s) r) : r = .string ⟨s.toArray⟩ := by cases h; rfl

/-- An address in a row. -/
theorem ptr_inv {b n i j : Nat} {r : Value} {sz : Nat} {xs : List V} {opn frz : Bool} (hrel : Rel G B Φ Z H w) (h : VR Φ Z w (.ptr b n i j) r) (hH : getB H b = .row sz xs opn frz) (hn : xs.length = n) :
    ∃ p, Φ b = some p ∧ RowOK Φ Z w p sz xs opn frz ∧ r = .pointer (some ⟨p.rb, i * sz + j, none⟩) := by
  cases h with
  | ptr _ _ _ _ p a hp hle hv =>
    have ok := hrel.row hp hH
    refine ⟨p, hp, ok, ?_⟩
    rw [hv (by rw [ok.len, hn]), ok.size]

/-- A slice into a row. -/
theorem hs_inv {b n i j len sz' : Nat} {cap : Option Nat} {r : Value} {sz : Nat} {xs : List V} {opn frz : Bool} (hrel : Rel G B Φ Z H w) (h : VR Φ Z w (.hs b n i j len cap sz') r) (hH : getB H b = .row sz xs opn frz) (hn : xs.length = n) :
    ∃ p rcap, Φ b = some p ∧ RowOK Φ Z w p sz xs opn frz ∧ r = .slice (some ⟨p.rb, i * sz + j, none⟩) len rcap ∧ len ≤ rcap ∧ capOK p i j sz' rcap cap := by
  cases h with
  | hs _ _ _ _ _ _ _ p base rcap hp hle hv =>
    have ok := hrel.row hp hH
    obtain ⟨h1, h2, h3⟩ := hv (by rw [ok.len, hn])
    exact ⟨p, rcap, hp, ok, by rw [h1, ok.size], h2, h3⟩

/-- The cells of a row's element. -/
theorem RowOK.cell {p : Pl} {sz : Nat} {xs : List V} {opn frz : Bool} (h : RowOK Φ Z w p sz xs opn frz) {i j : Nat} (hi : i < xs.length) (hj : j < sz) :
    ∃ v, w.cell? ⟨p.rb, i * sz + j, none⟩ = some v ∧ VR Φ Z w ((xs.getD i .junk).cells.getD j .junk) v := by
  obtain ⟨c, t, fz, hc, _, h1, h2, _, h4⟩ := h.row
  have : i * sz + j < c.size := by
    have : (i + 1) * sz ≤ xs.length * sz := Nat.mul_le_mul_right _ hi
    rw [Nat.add_mul] at this
    omega
  exact ⟨_, cell_getD hc this, h4 i j hi hj⟩

theorem getD_take {α : Type} (l : List α) (n i : Nat) (d : α) (h : i < n) : (l.take n).getD i d = l.getD i d := by
  simp [List.getD_eq_getElem?_getD, h]
theorem getD_drop {α : Type} (l : List α) (n i : Nat) (d : α) : (l.drop n).getD i d = l.getD (n + i) d := by
  simp [List.getD_eq_getElem?_getD]
theorem getD_range_map {α : Type} (f : Nat → α) (n i : Nat) (d : α) (h : i < n) : (((List.range n).map f).toArray).getD i d = f i := by
  simp [Array.getD_eq_getD_getElem?, h]

theorem ld_sound {t : TypeId} {x : Operand} {agg : Option Nat} {y : Opd} (hrel : Rel G B Φ Z H w) (hf : FrR Φ Z w fr a) (ho : o.op = .load t x) (ht : aggT P t = some agg) (hx : opd x = some y)
    (h : ldK agg (ev G fr y) H K) : Reads P o a w Φ Z (K · H) := by
  have hv := ev_sound (x := x) hrel.glob hf hx
  have hex : (execOp a.eval o).run P w = ((Instr.loadAt t (a.eval x)).run P w).andThen fun v w => .ok (.value v) w := by simp [execOp, ho]
  generalize a.eval x = xv at hv hex
  generalize ev G fr y = yv at hv h
  unfold ldK at h
  split at h
  · -- immutable cells
    rename_i cs
    cases hv with
    | vp _ ad c hs hz hcell hc =>
      cases agg with
      | none =>
        obtain ⟨h1, h2⟩ := h
        refine .here (rv := c 0) ?_ hrel h2 (hc 0 h1)
        have hc0 : w.cell? ad = some (c 0) := by
          have := hcell 0 h1
          cases ad
          simp at hs ⊢ this
          subst hs
          exact this
        simp [hex, Instr.loadAt, Instr.sureAddr, loadVar, (aggT_none ht w).1, hc0]
      | some n =>
        obtain ⟨h1, h2⟩ := h
        have hl : (loadCells ad n).run P w = .ok ((List.range n).map c).toArray w := run_loadCells w ad n c fun j hj => by rw [add_eq hs]; exact hcell j (by omega)
        obtain ⟨h3, h4, _⟩ := aggT_some ht w
        refine .here (rv := .agg ((List.range n).map c).toArray) ?_ hrel h2 (.agg _ _ (by simp; omega) fun i hi => ?_)
        · simp [hex, Instr.loadAt, Instr.sureAddr, loadVar, h3, h4, hl]
        · simp at hi
          rw [getD_range_map _ _ _ _ (by omega), getD_take _ _ _ _ (by omega)]
          exact hc i (by omega)
  · -- a row
    rename_i b n i j
    split at h
    · rename_i sz xs opn frz hH
      obtain ⟨h1, h2, h3⟩ := h
      obtain ⟨p, hp, ok, rfl⟩ := ptr_inv hrel hv hH h1
      cases agg with
      | none =>
        obtain ⟨h4, h5⟩ := h3
        obtain ⟨v, hc, hvr⟩ := ok.cell (i := i) (j := j) (by omega) h4
        refine .here (rv := v) ?_ hrel h5 hvr
        simp [hex, Instr.loadAt, Instr.sureAddr, loadVar, (aggT_none ht w).1, hc]
      | some m =>
        obtain ⟨h4, h5⟩ := h3
        obtain ⟨h6, h7, _⟩ := aggT_some ht w
        obtain ⟨c, tt, fz, hc, _, hsz, hle, _, hcv⟩ := ok.row
        have hin : i * sz + sz ≤ c.size := by
          have : (i + 1) * sz ≤ xs.length * sz := Nat.mul_le_mul_right _ (by omega)
          rw [Nat.add_mul] at this
          omega
        have hl : (loadCells ⟨p.rb, i * sz + j, none⟩ m).run P w = .ok ((List.range m).map fun q => c.getD (i * sz + (j + q)) undef).toArray w :=
          run_loadCells w _ m _ fun q hq => by rw [add_eq rfl]; simp only; rw [Nat.add_assoc]; exact cell_getD hc (by omega)
        have hcs := ok.csz i (by omega)
        have hsub : ∃ cs, sub (xs.getD i .junk) sz j m = .agg cs ∧ cs.length = m ∧ ∀ q, q < m → cs.getD q .junk = (xs.getD i .junk).cells.getD (j + q) .junk := by
          unfold sub
          split
          · rename_i hjm
            exact ⟨_, rfl, by omega, fun q hq => by rw [hjm.1, Nat.zero_add]⟩
          · refine ⟨_, rfl, by rw [List.length_take, List.length_drop]; omega, fun q hq => by rw [getD_take _ _ _ _ hq, getD_drop]⟩
        obtain ⟨cs, hcs1, hcs2, hcs3⟩ := hsub
        refine .here (rv := .agg ((List.range m).map fun q => c.getD (i * sz + (j + q)) undef).toArray) (v := sub (xs.getD i .junk) sz j m) ?_ hrel h5 ?_
        · simp [hex, Instr.loadAt, Instr.sureAddr, loadVar, h6, h7, hl]
        · rw [hcs1]
          refine .agg _ _ (by simp; omega) fun q hq => ?_
          rw [getD_range_map _ _ _ _ (by omega), hcs3 q (by omega)]
          exact hcv i (j + q) (by omega) (by omega)
    · exact h.elim
  · exact h.elim

theorem mv_sound {x : Operand} {y : Opd} (hrel : Rel G B Φ Z H w) (hf : FrR Φ Z w fr a) (ho : o.op = .move x ∨ o.op = .assign x) (hx : opd x = some y) (h : K (ev G fr y) H) : Reads P o a w Φ Z (K · H) := by
  refine .here (rv := a.eval x) ?_ hrel h (ev_sound hrel.glob hf hx)
  rcases ho with ho | ho <;> simp [execOp, ho]

theorem pick_sound {x y z : Operand} {x' y' z' : Opd} (hrel : Rel G B Φ Z H w) (hf : FrR Φ Z w fr a) (ho : o.op = .pick x y z) (hx : opd x = some x') (hy : opd y = some y') (hz : opd z = some z')
    (h : pickK (ev G fr x') (ev G fr y') (ev G fr z') (K · H)) : Reads P o a w Φ Z (K · H) := by
  have hv := ev_sound (x := x) hrel.glob hf hx
  have hv2 := ev_sound (x := y) hrel.glob hf hy
  have hv3 := ev_sound (x := z) hrel.glob hf hz
  unfold pickK at h
  split at h
  · rename_i t ht
    rw [ht] at hv
    have hb := hv.bool_inv
    cases t
    · exact .here (rv := a.eval z) (by simp [execOp, ho, hb, asBool]) hrel h hv3
    · exact .here (rv := a.eval y) (by simp [execOp, ho, hb, asBool]) hrel h hv2
  · exact h.elim

theorem good_cells {n : Nat} {v : V} (h : Good n v) : v.solid = true ∧ v.cells.length = n := ⟨good_solid h, h.1⟩

theorem setR_length : ∀ (l : List V) (n : Nat) (vs : List V), (setR l n vs).length = l.length
  | [], _, _ => rfl
  | a :: l, 0, [] => rfl
  | a :: l, 0, v :: vs => by simp [setR, setR_length l 0 vs]
  | a :: l, n + 1, vs => by simp [setR, setR_length l n vs]

theorem setR_getD : ∀ (l : List V) (n : Nat) (vs : List V) (q : Nat), n + vs.length ≤ l.length → (setR l n vs).getD q .junk = if n ≤ q ∧ q < n + vs.length then vs.getD (q - n) .junk else l.getD q .junk
  | [], n, vs, q, h => by
    simp at h
    obtain ⟨rfl, rfl⟩ := h
    simp [setR]
  | a :: l, 0, [], q, h => by simp [setR]
  | a :: l, 0, v :: vs, q, h => by
    simp only [setR]
    cases q with
    | zero => simp
    | succ q =>
      rw [List.getD_cons_succ, setR_getD l 0 vs q (by simpa using h)]
      simp
  | a :: l, n + 1, vs, q, h => by
    simp only [setR]
    cases q with
    | zero => simp
    | succ q =>
      rw [List.getD_cons_succ, setR_getD l n vs q (by simp at h; omega)]
      simp only [List.getD_cons_succ]
      by_cases hq : n ≤ q ∧ q < n + vs.length
      · rw [if_pos hq, if_pos (by omega)]
        congr 1
        omega
      · rw [if_neg hq, if_neg (by omega)]

theorem agg_cells (cs : List V) : (V.agg cs).cells = cs := rfl

theorem good_upd {x v : V} {sz j m : Nat} (hx : x.cells.length = sz) (hv : v.cells.length = m) (hj : j + m ≤ sz) :
    (upd x sz j m v).cells.length = sz ∧ ∀ q, (upd x sz j m v).cells.getD q .junk = if j ≤ q ∧ q < j + m then v.cells.getD (q - j) .junk else x.cells.getD q .junk := by
  unfold upd
  split
  · rename_i h
    obtain ⟨rfl, rfl⟩ := h
    refine ⟨hv, fun q => ?_⟩
    by_cases hq : q < m
    · rw [if_pos (by omega)]; simp
    · rw [if_neg (by omega)]
      simp only [List.getD_eq_getElem?_getD]
      rw [List.getElem?_eq_none (by omega), List.getElem?_eq_none (by omega)]
  · rw [agg_cells]
    refine ⟨by rw [setR_length, hx], fun q => ?_⟩
    rw [setR_getD _ _ _ _ (by omega), hv]

/-- A store into a row's element. -/
theorem Rel.setCells {b i j m : Nat} {p : Pl} {sz : Nat} {xs : List V} {opn : Bool} {x : V} {vs : List Value} {xv : V} {r0 : Nat} (hrel : Rel G B Φ Z H w) (hp : Φ b = some p) (ok : RowOK Φ Z w p sz xs opn false)
    (hi : i < xs.length) (hj : j + vs.length ≤ sz) (h1 : ∀ v ∈ vs, v.oneCell' = true) (hx : x.cells.length = sz)
    (hc : ∀ q, q < sz → (j ≤ q ∧ q < j + vs.length → VR Φ Z w (x.cells.getD q .junk) (vs.getD (q - j) undef)) ∧ (¬ (j ≤ q ∧ q < j + vs.length) → x.cells.getD q .junk = (xs.getD i .junk).cells.getD q .junk)) :
    ∃ w' Φ', (storeCells ⟨p.rb, i * sz + j, none⟩ vs).run P w = .ok () w' ∧ Rel G B Φ' Z (H.set b (.row sz (xs.set i x) opn false)) w' ∧ Ev B Φ Z w Φ' Z w' := by
  obtain ⟨c, t, fz, hcb, hfz, hsz, hle, hop, hcv⟩ := ok.row
  have hin : i * sz + sz ≤ c.size := by
    have : (i + 1) * sz ≤ xs.length * sz := Nat.mul_le_mul_right _ (by omega)
    rw [Nat.add_mul] at this
    omega
  obtain ⟨c', hs', hr, hq⟩ := run_storeCells_of (P := P) vs p.rb (i * sz + j) 0 w c t fz hcb hfz (by omega) h1
  have hlt : p.rb < w.heap.size := (Array.getElem?_eq_some_iff.1 hcb).1
  have := hrel.write (b := b) (k := .row sz (xs.set i x) opn false) (p := p) (p' := p) (w' := setBlk w p.rb (.cells c' t fz)) hp (ok.z.2 rfl) (.inl rfl) (.inl rfl) (setBlk_below (hrel.low b p hp)) (fun r hr _ => setBlk_ne _ _ _ hr) (fun vr => ?_)
  · exact ⟨_, _, hr, this.1, this.2⟩
  · refine ⟨by simpa using ok.len, ok.size, fun e he => ?_, ⟨c', t, fz, setBlk_same _ hlt, by rw [hs']; exact hfz, by rw [hs']; exact hsz, by simpa using hle, by simpa using hop, fun e q he hqs => ?_⟩, ok.z⟩
    · simp only [List.length_set] at he
      by_cases hei : e = i
      · subst hei
        simpa [List.getD_eq_getElem?_getD, he] using hx
      · have := ok.csz e he
        simpa [List.getD_eq_getElem?_getD, List.getElem?_set_ne (Ne.symm hei)] using this
    · simp only [List.length_set] at he
      refine vr _ _ ?_
      rw [hq]
      simp only [Nat.add_zero]
      by_cases hei : e = i
      · subst hei
        have hx' : ((xs.set e x).getD e .junk) = x := by simp [List.getD_eq_getElem?_getD, he]
        rw [hx']
        by_cases hin' : j ≤ q ∧ q < j + vs.length
        · rw [if_pos (by omega), show e * sz + q - (e * sz + j) = q - j by omega]
          exact (hc q hqs).1 hin'
        · rw [if_neg (by omega), (hc q hqs).2 hin']
          exact hcv e q he hqs
      · have hx' : ((xs.set i x).getD e .junk) = xs.getD e .junk := by simp [List.getD_eq_getElem?_getD, List.getElem?_set_ne (Ne.symm hei)]
        rw [hx', if_neg]
        · exact hcv e q he hqs
        · intro hh
          have h2 : e * sz + q < i * sz + sz := by omega
          have h3 : i * sz < (e + 1) * sz := by rw [Nat.add_mul]; omega
          have h4 : e * sz < (i + 1) * sz := by rw [Nat.add_mul]; omega
          have h5 := Nat.lt_of_mul_lt_mul_right h3
          have h6 := Nat.lt_of_mul_lt_mul_right h4
          omega

theorem st_sound {t : TypeId} {x v : Operand} {n : Nat} {y u : Opd} (hrel : Rel G B Φ Z H w) (hf : FrR Φ Z w fr a) (ho : o.op = .store t x v) (ht : sizeT P t = some n) (hx : opd x = some y) (hv : opd v = some u)
    (h : stK n (ev G fr y) (ev G fr u) H K) : Comes' P G B o a w Φ Z K := by
  have hxv := ev_sound (x := x) hrel.glob hf hx
  have hvv := ev_sound (x := v) hrel.glob hf hv
  have hex : (execOp a.eval o).run P w = ((Instr.storeAt t (a.eval x) (a.eval v)).run P w).andThen fun _ w => .ok .skip w := by simp [execOp, ho]
  generalize a.eval x = xr at hxv hex
  generalize a.eval v = vr at hvv hex
  generalize ev G fr y = xa at hxv h
  generalize ev G fr u = va at hvv h
  obtain ⟨hgood, h⟩ := h
  obtain ⟨hsol, hlen⟩ := good_cells hgood
  obtain ⟨hc1, hc2⟩ := hvv.cells hsol
  split at h
  · rename_i b m i j
    split at h
    · rename_i sz xs opn frz hH
      obtain ⟨h1, h2, h3, rfl, h5⟩ := h
      obtain ⟨p, hp, ok, rfl⟩ := ptr_inv hrel hxv hH h1
      obtain ⟨hu1, hu2⟩ := good_upd (x := xs.getD i .junk) (v := va) (ok.csz i (by omega)) hlen h3
      have hvl : vr.cells.toList.length = n := by simp; omega
      have one : ∀ q ∈ vr.cells.toList, q.oneCell' = true := by
        intro q hq
        obtain ⟨e, he, rfl⟩ := List.getElem_of_mem hq
        have he' : e < va.cells.length := by simp at he; omega
        have hr := hc2 e he'
        have hg := hgood.2 (va.cells.getD e .junk) (by simp [List.getD_eq_getElem?_getD, he'])
        have := oneCell_of hr hg
        have he2 : e < vr.cells.size := by simpa using he
        simpa [Array.getD, he2] using this
      obtain ⟨w', Φ', hr, hrel', hev⟩ := Rel.setCells (P := P) (i := i) (j := j) (x := upd (xs.getD i .junk) sz j n va) (vs := vr.cells.toList) (m := n) (xv := va) (r0 := 0) hrel hp ok (by omega) (by omega) one hu1 (fun q hq => by
        rw [hu2, hvl]
        refine ⟨fun hh => ?_, fun hh => ?_⟩
        · rw [if_pos hh]
          have := hc2 (q - j) (by omega)
          simpa [Array.getD_eq_getD_getElem?, List.getD_eq_getElem?_getD] using this
        · rw [if_neg hh])
      refine .skip (w' := w') (Φ' := Φ') (Z' := Z) ?_ h5 hrel' hev
      rw [hex]
      have hs : vr.cells.size = n := by omega
      simp [Instr.storeAt, Instr.sureAddr, storeVar, run_sizeT ht, hs, hr]
    · exact h.elim
  · exact h.elim

end
end Go.MW

/- Operations that touch no memory, or read it. -/
namespace Go.MW
open Go Go.RowKit
set_option linter.unusedVariables false
set_option linter.unusedSimpArgs false

section
variable {P : Program} {G : Nat → Option (List V)} {B : Bd} {Φ : Nat → Option Pl} {Z : Nat → Prop} {H : List Blk} {w : World} {a : Act} {fr : Fr} {K : V → List Blk → Prop} {o : Oper}

theorem nchk_sound {x : Operand} {y : Opd} (hrel : Rel G B Φ Z H w) (hf : FrR Φ Z w fr a) (ho : o.op = .nilCheck x) (hx : opd x = some y) (h : nchkK (ev G fr y) (K · H)) : Reads P o a w Φ Z (K · H) := by
  have hv := ev_sound (x := x) hrel.glob hf hx
  have hex : (execOp a.eval o).run P w = (match a.eval x with
    | .pointer none | .nilIface | .nilFunc => (runtimePanic .nilDeref : Sem Next)
    | .func (.method name) first captured =>
      match (first[0]? : Option Value) with
      | some .nilIface => runtimePanic .nilDeref
      | some (.iface t w) => do
        if (← nilAhead ((← program).types.size + Made.depth) t w name) != some false then
          unsupported (.noEntry "op/nilCheck.the method's receiver behind this interface value is a nil pointer, or cannot be seen to be none, and the arguments act or may panic (ledger 612)")
        pure (.value (.func (.method name) first captured))
      | _ => pure (.value (.func (.method name) first captured))
    | x => pure (.value x)).run P w := by simp only [execOp, ho]; rfl
  generalize a.eval x = xv at hv hex
  generalize ev G fr y = yv at hv h
  unfold nchkK at h
  split at h
  · cases hv with
    | vp _ ad c h1 h2 h3 h4 => exact .here (rv := .pointer (some ad)) (by rw [hex]; try rfl) hrel h (.vp _ ad c h1 h2 h3 h4)
  · cases hv with
    | ptr _ _ _ _ p ad h1 h2 h3 => exact .here (rv := .pointer (some ad)) (by rw [hex]; try rfl) hrel h (.ptr _ _ _ _ p ad h1 h2 h3)
  · cases hv with
    | fn _ _ _ rf rc h1 h2 h3 h4 => exact .here (rv := .func _ rf rc) (by rw [hex]; try rfl) hrel h (.fn _ _ _ rf rc h1 h2 h3 h4)
  · exact h.elim

theorem bytes_toList (s : List UInt8) : (⟨s.toArray⟩ : ByteArray).toList = s := by
  rw [ByteArray.toList_eq]

theorem bin_sound {op : BinOp} {t u : TypeId} {x y : Operand} {x' y' : Opd} (hrel : Rel G B Φ Z H w) (hf : FrR Φ Z w fr a) (ho : o.op = .binOp op t x y u) (hx : opd x = some x') (hy : opd y = some y')
    (h : binK op (ev G fr x') (ev G fr y') (K · H)) : Reads P o a w Φ Z (K · H) := by
  have hv := ev_sound (x := x) hrel.glob hf hx
  have hv2 := ev_sound (x := y) hrel.glob hf hy
  have hex : (execOp a.eval o).run P w = (Sem.run P (do eqGuard op t x y (a.eval x) (a.eval y); binOp op t (a.eval x) (a.eval y)) w).andThen fun v w => .ok (.value v) w := by
    simp only [execOp, ho, Sem.run_bind]
    cases (eqGuard op t x y (a.eval x) (a.eval y)).run P w <;> rfl
  generalize a.eval x = xv at hv hex
  generalize a.eval y = yv at hv2 hex
  generalize ev G fr x' = xa at hv h
  generalize ev G fr y' = ya at hv2 h
  unfold binK at h
  split at h
  · rename_i k p k' q
    obtain rfl := hv.int_inv
    obtain rfl := hv2.int_inv
    have hg : (eqGuard op t x y (.int k p) (.int k' q)).run P w = .ok () w := by unfold eqGuard; cases op <;> rfl
    rw [Sem.run_bind, hg, Result.andThen_ok] at hex
    cases op <;> simp only at h
    case add => obtain ⟨rfl, h⟩ := h; exact .here (rv := .int k _) (by rw [hex]; simp [binOp, Op.intArith]; try rfl) hrel h (.int _ _)
    case sub => obtain ⟨rfl, h⟩ := h; exact .here (rv := .int k _) (by rw [hex]; simp [binOp, Op.intArith]; try rfl) hrel h (.int _ _)
    case mul => obtain ⟨rfl, h⟩ := h; exact .here (rv := .int k _) (by rw [hex]; simp [binOp, Op.intArith]; try rfl) hrel h (.int _ _)
    case quo => obtain ⟨rfl, h0, h⟩ := h; exact .here (rv := .int k _) (by rw [hex]; simp [binOp, Op.intDiv, h0]; try rfl) hrel h (.int _ _)
    case rem => obtain ⟨rfl, h0, h⟩ := h; exact .here (rv := .int k _) (by rw [hex]; simp [binOp, Op.intDiv, h0]; try rfl) hrel h (.int _ _)
    case and => obtain ⟨rfl, h⟩ := h; exact .here (rv := .int k _) (by rw [hex]; simp [binOp, Op.intBits, bitOp]; try rfl) hrel h (.int _ _)
    case or => obtain ⟨rfl, h⟩ := h; exact .here (rv := .int k _) (by rw [hex]; simp [binOp, Op.intBits, bitOp]; try rfl) hrel h (.int _ _)
    case xor => obtain ⟨rfl, h⟩ := h; exact .here (rv := .int k _) (by rw [hex]; simp [binOp, Op.intBits, bitOp]; try rfl) hrel h (.int _ _)
    case andNot => obtain ⟨rfl, h⟩ := h; exact .here (rv := .int k _) (by rw [hex]; simp [binOp, Op.intBits, bitOp]; try rfl) hrel h (.int _ _)
    case shl => obtain ⟨h0, h⟩ := h; exact .here (rv := .int k _) (by rw [hex]; simp [binOp, Op.shift, Int.not_lt.2 h0]; try rfl) hrel h (.int _ _)
    case shr => obtain ⟨h0, h⟩ := h; exact .here (rv := .int k _) (by rw [hex]; simp [binOp, Op.shift, Int.not_lt.2 h0]; try rfl) hrel h (.int _ _)
    case eql => obtain ⟨rfl, h⟩ := h; exact .here (rv := .bool _) (by rw [hex]; simp [binOp, Op.intCmp]; try rfl) hrel h (.bool _)
    case neq => obtain ⟨rfl, h⟩ := h; exact .here (rv := .bool _) (by rw [hex]; simp [binOp, Op.intCmp]; try rfl) hrel h (.bool _)
    case lss => obtain ⟨rfl, h⟩ := h; exact .here (rv := .bool _) (by rw [hex]; simp [binOp, Op.intCmp]; try rfl) hrel h (.bool _)
    case leq => obtain ⟨rfl, h⟩ := h; exact .here (rv := .bool _) (by rw [hex]; simp [binOp, Op.intCmp]; try rfl) hrel h (.bool _)
    case gtr => obtain ⟨rfl, h⟩ := h; exact .here (rv := .bool _) (by rw [hex]; simp [binOp, Op.intCmp]; try rfl) hrel h (.bool _)
    case geq => obtain ⟨rfl, h⟩ := h; exact .here (rv := .bool _) (by rw [hex]; simp [binOp, Op.intCmp]; try rfl) hrel h (.bool _)
  · rename_i p q
    obtain rfl := hv.str_inv
    obtain rfl := hv2.str_inv
    have hg : (eqGuard op t x y (.string ⟨p.toArray⟩) (.string ⟨q.toArray⟩)).run P w = .ok () w := by unfold eqGuard; cases op <;> rfl
    rw [Sem.run_bind, hg, Result.andThen_ok] at hex
    have hb1 := bytes_toList p
    have hb2 := bytes_toList q
    cases op <;> simp only at h
    case add =>
      obtain ⟨h0, h⟩ := h
      refine .here (rv := .string ⟨(p ++ q).toArray⟩) ?_ hrel h (.str _)
      rw [hex]
      have : ¬ (((⟨p.toArray⟩ : ByteArray).size + (⟨q.toArray⟩ : ByteArray).size : Nat) : Int) > IntKind.i64.max := by
        have e1 : (⟨p.toArray⟩ : ByteArray).size = p.length := by simp [ByteArray.size]
        have e2 : (⟨q.toArray⟩ : ByteArray).size = q.length := by simp [ByteArray.size]
        rw [e1, e2]
        have : IntKind.i64.max = 2 ^ 63 - 1 := rfl
        omega
      simp only [binOp, Op.stringOp]
      rw [if_neg this]
      have e : (⟨p.toArray⟩ : ByteArray) ++ ⟨q.toArray⟩ = ⟨(p ++ q).toArray⟩ := by
        apply ByteArray.ext
        simp
      simp [e]
    case eql => exact .here (rv := .bool _) (by rw [hex]; simp [binOp, Op.stringOp, hb1, hb2]; try rfl) hrel h (.bool _)
    case neq => exact .here (rv := .bool (p != q)) (by rw [hex]; simp only [binOp, Op.stringOp, hb1, hb2]; rfl) hrel h (.bool _)
    case lss => exact .here (rv := .bool _) (by rw [hex]; simp [binOp, Op.stringOp, hb1, hb2]; try rfl) hrel h (.bool _)
    case leq => exact .here (rv := .bool _) (by rw [hex]; simp [binOp, Op.stringOp, hb1, hb2]; try rfl) hrel h (.bool _)
    case gtr => exact .here (rv := .bool _) (by rw [hex]; simp [binOp, Op.stringOp, hb1, hb2]; try rfl) hrel h (.bool _)
    case geq => exact .here (rv := .bool _) (by rw [hex]; simp [binOp, Op.stringOp, hb1, hb2]; try rfl) hrel h (.bool _)
  · exact h.elim

theorem un_sound {op : UnOp} {t : TypeId} {x : Operand} {x' : Opd} (hrel : Rel G B Φ Z H w) (hf : FrR Φ Z w fr a) (ho : o.op = .unOp op t x) (hx : opd x = some x')
    (h : unK op (ev G fr x') (K · H)) : Reads P o a w Φ Z (K · H) := by
  have hv := ev_sound (x := x) hrel.glob hf hx
  have hex : (execOp a.eval o).run P w = ((Op.unary op (a.eval x)).run P w).andThen fun v w => .ok (.value v) w := by simp [execOp, ho]
  generalize a.eval x = xv at hv hex
  generalize ev G fr x' = xa at hv h
  unfold unK at h
  split at h
  · obtain rfl := hv.bool_inv
    exact .here (rv := .bool _) (by rw [hex]; simp [Op.unary]; try rfl) hrel h (.bool _)
  · obtain rfl := hv.int_inv
    exact .here (rv := .int _ _) (by rw [hex]; simp [Op.unary, Op.intArith]; try rfl) hrel h (.int _ _)
  · obtain rfl := hv.int_inv
    exact .here (rv := .int _ _) (by rw [hex]; simp [Op.unary, Op.intBits, bitOp]; try rfl) hrel h (.int _ _)
  · exact h.elim

theorem cvi_sound {s d : TypeId} {k ks : IntKind} {x : Operand} {x' : Opd} {n : Int} {kv : IntKind} (hrel : Rel G B Φ Z H w) (hf : FrR Φ Z w fr a) (ho : o.op = .convert s d x) (hs : P.underlying s = some (.int ks)) (hd : P.underlying d = some (.int k)) (hx : opd x = some x')
    (hn : ev G fr x' = .int kv n) (h : K (.int k (k.wrap n)) H) : Reads P o a w Φ Z (K · H) := by
  have hv := ev_sound (x := x) hrel.glob hf hx
  rw [hn] at hv
  have hi := hv.int_inv
  exact .here (rv := .int k (k.wrap n)) (by simp [execOp, ho, hi, convert, run_underlying hs, run_underlying hd, Conv.intToInt]) hrel h (.int _ _)

theorem ext_sound {x : Operand} {x' : Opd} {i : Nat} (hrel : Rel G B Φ Z H w) (hf : FrR Φ Z w fr a) (ho : o.op = .extract x i) (hx : opd x = some x') (h : extK (ev G fr x') i (K · H)) : Reads P o a w Φ Z (K · H) := by
  have hv := ev_sound (x := x) hrel.glob hf hx
  have hex : (execOp a.eval o).run P w = ((Instr.extract (a.eval x) i).run P w).andThen fun v w => .ok (.value v) w := by simp [execOp, ho]
  generalize a.eval x = xv at hv hex
  generalize ev G fr x' = xa at hv h
  unfold extK at h
  split at h
  · rename_i vs
    obtain ⟨h1, h2⟩ := h
    cases hv with
    | tup cs rs hl hc =>
      refine .here (rv := rs.getD i undef) ?_ hrel h2 (hc i h1)
      rw [hex]
      have : i < rs.size := by omega
      simp [Instr.extract, Array.getD, this]
  · exact h.elim

theorem fa_sound {s : TypeId} {fs : Array Field} {f n : Nat} {fd : Field} {x : Operand} {x' : Opd} (hrel : Rel G B Φ Z H w) (hf : FrR Φ Z w fr a) (ho : o.op = .fieldAddr s x f) (hs : P.underlying s = some (.struct fs)) (hfd : fs[f]? = some fd)
    (hn : sizeT P fd.type = some n) (hn0 : n ≠ 0) (hx : opd x = some x') (h : faK fd.offset (ev G fr x') (K · H)) : Reads P o a w Φ Z (K · H) := by
  have hv := ev_sound (x := x) hrel.glob hf hx
  have hex : ∀ ad : Addr, a.eval x = .pointer (some ad) → (execOp a.eval o).run P w = .ok (.value (.pointer (some (ad.add fd.offset)))) w := by
    intro ad had
    simp [execOp, ho, had, Instr.fieldAt, run_underlying hs, hfd, Instr.sureAddr, fieldPlace, run_sizeT hn, hn0]
  generalize a.eval x = xv at hv hex
  generalize ev G fr x' = xa at hv h
  unfold faK at h
  split at h
  · obtain ⟨h1, h2⟩ := h
    cases hv with
    | vp cs ad c hsp hz hcell hc =>
      refine .here (hex ad rfl) hrel h2 ?_
      rw [add_eq hsp]
      refine .vp _ _ (fun j => c (fd.offset + j)) rfl hz (fun j hj => ?_) (fun j hj => ?_)
      · rw [Nat.add_assoc]; exact hcell _ (by simp at hj; omega)
      · rw [getD_drop]; exact hc _ (by simp at hj; omega)
  · cases hv with
    | ptr b n i j p ad hp hle hv =>
      refine .here (hex ad rfl) hrel h ?_
      refine .ptr _ _ _ _ p _ hp hle fun e => ?_
      rw [hv e, add_eq rfl]
      simp [Nat.add_assoc]
  · exact h.elim

theorem fld_sound {s : TypeId} {fs : Array Field} {f : Nat} {agg : Option Nat} {fd : Field} {x : Operand} {x' : Opd} (hrel : Rel G B Φ Z H w) (hf : FrR Φ Z w fr a) (ho : o.op = .field s x f) (hs : P.underlying s = some (.struct fs)) (hfd : fs[f]? = some fd)
    (hn : aggT P fd.type = some agg) (hx : opd x = some x') (h : fldK agg fd.offset (ev G fr x') (K · H)) : Reads P o a w Φ Z (K · H) := by
  have hv := ev_sound (x := x) hrel.glob hf hx
  have hex : (execOp a.eval o).run P w = ((Instr.field s (a.eval x) f).run P w).andThen fun v w => .ok (.value v) w := by simp [execOp, ho]
  generalize a.eval x = xv at hv hex
  generalize ev G fr x' = xa at hv h
  unfold fldK at h
  split at h
  · rename_i cs
    cases hv with
    | agg _ rs hl hc =>
      cases agg with
      | none =>
        obtain ⟨h1, h2⟩ := h
        refine .here (rv := rs.getD fd.offset undef) ?_ hrel h2 (hc _ h1)
        have : fd.offset < rs.size := by omega
        simp [hex, Instr.field, run_underlying hs, hfd, asAgg, part, (aggT_none hn w).1, Array.getD, this]
      | some m =>
        obtain ⟨h1, h2⟩ := h
        obtain ⟨h3, h4, _⟩ := aggT_some hn w
        refine .here (rv := .agg (rs.extract fd.offset (fd.offset + m))) ?_ hrel h2 ?_
        · simp [hex, Instr.field, run_underlying hs, hfd, asAgg, part, h3, h4]
        · refine .agg _ _ (by simp; omega) fun q hq => ?_
          simp at hq
          rw [getD_take _ _ _ _ (by omega), getD_drop]
          have := hc (fd.offset + q) (by omega)
          simp only [Array.getD_eq_getD_getElem?, Array.getElem?_extract] at this ⊢
          rw [if_pos (by omega)]
          exact this
  · exact h.elim

theorem bytes_size (s : List UInt8) : (⟨s.toArray⟩ : ByteArray).size = s.length := by simp [ByteArray.size]

theorem getB_lt {H : List Blk} {b : Nat} {es : List (Nat × V × V)} {clk : Nat} (hb : b < H.length) (h : getB H b = .map es clk) : H[b]? = some (.map es clk) := by
  simp only [getB, List.getD_eq_getElem?_getD, List.getElem?_eq_getElem hb, Option.getD_some] at h
  rw [List.getElem?_eq_getElem hb, h]

theorem len_sound {t : TypeId} {k : Nat} {x : Operand} {x' : Opd} {d : TypeDesc} {c : Call} (hrel : Rel G B Φ Z H w) (hf : FrR Φ Z w fr a) (ho : o.op = .call c) (hc : c.callee = .builtin .len) (hat : c.argTypes = #[t]) (hargs : c.args = #[x])
    (ht : P.underlying t = some d) (hd : (k = 0 ∧ d = .string) ∨ (k = 1 ∧ ∃ e, d = .slice e) ∨ (k = 2 ∧ ∃ p q, d = .map p q)) (hx : opd x = some x') (h : lenK k H (ev G fr x') (K · H)) : Reads P o a w Φ Z (K · H) := by
  have hv := ev_sound (x := x) hrel.glob hf hx
  have hex : (execOp a.eval o).run P w = ((Builtin.len_ #[t] o.type #[a.eval x]).run P w).andThen fun v w => .ok (.value v) w := by
    simp [execOp, ho, resolve, hc, hat, hargs, invoke, builtin]
  generalize a.eval x = xv at hv hex
  generalize ev G fr x' = xa at hv h
  unfold lenK at h
  split at h
  · obtain rfl := hv.str_inv
    rcases hd with ⟨_, rfl⟩ | ⟨hk, _⟩ | ⟨hk, _⟩
    · exact .here (rv := goInt _) (by rw [hex]; simp [Builtin.len_, run_underlying ht]; try rfl) hrel h (by rw [bytes_size]; exact .int _ _)
    · cases hk
    · cases hk
  · rcases hd with ⟨hk, _⟩ | ⟨_, e, rfl⟩ | ⟨hk, _⟩
    · cases hk
    · cases hv with
      | vs xs ad sz cap => exact .here (rv := goInt _) (by rw [hex]; simp [Builtin.len_, run_underlying ht]; try rfl) hrel h (.int _ _)
      | vs0 b cap => exact .here (rv := goInt _) (by rw [hex]; simp [Builtin.len_, run_underlying ht]; try rfl) hrel h (.int _ _)
    · cases hk
  · rcases hd with ⟨hk, _⟩ | ⟨_, e, rfl⟩ | ⟨hk, _⟩
    · cases hk
    · cases hv with
      | nils => exact .here (rv := goInt _) (by rw [hex]; simp [Builtin.len_, run_underlying ht]; try rfl) hrel h (.int _ _)
    · cases hk
  · rcases hd with ⟨hk, _⟩ | ⟨_, e, rfl⟩ | ⟨hk, _⟩
    · cases hk
    · cases hv with
      | hs => exact .here (rv := goInt _) (by rw [hex]; simp [Builtin.len_, run_underlying ht]; try rfl) hrel h (.int _ _)
    · cases hk
  · rcases hd with ⟨hk, _⟩ | ⟨hk, _⟩ | ⟨_, e, e', rfl⟩
    · cases hk
    · cases hk
    · obtain ⟨h0, h⟩ := h
      split at h
      · rename_i es clk hes
        cases hv with
        | map b p r hp hr =>
          have ok := hrel.mapb hp hes
          obtain ⟨re, hw, hl, _⟩ := ok.row
          obtain rfl := hr ok.len
          refine .here (rv := goInt re.size) ?_ hrel h (by rw [hl]; exact .int _ _)
          rw [hex]
          simp [Builtin.len_, run_underlying ht, getObj, Sem.run, hw]
      · exact h.elim
  · exact h.elim

theorem ia_sound {t e : TypeId} {sz : Nat} {x i : Operand} {x' i' : Opd} (hrel : Rel G B Φ Z H w) (hf : FrR Φ Z w fr a) (ho : o.op = .indexAddr t x i) (ht : P.underlying t = some (.slice e)) (hs : sizeT P e = some sz)
    (hx : opd x = some x') (hi : opd i = some i') (h : iaK H sz (ev G fr x') (ev G fr i') (K · H)) : Reads P o a w Φ Z (K · H) := by
  have hv := ev_sound (x := x) hrel.glob hf hx
  have hv2 := ev_sound (x := i) hrel.glob hf hi
  have hex : ∀ (ad : Addr) (len cap : Nat) (k : IntKind) (n : Int), a.eval x = .slice (some ad) len cap → a.eval i = .int k n → 0 ≤ n → n < len → (execOp a.eval o).run P w = .ok (.value (.pointer (some (ad.add (n.toNat * sz))))) w := by
    intro ad len cap k n h1 h2 h3 h4
    simp [execOp, ho, h1, h2, Instr.indexAt, asIntOf, run_underlying ht, h3, h4, run_sizeT hs]
  generalize a.eval x = xv at hv hex
  generalize a.eval i = iv at hv2 hex
  generalize ev G fr x' = xa at hv h
  generalize ev G fr i' = ia at hv2 h
  unfold iaK at h
  split at h
  · rename_i xs k n
    obtain ⟨h1, h2, h3, h4⟩ := h
    obtain rfl := hv2.int_inv
    cases hv with
    | vs _ ad sz' cap c hsp hz hcap hsz hcell hc =>
      refine .here (hex ad _ _ _ n rfl rfl h1 (by omega)) hrel h4 ?_
      have hse : sz' = sz := by rw [← hsz n.toNat h2, h3]
      subst hse
      rw [add_eq hsp]
      refine .vp _ _ (c n.toNat) rfl hz (fun j hj => ?_) (fun j hj => ?_)
      · rw [Nat.add_assoc]; exact hcell _ _ h2 (by omega)
      · exact hc _ _ h2 (by omega)
    | vs0 => simp at h2
  · rename_i b m i0 j len cap sz' k n
    obtain ⟨rfl, h1, h2, h3⟩ := h
    obtain rfl := hv2.int_inv
    split at h3
    · rename_i rsz xs opn frz hH
      obtain ⟨h4, h3⟩ := h3
      obtain ⟨p, rcap, hp, ok, hsl, h5, h6⟩ := hs_inv hrel hv hH h4
      subst hsl
      refine .here (hex _ _ _ _ n rfl rfl h1 (by omega)) hrel h3 ?_
      split
      · rename_i hrs
        refine .ptr _ _ _ _ p _ hp (by rw [ok.len, h4]; exact Nat.le_refl _) fun e => ?_
        rw [add_eq rfl, ok.size, hrs, Nat.add_mul]
        simp only [Addr.mk.injEq, true_and, and_true]
        omega
      · refine .ptr _ _ _ _ p _ hp (by rw [ok.len, h4]; exact Nat.le_refl _) fun e => ?_
        rw [add_eq rfl, ok.size]
        simp only [Addr.mk.injEq, true_and, and_true]
        omega
    · exact h3.elim
  · exact h.elim

end
end Go.MW

/- Indices, slices, what is built. -/
namespace Go.MW
open Go Go.RowKit
set_option linter.unusedVariables false
set_option linter.unusedSimpArgs false

section
variable {P : Program} {G : Nat → Option (List V)} {B : Bd} {Φ : Nat → Option Pl} {Z : Nat → Prop} {H : List Blk} {w : World} {a : Act} {fr : Fr} {K : V → List Blk → Prop} {o : Oper}

theorem iaA_sound {t e : TypeId} {n sz : Nat} {x i : Operand} {x' i' : Opd} (hrel : Rel G B Φ Z H w) (hf : FrR Φ Z w fr a) (ho : o.op = .indexAddr t x i) (ht : P.underlying t = some (.array n e)) (hs : sizeT P e = some sz)
    (hx : opd x = some x') (hi : opd i = some i') (h : iaAK n sz (ev G fr x') (ev G fr i') (K · H)) : Reads P o a w Φ Z (K · H) := by
  have hv := ev_sound (x := x) hrel.glob hf hx
  have hv2 := ev_sound (x := i) hrel.glob hf hi
  have hex : ∀ (ad : Addr) (k : IntKind) (q : Int), a.eval x = .pointer (some ad) → a.eval i = .int k q → 0 ≤ q → q < n → (execOp a.eval o).run P w = .ok (.value (.pointer (some (ad.add (q.toNat * sz))))) w := by
    intro ad k q h1 h2 h3 h4
    simp [execOp, ho, h1, h2, Instr.indexAt, asIntOf, run_underlying ht, Instr.sureAddr, h3, h4, run_sizeT hs]
  generalize a.eval x = xv at hv hex
  generalize a.eval i = iv at hv2 hex
  generalize ev G fr x' = xa at hv h
  generalize ev G fr i' = ia at hv2 h
  unfold iaAK at h
  split at h
  · rename_i b m e' j k q
    obtain ⟨h1, h2, h3⟩ := h
    obtain rfl := hv2.int_inv
    cases hv with
    | ptr _ _ _ _ p ad hp hle hv =>
      refine .here (hex ad _ q rfl rfl h1 (by omega)) hrel h3 (.ptr _ _ _ _ p _ hp hle fun e => ?_)
      rw [hv e, add_eq rfl]
      simp [Nat.add_assoc]
  · rename_i cs k q
    obtain ⟨h1, h2, h3, h4⟩ := h
    obtain rfl := hv2.int_inv
    cases hv with
    | vp _ ad c hsp hz hcell hc =>
      refine .here (hex ad _ q rfl rfl h1 (by omega)) hrel h4 ?_
      rw [add_eq hsp]
      refine .vp _ _ (fun j => c (q.toNat * sz + j)) rfl hz (fun j hj => ?_) (fun j hj => ?_)
      · rw [Nat.add_assoc]; exact hcell _ (by simp at hj; omega)
      · rw [getD_drop]; exact hc _ (by simp at hj; omega)
  · exact h.elim

theorem mul_lt_of {q n sz : Nat} (h : q < n) : q * sz + sz ≤ n * sz := by
  have := Nat.mul_le_mul_right sz (show q + 1 ≤ n from h)
  rwa [Nat.add_mul, Nat.one_mul] at this

theorem ixA_sound {t e : TypeId} {n sz : Nat} {agg : Bool} {x i : Operand} {x' i' : Opd} (hrel : Rel G B Φ Z H w) (hf : FrR Φ Z w fr a) (ho : o.op = .index t x i) (ht : P.underlying t = some (.array n e))
    (hs : (agg = true ∧ aggT P e = some (some sz) ∧ sz ≠ 0) ∨ (agg = false ∧ sz = 1 ∧ aggT P e = some none))
    (hx : opd x = some x') (hi : opd i = some i') (h : ixAK n sz agg (ev G fr x') (ev G fr i') (K · H)) : Reads P o a w Φ Z (K · H) := by
  have hv := ev_sound (x := x) hrel.glob hf hx
  have hv2 := ev_sound (x := i) hrel.glob hf hi
  have hex : (execOp a.eval o).run P w = ((Instr.index t (a.eval x) (a.eval i)).run P w).andThen fun v w => .ok (.value v) w := by simp [execOp, ho]
  generalize a.eval x = xv at hv hex
  generalize a.eval i = iv at hv2 hex
  generalize ev G fr x' = xa at hv h
  generalize ev G fr i' = ia at hv2 h
  unfold ixAK at h
  split at h
  · rename_i cs k q
    obtain ⟨h1, h2, h3, h4⟩ := h
    obtain rfl := hv2.int_inv
    have hq : q < (n : Int) := by omega
    cases hv with
    | agg _ rs hl hc =>
      rcases hs with ⟨rfl, hs, h0⟩ | ⟨rfl, rfl, hs⟩
      · obtain ⟨h5, h6, h7⟩ := aggT_some hs w
        have hm := mul_lt_of (sz := sz) h2
        refine .here (rv := .agg (rs.extract (q.toNat * sz) (q.toNat * sz + sz))) ?_ hrel h4 ?_
        · simp [hex, Instr.index, asIntOf, run_underlying ht, h1, hq, h6, part, h5]
        · refine .agg _ _ (by simp; omega) fun y hy => ?_
          simp at hy
          rw [getD_take _ _ _ _ (by omega), getD_drop]
          have := hc (q.toNat * sz + y) (by omega)
          simp only [Array.getD_eq_getD_getElem?, Array.getElem?_extract] at this ⊢
          rw [if_pos (by omega)]
          exact this
      · obtain ⟨h5, h6⟩ := aggT_none hs w
        have hlt : q.toNat < rs.size := by omega
        refine .here (rv := rs.getD (q.toNat * 1) undef) ?_ hrel h4 (hc _ (by omega))
        simp [hex, Instr.index, asIntOf, run_underlying ht, h1, hq, run_sizeT h6, part, h5, Array.getD, hlt]
  · exact h.elim

theorem bytes_get (s : List UInt8) (i : Nat) : (⟨s.toArray⟩ : ByteArray)[i]? = s[i]? := by
  by_cases h : i < s.length
  · have h2 : i < (⟨s.toArray⟩ : ByteArray).size := by rw [bytes_size]; exact h
    rw [getElem?_pos (⟨s.toArray⟩ : ByteArray) i h2, getElem?_pos s i h]
    rfl
  · have h2 : ¬ i < (⟨s.toArray⟩ : ByteArray).size := by rw [bytes_size]; exact h
    rw [getElem?_neg (⟨s.toArray⟩ : ByteArray) i h2, getElem?_neg s i h]

theorem ixS_sound {t : TypeId} {x i : Operand} {x' i' : Opd} (hrel : Rel G B Φ Z H w) (hf : FrR Φ Z w fr a) (ho : o.op = .index t x i) (ht : P.underlying t = some .string)
    (hx : opd x = some x') (hi : opd i = some i') (h : ixSK (ev G fr x') (ev G fr i') (K · H)) : Reads P o a w Φ Z (K · H) := by
  have hv := ev_sound (x := x) hrel.glob hf hx
  have hv2 := ev_sound (x := i) hrel.glob hf hi
  have hex : (execOp a.eval o).run P w = ((Instr.index t (a.eval x) (a.eval i)).run P w).andThen fun v w => .ok (.value v) w := by simp [execOp, ho]
  generalize a.eval x = xv at hv hex
  generalize a.eval i = iv at hv2 hex
  generalize ev G fr x' = xa at hv h
  generalize ev G fr i' = ia at hv2 h
  unfold ixSK at h
  split at h
  · rename_i s k n
    obtain ⟨h1, h2, h3⟩ := h
    obtain rfl := hv2.int_inv
    obtain rfl := hv.str_inv
    have hb : (⟨s.toArray⟩ : ByteArray)[n.toNat]? = some (s.getD n.toNat 0) := by
      rw [bytes_get, List.getElem?_eq_getElem h2, List.getD_eq_getElem?_getD, List.getElem?_eq_getElem h2]; rfl
    refine .here (rv := .int .u8 (s.getD n.toNat 0).toNat) ?_ hrel h3 (.int _ _)
    simp only [hex, Instr.index, asIntOf, run_underlying ht, Sem.run_bind, Sem.run_pure, Result.andThen_ok, h1, if_true, hb]
  · exact h.elim

/-- A bound of a slice expression, and its value. -/
def OptR (Φ : Nat → Option Pl) (Z : Nat → Prop) (w : World) (x : Option V) (r : Option Value) : Prop := (x = none ∧ r = none) ∨ ∃ y s, x = some y ∧ r = some s ∧ VR Φ Z w y s

theorem optR {x : Option Operand} {y : Option Opd} (hg : GlobOK G Z w) (hf : FrR Φ Z w fr a) (h : opdO x = some y) : OptR Φ Z w (y.map (ev G fr)) (x.map a.eval) := by
  rcases opdO_some h with ⟨rfl, rfl⟩ | ⟨x', y', rfl, rfl, h2⟩
  · exact .inl ⟨rfl, rfl⟩
  · exact .inr ⟨_, _, rfl, rfl, ev_sound hg hf h2⟩

theorem bnd_inv {d : Nat} {x : Option V} {r : Option Value} {C : Nat → Prop} (h : bnd d x C) (hr : OptR Φ Z w x r) : ∃ n, C n ∧ ((r = none ∧ n = d) ∨ ∃ k, r = some (.int k (n : Int))) := by
  rcases hr with ⟨rfl, rfl⟩ | ⟨y, s, rfl, rfl, hv⟩
  · exact ⟨d, h, .inl ⟨rfl, rfl⟩⟩
  · unfold bnd at h
    split at h
    · rename_i he; cases he
    · rename_i k n he
      obtain rfl := Option.some.inj he
      obtain ⟨h1, h2⟩ := h
      refine ⟨n.toNat, h2, .inr ⟨k, ?_⟩⟩
      rw [hv.int_inv, Int.toNat_of_nonneg h1]
    · exact h.elim

theorem run_sliceBound {k : IntKind} {n y : Nat} {code : BoundsCode} (h : n ≤ y) (w : World) : (Instr.sliceBound (.int k (n : Int)) y code).run P w = .ok n w := by
  have : (n : Int) ≤ (y : Int) := by omega
  simp [Instr.sliceBound, asIntOf, this]

theorem run_sliceBounds {isS : Bool} {len cap l h m : Nat} {lo hi mx : Option Value} (hm : (mx = none ∧ m = cap) ∨ (m ≤ cap ∧ (∃ k, mx = some (.int k (m : Int))) ∧ hi ≠ none))
    (hh : (hi = none ∧ h = len) ∨ (h ≤ m ∧ ∃ k, hi = some (.int k (h : Int)))) (hl : (lo = none ∧ l = 0) ∨ (l ≤ h ∧ ∃ k, lo = some (.int k (l : Int)))) (w : World) :
    (Instr.sliceBounds isS len cap lo hi mx).run P w = .ok (l, h, m) w := by
  rcases hm with ⟨rfl, rfl⟩ | ⟨hm, ⟨k, rfl⟩, hne⟩
  · rcases hh with ⟨rfl, rfl⟩ | ⟨hh, k2, rfl⟩ <;> rcases hl with ⟨rfl, rfl⟩ | ⟨hl, k3, rfl⟩ <;>
      simp [Instr.sliceBounds, run_sliceBound, *]
  · rcases hh with ⟨rfl, rfl⟩ | ⟨hh, k2, rfl⟩
    · exact absurd rfl hne
    · rcases hl with ⟨rfl, rfl⟩ | ⟨hl, k3, rfl⟩ <;> simp [Instr.sliceBounds, run_sliceBound, *]

theorem bytes_extract (s : List UInt8) (l h : Nat) : (⟨s.toArray⟩ : ByteArray).extract l h = ⟨((s.drop l).take (h - l)).toArray⟩ := by
  apply ByteArray.ext
  simp

theorem slS_sound {t : TypeId} {x : Operand} {lo hi : Option Operand} {x' : Opd} {lo' hi' : Option Opd} (hrel : Rel G B Φ Z H w) (hf : FrR Φ Z w fr a) (ho : o.op = .slice t x lo hi none) (ht : P.underlying t = some .string)
    (hx : opd x = some x') (hl : opdO lo = some lo') (hh : opdO hi = some hi') (h : slSK (ev G fr x') (lo'.map (ev G fr)) (hi'.map (ev G fr)) (K · H)) : Reads P o a w Φ Z (K · H) := by
  have hv := ev_sound (x := x) hrel.glob hf hx
  have hv2 := optR hrel.glob hf hl
  have hv3 := optR hrel.glob hf hh
  have hex : (execOp a.eval o).run P w = ((Instr.sliceAt t (a.eval x) (lo.map a.eval) (hi.map a.eval) none).run P w).andThen fun v w => .ok (.value v) w := by simp [execOp, ho]
  generalize a.eval x = xv at hv hex
  generalize lo.map a.eval = lov at hv2 hex
  generalize hi.map a.eval = hiv at hv3 hex
  generalize ev G fr x' = xa at hv h
  generalize lo'.map (ev G fr) = loa at hv2 h
  generalize hi'.map (ev G fr) = hia at hv3 h
  unfold slSK at h
  split at h
  · rename_i s
    obtain rfl := hv.str_inv
    obtain ⟨hn, ⟨h1, h2⟩, hr⟩ := bnd_inv h hv3
    obtain ⟨ln, ⟨h3, h4⟩, hr2⟩ := bnd_inv h2 hv2
    have hb : (Instr.sliceBounds false (⟨s.toArray⟩ : ByteArray).size (⟨s.toArray⟩ : ByteArray).size lov hiv none).run P w = .ok (ln, hn, s.length) w := by
      rw [bytes_size]
      refine run_sliceBounds (.inl ⟨rfl, rfl⟩) ?_ ?_ w
      · rcases hr with hr | ⟨k, hr⟩
        · exact .inl hr
        · exact .inr ⟨h1, k, hr⟩
      · rcases hr2 with hr | ⟨k, hr⟩
        · exact .inl hr
        · exact .inr ⟨h3, k, hr⟩
    refine .here (rv := .string ⟨((s.drop ln).take (hn - ln)).toArray⟩) ?_ hrel h4 (.str _)
    rw [hex]
    simp [Instr.sliceAt, run_underlying ht, Instr.slice, hb, bytes_extract]
  · exact h.elim

/-- A part of a slice that nothing writes. -/
theorem VR.sub {xs : List V} {base : Option Addr} {len cap l h m sz : Nat} (hv : VR Φ Z w (.vs xs) (.slice base len cap)) (hl : l ≤ h) (hh : h ≤ xs.length) (hm : h ≤ m) (hmc : m ≤ cap)
    (hsz : ∀ i, i < xs.length → (xs.getD i .junk).cells.length = sz) :
    VR Φ Z w (.vs ((xs.drop l).take (h - l))) (.slice (if m = l then base else base.map (·.add (l * sz))) (h - l) (m - l)) := by
  by_cases he : h = l
  · subst he
    rw [Nat.sub_self, List.take_zero]
    have hb : ∃ ad, base = some ad := by cases hv <;> exact ⟨_, rfl⟩
    obtain ⟨ad, rfl⟩ := hb
    split
    · exact .vs0 _ _
    · exact .vs0 _ _
  · cases hv with
    | vs0 => simp at hh; omega
    | vs _ ad sz' _ c hsp hz hcap hsz' hcell hc =>
      rw [if_neg (by omega)]
      have hse : sz = sz' := by rw [← hsz l (by omega), hsz' l (by omega)]
      subst hse
      have hlen : ((xs.drop l).take (h - l)).length = h - l := by simp; omega
      have hg : ∀ i, i < h - l → ((xs.drop l).take (h - l)).getD i .junk = xs.getD (l + i) .junk := fun i hi => by rw [getD_take _ _ _ _ hi, getD_drop]
      have := VR.vs (Φ := Φ) (Z := Z) (w := w) ((xs.drop l).take (h - l)) (ad.add (l * sz)) sz (m - l) (fun i j => c (l + i) j) (by rw [add_eq hsp]) (by rw [add_eq hsp]; exact hz) (by omega)
        (fun i hi => by rw [hlen] at hi; rw [hg i hi]; exact hsz' _ (by omega))
        (fun i j hi hj => by
          rw [hlen] at hi
          have := hcell (l + i) j (by omega) hj
          rw [add_eq hsp]
          simp only
          rw [show ad.off + l * sz + (i * sz + j) = ad.off + ((l + i) * sz + j) by rw [Nat.add_mul]; omega]
          exact this)
        (fun i j hi hj => by rw [hlen] at hi; rw [hg i hi]; exact hc _ _ (by omega) hj)
      rw [hlen] at this
      exact this

/-- A part of a slice into a row. -/
theorem slH_sound {b n i j len sz l h m rcap : Nat} {cap : Option Nat} {base : Option Addr} {C : V → Prop} (hrel : Rel G B Φ Z H w) (hv : VR Φ Z w (.hs b n i j len cap sz) (.slice base len rcap)) (hl : l ≤ h) (hh : h ≤ m)
    {capm : Option Nat} (hm : (capm = some m ∧ m ≤ rcap) ∨ (capm = none ∧ cap = none ∧ m = rcap)) (hlen : h ≤ len ∨ capm = some m) (hk : slHK H b n i j capm sz l h C) :
    ∃ v, C v ∧ VR Φ Z w v (.slice (if m = l then base else base.map (·.add (l * sz))) (h - l) (m - l)) := by
  unfold slHK at hk
  split at hk
  · rename_i rsz xs opn frz hH
    obtain ⟨hn, hk⟩ := hk
    obtain ⟨p, rc, hp, ok, hsl, h5, h6⟩ := hs_inv hrel hv hH hn
    obtain ⟨rfl, _, rfl⟩ := Value.slice.inj hsl
    have hpn : p.n = n := by rw [ok.len, hn]
    have hcap : ∀ i' j', i' * p.sz + j' = i * p.sz + j + l * sz → capOK p i' j' sz (m - l) (capm.map (· - l)) := by
      intro i' j' e
      rcases hm with ⟨rfl, hm⟩ | ⟨rfl, rfl, rfl⟩
      · simp [capOK]
      · simp only [capOK, Option.map_none] at h6 ⊢
        rw [Nat.sub_mul, e]
        have := Nat.mul_le_mul_right sz (show l ≤ m by omega)
        omega
    split at hk
    · rename_i h0
      subst h0
      refine ⟨_, hk, ?_⟩
      have hb : (if m = 0 then (some ⟨p.rb, i * rsz + j, none⟩ : Option Addr) else (some (⟨p.rb, i * rsz + j, none⟩ : Addr)).map (·.add (0 * sz))) = some ⟨p.rb, i * rsz + j, none⟩ := by
        split
        · rfl
        · simp [Addr.add]
      rw [hb, Nat.sub_zero, Nat.sub_zero]
      have := hcap i j (by omega)
      simp only [Nat.sub_zero] at this
      refine .hs _ _ _ _ _ _ _ p _ _ hp (by omega) fun _ => ⟨by rw [ok.size], hh, ?_⟩
      cases capm <;> simpa using this
    · rename_i h0
      split at hk
      · rename_i h7
        refine ⟨_, hk, ?_⟩
        rw [show h - l = 0 by omega]
        split
        · exact .vs0 _ _
        · exact .vs0 _ _
      · rename_i h7
        have hml : m ≠ l := by
          rintro rfl
          apply h7
          refine ⟨by omega, ?_⟩
          rcases hm with ⟨rfl, _⟩ | ⟨rfl, _⟩
          · exact .inl rfl
          · exact .inr rfl
        rw [if_neg hml]
        refine ⟨_, hk, ?_⟩
        simp only [Option.map_some, add_eq]
        split
        · rename_i hrs
          refine .hs _ _ _ _ _ _ _ p _ _ hp (by omega) fun _ => ⟨?_, by omega, hcap _ _ (by rw [ok.size, hrs, Nat.add_mul]; omega)⟩
          rw [ok.size, hrs, Nat.add_mul]
          simp only [Option.some.injEq, Addr.mk.injEq, true_and, and_true]
          omega
        · refine .hs _ _ _ _ _ _ _ p _ _ hp (by omega) fun _ => ⟨?_, by omega, hcap _ _ (by rw [ok.size]; omega)⟩
          rw [ok.size]
          simp only [Option.some.injEq, Addr.mk.injEq, true_and, and_true]
          omega
  · exact hk.elim

theorem optR_ne {x : Option V} {r : Option Value} (h : OptR Φ Z w x r) (hs : x.isSome = true) : r ≠ none := by
  rcases h with ⟨rfl, rfl⟩ | ⟨y, s, rfl, rfl, _⟩
  · simp at hs
  · simp

theorem bound_of {d n : Nat} {r : Option Value} {m : Nat} (h : (r = none ∧ n = d) ∨ ∃ k, r = some (.int k (n : Int))) (hm : n ≤ m) : (r = none ∧ n = d) ∨ (n ≤ m ∧ ∃ k, r = some (.int k (n : Int))) := by
  rcases h with h | h
  · exact .inl h
  · exact .inr ⟨hm, h⟩

theorem sl_sound {t e : TypeId} {sz : Nat} {x : Operand} {lo hi mx : Option Operand} {x' : Opd} {lo' hi' mx' : Option Opd} (hrel : Rel G B Φ Z H w) (hf : FrR Φ Z w fr a) (ho : o.op = .slice t x lo hi mx) (ht : P.underlying t = some (.slice e)) (hs : sizeT P e = some sz)
    (hx : opd x = some x') (hl : opdO lo = some lo') (hh : opdO hi = some hi') (hm : opdO mx = some mx') (h : slK H sz (ev G fr x') (lo'.map (ev G fr)) (hi'.map (ev G fr)) (mx'.map (ev G fr)) (K · H)) : Reads P o a w Φ Z (K · H) := by
  have hv := ev_sound (x := x) hrel.glob hf hx
  have hv2 := optR hrel.glob hf hl
  have hv3 := optR hrel.glob hf hh
  have hv4 := optR hrel.glob hf hm
  have hex : ∀ (base : Option Addr) (len cap l h m : Nat), a.eval x = .slice base len cap → (Instr.sliceBounds true len cap (lo.map a.eval) (hi.map a.eval) (mx.map a.eval)).run P w = .ok (l, h, m) w →
      (execOp a.eval o).run P w = .ok (.value (.slice (if m = l then base else base.map (·.add (l * sz))) (h - l) (m - l))) w := by
    intro base len cap l h m h1 h2
    simp [execOp, ho, h1, Instr.sliceAt, run_underlying ht, Instr.slice, h2, run_sizeT hs]
  generalize a.eval x = xv at hv hex
  generalize lo.map a.eval = lov at hv2 hex
  generalize hi.map a.eval = hiv at hv3 hex
  generalize mx.map a.eval = mxv at hv4 hex
  generalize ev G fr x' = xa at hv h
  generalize lo'.map (ev G fr) = loa at hv2 h
  generalize hi'.map (ev G fr) = hia at hv3 h
  generalize mx'.map (ev G fr) = mxa at hv4 h
  obtain ⟨hms, h⟩ := h
  have hne : mxv ≠ none → hiv ≠ none := by
    intro hq
    rcases hv4 with ⟨rfl, rfl⟩ | ⟨y, s, rfl, rfl, _⟩
    · exact absurd rfl hq
    · exact optR_ne hv3 (hms rfl)
  split at h
  · rename_i xs
    obtain ⟨hsz, h⟩ := h
    obtain ⟨m, ⟨hm1, h⟩, hmr⟩ := bnd_inv h hv4
    obtain ⟨hn, ⟨hh1, h⟩, hhr⟩ := bnd_inv h hv3
    obtain ⟨ln, ⟨hl1, h⟩, hlr⟩ := bnd_inv h hv2
    obtain ⟨base, cap, hxv, hcap⟩ : ∃ base cap, xv = .slice base xs.length cap ∧ xs.length ≤ cap := by
      cases hv with
      | vs _ ad sz' cap c hsp hz hcap => exact ⟨_, _, rfl, hcap⟩
      | vs0 b c => exact ⟨_, _, rfl, Nat.zero_le _⟩
    subst hxv
    have hb : ∃ mm, (Instr.sliceBounds true xs.length cap lov hiv mxv).run P w = .ok (ln, hn, mm) w ∧ hn ≤ mm ∧ mm ≤ cap ∧ (mxv = none ∨ mm = m) := by
      rcases hmr with ⟨rfl, rfl⟩ | ⟨k, rfl⟩
      · exact ⟨cap, run_sliceBounds (.inl ⟨rfl, rfl⟩) (bound_of hhr (by omega)) (bound_of hlr hl1) w, by omega, Nat.le_refl _, .inl rfl⟩
      · exact ⟨m, run_sliceBounds (.inr ⟨by omega, ⟨k, rfl⟩, hne (by simp)⟩) (bound_of hhr hh1) (bound_of hlr hl1) w, hh1, by omega, .inr rfl⟩
    obtain ⟨mm, hb, h5, h6, h7⟩ := hb
    refine .here (hex _ _ _ _ _ _ rfl hb) hrel h (hv.sub hl1 (by omega) h5 h6 fun i hi => hsz _ ?_)
    rw [List.getD_eq_getElem?_getD, List.getElem?_eq_getElem hi]
    exact List.getElem_mem _
  · obtain ⟨m, ⟨rfl, h⟩, hmr⟩ := bnd_inv h hv4
    obtain ⟨hn, ⟨rfl, h⟩, hhr⟩ := bnd_inv h hv3
    obtain ⟨ln, ⟨rfl, h⟩, hlr⟩ := bnd_inv h hv2
    cases hv with
    | nils =>
      have hb : (Instr.sliceBounds true 0 0 lov hiv mxv).run P w = .ok (0, 0, 0) w := by
        rcases hmr with ⟨rfl, _⟩ | ⟨k, rfl⟩
        · exact run_sliceBounds (.inl ⟨rfl, rfl⟩) (bound_of hhr (Nat.le_refl _)) (bound_of hlr (Nat.le_refl _)) w
        · exact run_sliceBounds (.inr ⟨Nat.le_refl _, ⟨k, rfl⟩, hne (by simp)⟩) (bound_of hhr (Nat.le_refl _)) (bound_of hlr (Nat.le_refl _)) w
      exact .here (hex _ _ _ _ _ _ rfl hb) hrel h .nils
  · rename_i b n i j len cap sz'
    obtain ⟨rfl, h⟩ := h
    obtain ⟨base, rcap, hxv⟩ : ∃ base cap, xv = .slice base len cap := by cases hv; exact ⟨_, _, rfl⟩
    subst hxv
    have hk : ∃ (ln hn m : Nat) (capm : Option Nat), ((lov = none ∧ ln = 0) ∨ ∃ k, lov = some (.int k (ln : Int))) ∧ ((hiv = none ∧ hn = len) ∨ ∃ k, hiv = some (.int k (hn : Int))) ∧ ln ≤ hn ∧
        slHK H b n i j capm sz' ln hn (K · H) ∧
        ((mxv = none ∧ cap = none ∧ capm = none ∧ hn ≤ len) ∨ (mxv = none ∧ cap = some m ∧ capm = some m ∧ hn ≤ m) ∨ ((∃ k, mxv = some (.int k (m : Int))) ∧ capm = some m ∧ hn ≤ m ∧ ((∃ c, cap = some c ∧ m ≤ c) ∨ m ≤ len))) := by
      split at h
      · obtain ⟨hn, ⟨hh1, h⟩, hhr⟩ := bnd_inv h hv3
        obtain ⟨ln, ⟨hl1, h⟩, hlr⟩ := bnd_inv h hv2
        rcases hv4 with ⟨_, rfl⟩ | ⟨y, s, he, _, _⟩
        · exact ⟨ln, hn, _, _, hlr, hhr, hl1, h, .inr (.inl ⟨rfl, rfl, rfl, hh1⟩)⟩
        · cases he
      · obtain ⟨hn, ⟨hh1, h⟩, hhr⟩ := bnd_inv h hv3
        obtain ⟨ln, ⟨hl1, h⟩, hlr⟩ := bnd_inv h hv2
        rcases hv4 with ⟨_, rfl⟩ | ⟨y, s, he, _, _⟩
        · exact ⟨ln, hn, 0, _, hlr, hhr, hl1, h, .inl ⟨rfl, rfl, rfl, hh1⟩⟩
        · cases he
      · obtain ⟨m, ⟨hm1, h⟩, hmr⟩ := bnd_inv h hv4
        obtain ⟨hn, ⟨hh1, h⟩, hhr⟩ := bnd_inv h hv3
        obtain ⟨ln, ⟨hl1, h⟩, hlr⟩ := bnd_inv h hv2
        refine ⟨ln, hn, m, _, hlr, hhr, hl1, h, .inr (.inr ⟨?_, rfl, hh1, .inl ⟨_, rfl, hm1⟩⟩)⟩
        rcases hmr with ⟨rfl, _⟩ | hmr
        · rcases hv4 with ⟨he, _⟩ | ⟨y, s, _, he, _⟩ <;> cases he
        · exact hmr
      · obtain ⟨m, ⟨hm1, h⟩, hmr⟩ := bnd_inv h hv4
        obtain ⟨hn, ⟨hh1, h⟩, hhr⟩ := bnd_inv h hv3
        obtain ⟨ln, ⟨hl1, h⟩, hlr⟩ := bnd_inv h hv2
        refine ⟨ln, hn, m, _, hlr, hhr, hl1, h, .inr (.inr ⟨?_, rfl, hh1, .inr hm1⟩)⟩
        rcases hmr with ⟨rfl, _⟩ | hmr
        · rcases hv4 with ⟨he, _⟩ | ⟨y, s, _, he, _⟩ <;> cases he
        · exact hmr
    obtain ⟨ln, hn, m, capm, hlr, hhr, hl1, hk, hcases⟩ := hk
    have hrow : ∃ rsz xs opn frz, getB H b = .row rsz xs opn frz ∧ xs.length = n := by
      unfold slHK at hk
      split at hk
      · rename_i hH; exact ⟨_, _, _, _, hH, hk.1⟩
      · exact hk.elim
    obtain ⟨rsz, xs, opn, frz, hH, hxn⟩ := hrow
    obtain ⟨p, rc, hp, ok, hsl, h5, h6⟩ := hs_inv hrel hv hH hxn
    obtain ⟨rfl, _, rfl⟩ := Value.slice.inj hsl
    have hb : ∃ mm, (Instr.sliceBounds true len rcap lov hiv mxv).run P w = .ok (ln, hn, mm) w ∧ hn ≤ mm ∧ ((capm = some mm ∧ mm ≤ rcap) ∨ (capm = none ∧ cap = none ∧ mm = rcap)) ∧ (hn ≤ len ∨ capm = some mm) := by
      rcases hcases with ⟨rfl, rfl, rfl, h7⟩ | ⟨rfl, rfl, rfl, h7⟩ | ⟨⟨k, rfl⟩, rfl, h7, h8⟩
      · exact ⟨rcap, run_sliceBounds (.inl ⟨rfl, rfl⟩) (bound_of hhr (by omega)) (bound_of hlr hl1) w, by omega, .inr ⟨rfl, rfl, rfl⟩, .inl h7⟩
      · simp only [capOK] at h6
        subst h6
        exact ⟨_, run_sliceBounds (.inl ⟨rfl, rfl⟩) (bound_of hhr (by omega)) (bound_of hlr hl1) w, by omega, .inl ⟨rfl, Nat.le_refl _⟩, .inr rfl⟩
      · have hmr : m ≤ rcap := by
          rcases h8 with ⟨c, rfl, hc⟩ | h8
          · simp only [capOK] at h6; omega
          · omega
        exact ⟨m, run_sliceBounds (.inr ⟨hmr, ⟨k, rfl⟩, hne (by simp)⟩) (bound_of hhr (by omega)) (bound_of hlr hl1) w, by omega, .inl ⟨rfl, hmr⟩, .inr rfl⟩
    obtain ⟨mm, hb, h7, h8, h9⟩ := hb
    obtain ⟨v, hkv, hvr⟩ := slH_sound hrel hv hl1 h7 h8 h9 hk
    exact .here (hex _ _ _ _ _ _ rfl hb) hrel hkv hvr
  · exact h.elim

theorem slA_sound {t e : TypeId} {n sz : Nat} {x : Operand} {lo hi mx : Option Operand} {x' : Opd} {lo' hi' mx' : Option Opd} (hrel : Rel G B Φ Z H w) (hf : FrR Φ Z w fr a) (ho : o.op = .slice t x lo hi mx) (ht : P.underlying t = some (.array n e)) (hs : sizeT P e = some sz)
    (hx : opd x = some x') (hl : opdO lo = some lo') (hh : opdO hi = some hi') (hm : opdO mx = some mx') (h : slAK H n sz (ev G fr x') (lo'.map (ev G fr)) (hi'.map (ev G fr)) (mx'.map (ev G fr)) (K · H)) : Reads P o a w Φ Z (K · H) := by
  have hv := ev_sound (x := x) hrel.glob hf hx
  have hv2 := optR hrel.glob hf hl
  have hv3 := optR hrel.glob hf hh
  have hv4 := optR hrel.glob hf hm
  have hex : ∀ (ad : Addr) (l h m : Nat), a.eval x = .pointer (some ad) → (Instr.sliceBounds false n n (lo.map a.eval) (hi.map a.eval) (mx.map a.eval)).run P w = .ok (l, h, m) w →
      (execOp a.eval o).run P w = .ok (.value (.slice (some (if m = l then ad else ad.add (l * sz))) (h - l) (m - l))) w := by
    intro ad l h m h1 h2
    simp [execOp, ho, h1, Instr.sliceAt, run_underlying ht, Instr.sureAddr, h2, run_sizeT hs]
  generalize a.eval x = xv at hv hex
  generalize lo.map a.eval = lov at hv2 hex
  generalize hi.map a.eval = hiv at hv3 hex
  generalize mx.map a.eval = mxv at hv4 hex
  generalize ev G fr x' = xa at hv h
  generalize lo'.map (ev G fr) = loa at hv2 h
  generalize hi'.map (ev G fr) = hia at hv3 h
  generalize mx'.map (ev G fr) = mxa at hv4 h
  obtain ⟨hms, h⟩ := h
  have hne : mxv ≠ none → hiv ≠ none := by
    intro hq
    rcases hv4 with ⟨rfl, rfl⟩ | ⟨y, s, rfl, rfl, _⟩
    · exact absurd rfl hq
    · exact optR_ne hv3 (hms rfl)
  split at h
  · rename_i b m i j
    obtain ⟨mm, ⟨hm1, h⟩, hmr⟩ := bnd_inv h hv4
    obtain ⟨hn, ⟨hh1, h⟩, hhr⟩ := bnd_inv h hv3
    obtain ⟨ln, ⟨hl1, h⟩, hlr⟩ := bnd_inv h hv2
    have hb : (Instr.sliceBounds false n n lov hiv mxv).run P w = .ok (ln, hn, mm) w := by
      rcases hmr with ⟨rfl, rfl⟩ | ⟨k, rfl⟩
      · exact run_sliceBounds (.inl ⟨rfl, rfl⟩) (bound_of hhr hh1) (bound_of hlr hl1) w
      · exact run_sliceBounds (.inr ⟨hm1, ⟨k, rfl⟩, hne (by simp)⟩) (bound_of hhr hh1) (bound_of hlr hl1) w
    cases hv with
    | ptr _ _ _ _ p ad hp hle hvp =>
      have hv' : VR Φ Z w (.hs b m i j mm (some mm) sz) (.slice (some ad) mm mm) := .hs _ _ _ _ _ _ _ p _ _ hp hle fun e => ⟨by rw [hvp e], Nat.le_refl _, rfl⟩
      obtain ⟨v, hkv, hvr⟩ := slH_sound (rcap := mm) hrel hv' hl1 hh1 (.inl ⟨rfl, Nat.le_refl _⟩) (.inl hh1) h
      refine .here (hex _ _ _ _ rfl hb) hrel hkv ?_
      have : (if mm = ln then (some ad : Option Addr) else (some ad).map (·.add (ln * sz))) = some (if mm = ln then ad else ad.add (ln * sz)) := by split <;> rfl
      rwa [this] at hvr
  · exact h.elim

theorem minK_sound {t u ty : TypeId} {lt : Bool} {x y : Operand} {x' y' : Opd} {c : Call} (hrel : Rel G B Φ Z H w) (hf : FrR Φ Z w fr a) (ho : o.op = .call c) (hc : c.callee = .builtin (if lt then .min else .max)) (hargs : c.args = #[x, y])
    (hx : opd x = some x') (hy : opd y = some y') (h : minK lt (ev G fr x') (ev G fr y') (K · H)) : Reads P o a w Φ Z (K · H) := by
  have hv := ev_sound (x := x) hrel.glob hf hx
  have hv2 := ev_sound (x := y) hrel.glob hf hy
  unfold minK at h
  split at h
  · rename_i k p k' q he1 he2
    obtain ⟨rfl, h⟩ := h
    rw [he1] at hv
    rw [he2] at hv2
    have e1 := hv.int_inv
    have e2 := hv2.int_inv
    cases lt
    · refine .here (rv := .int k (if q > p then q else p)) ?_ hrel h ?_
      · simp [execOp, ho, resolve, hc, hargs, invoke, builtin, Builtin.max_, e1, e2, Builtin.max2]
      · simp; exact .int _ _
    · refine .here (rv := .int k (if q < p then q else p)) ?_ hrel h ?_
      · simp [execOp, ho, resolve, hc, hargs, invoke, builtin, Builtin.min_, e1, e2, Builtin.min2]
      · simp; exact .int _ _
  · exact h.elim

theorem lenC_sound {t : TypeId} {e : TypeId} {n : Nat} {x : Operand} {c : Call} (hrel : Rel G B Φ Z H w) (ho : o.op = .call c) (hc : c.callee = .builtin .len) (hat : c.argTypes = #[t]) (hargs : c.args = #[x]) (ht : P.underlying t = some (.array n e))
    (h : K (.int .i64 n) H) : Reads P o a w Φ Z (K · H) := by
  refine .here (rv := goInt n) ?_ hrel h (.int _ _)
  simp [execOp, ho, resolve, hc, hat, hargs, invoke, builtin, Builtin.len_, run_underlying ht]

theorem mkf_sound {f : Fn} {first cap : Array Operand} {f' c' : List Opd} (hrel : Rel G B Φ Z H w) (hf : FrR Φ Z w fr a) (ho : o.op = .makeFunc f first cap) (h1 : opds first.toList = some f') (h2 : opds cap.toList = some c')
    (h : K (.fn f (evs G fr f') (evs G fr c')) H) : Reads P o a w Φ Z (K · H) := by
  have v1 := evs_sound hrel.glob hf h1
  have v2 := evs_sound hrel.glob hf h2
  refine .here (rv := .func f (first.map a.eval) (cap.map a.eval)) (by simp [execOp, ho, Instr.makeFunc]) hrel h ?_
  have e1 : (first.toList.map a.eval).toArray = first.map a.eval := by rw [← Array.toList_map]
  have e2 : (cap.toList.map a.eval).toArray = cap.map a.eval := by rw [← Array.toList_map]
  rw [e1] at v1
  rw [e2] at v2
  exact .fn _ _ _ _ _ v1.1 v2.1 v1.2 v2.2

end
end Go.MW

