/- What the small code does, as a weakest precondition by recursion on the code. -/
import Derived.Test.YtphbhoggcddgmaaDoorMwCode
namespace Go.MW
open Go

abbrev Fr := List (Nat × V)

structure St where
  fr : Fr
  H : List Blk

def get : Fr → Nat → V
  | [], _ => .junk
  | (j, v) :: r, i => bif j == i then v else get r i

theorem get_cons (j : Nat) (v : V) (r : Fr) (i : Nat) : get ((j, v) :: r) i = if j = i then v else get r i := by
  simp only [get, cond_eq_ite, beq_iff_eq]

def put : Option Nat → V → Fr → Fr
  | some d, v, fr => (d, v) :: fr
  | none, _, fr => fr

/-- Is it a value that memory holds in one cell, or a struct's or an array's? -/
def V.solid : V → Bool
  | .junk | .tup _ => false
  | _ => true
def V.one : V → Bool
  | .junk | .tup _ | .agg _ => false
  | _ => true

def V.isStr : V → Bool
  | .str _ => true
  | _ => false

/-- An element of so many cells, each of which memory may hold. -/
def Good (sz : Nat) (y : V) : Prop := y.cells.length = sz ∧ ∀ c ∈ y.cells, c.one = true
def Goods (sz : Nat) (ys : List V) : Prop := ∀ y ∈ ys, Good sz y

def u8V (b : UInt8) : V := .int .u8 b.toNat

/-- Some cells in the place of others, from a place on. -/
def setR : List V → Nat → List V → List V
  | [], _, _ => []
  | a :: l, 0, [] => a :: l
  | _ :: l, 0, v :: vs => v :: setR l 0 vs
  | a :: l, n + 1, vs => a :: setR l n vs

def getB (H : List Blk) (b : Nat) : Blk := H.getD b (.map [])

/-- A part of an element. -/
def sub (x : V) (sz j m : Nat) : V := if j = 0 ∧ m = sz then .agg x.cells else .agg ((x.cells.drop j).take m)
/-- An element with a part of it changed. -/
def upd (x : V) (sz j m : Nat) (v : V) : V := if j = 0 ∧ m = sz then v else .agg (setR x.cells j v.cells)

section
variable (P : Program) (G : Nat → Option (List V))

def ev (fr : Fr) : Opd → V
  | .t i => get fr i
  | .c v => v
  | .g n => match G n with
    | some cs => .vp cs
    | none => .junk
  | .f n => .fn (.func n) [] []

def evs (fr : Fr) (xs : List Opd) : List V := xs.map (ev G fr)

/-- Either way of a test; 'simp' goes into the test alone. -/
def br (b : Bool) (p q : Prop) : Prop := (b = true → p) ∧ (b = false → q)

def ldK (agg : Option Nat) (a : V) (H : List Blk) (K : V → List Blk → Prop) : Prop :=
  match a with
  | .vp cs => match agg with
    | none => 0 < cs.length ∧ K (cs.getD 0 .junk) H
    | some n => n ≤ cs.length ∧ K (.agg (cs.take n)) H
  | .ptr b n i j => match getB H b with
    | .row sz xs _ _ => xs.length = n ∧ i < n ∧ match agg with
      | none => j < sz ∧ K ((xs.getD i .junk).cells.getD j .junk) H
      | some m => j + m ≤ sz ∧ K (sub (xs.getD i .junk) sz j m) H
    | _ => False
  | _ => False

def stK (m : Nat) (a v : V) (H : List Blk) (K : V → List Blk → Prop) : Prop :=
  Good m v ∧ match a with
  | .ptr b n i j => match getB H b with
    | .row sz xs opn frz => xs.length = n ∧ i < n ∧ j + m ≤ sz ∧ frz = false ∧ K .junk (H.set b (.row sz (xs.set i (upd (xs.getD i .junk) sz j m v)) opn false))
    | _ => False
  | _ => False

def nchkK (x : V) (K : V → Prop) : Prop :=
  match x with
  | .vp _ | .ptr .. => K x
  | .fn (.func _) _ _ => K x
  | _ => False

/-- Bits, in so many as the kind has. -/
def bitOp (op : BinOp) (k : IntKind) (a b : Int) : Int :=
  let x := BitVec.ofInt k.bits a
  let y := BitVec.ofInt k.bits b
  match op with
  | .and => k.wrap (x &&& y).toNat
  | .or => k.wrap (x ||| y).toNat
  | .xor => k.wrap (x ^^^ y).toNat
  | _ => k.wrap (x &&& ~~~y).toNat

def binK (op : BinOp) (x y : V) (K : V → Prop) : Prop :=
  match x, y with
  | .int k a, .int k' b => match op with
    | .add => k = k' ∧ K (.int k (k.wrap (a + b)))
    | .sub => k = k' ∧ K (.int k (k.wrap (a - b)))
    | .mul => k = k' ∧ K (.int k (k.wrap (a * b)))
    | .quo => k = k' ∧ b ≠ 0 ∧ K (.int k (k.wrap (a.tdiv b)))
    | .rem => k = k' ∧ b ≠ 0 ∧ K (.int k (a.tmod b))
    | .and => k = k' ∧ K (.int k (bitOp .and k a b))
    | .or => k = k' ∧ K (.int k (bitOp .or k a b))
    | .xor => k = k' ∧ K (.int k (bitOp .xor k a b))
    | .andNot => k = k' ∧ K (.int k (bitOp .andNot k a b))
    | .shl => 0 ≤ b ∧ K (.int k (k.wrap (a * 2 ^ (Nat.min b.toNat k.bits))))
    | .shr => 0 ≤ b ∧ K (.int k (a.fdiv (2 ^ (Nat.min b.toNat k.bits))))
    | .eql => k = k' ∧ K (.bool (a == b))
    | .neq => k = k' ∧ K (.bool (a != b))
    | .lss => k = k' ∧ K (.bool (decide (a < b)))
    | .leq => k = k' ∧ K (.bool (decide (a ≤ b)))
    | .gtr => k = k' ∧ K (.bool (decide (b < a)))
    | .geq => k = k' ∧ K (.bool (decide (b ≤ a)))
  | .str a, .str b => match op with
    | .add => a.length + b.length < 2 ^ 63 ∧ K (.str (a ++ b))
    | .eql => K (.bool (a == b))
    | .neq => K (.bool (a != b))
    | .lss => K (.bool (Op.bytesLess a b))
    | .leq => K (.bool (Op.bytesLess a b || a == b))
    | .gtr => K (.bool (!(Op.bytesLess a b || a == b)))
    | .geq => K (.bool (!Op.bytesLess a b))
    | _ => False
  | _, _ => False

def unK (op : UnOp) (x : V) (K : V → Prop) : Prop :=
  match op, x with
  | .not, .bool b => K (.bool !b)
  | .neg, .int k n => K (.int k (k.wrap (0 - n)))
  | .xor, .int k n => K (.int k (bitOp .xor k (if k.signed then -1 else k.max) n))
  | _, _ => False

/-- Are two cells alike? -/
def eq1 : Nat → V → V → Option Bool
  | 0, .int k a, .int k' b => if k = k' then some (decide (a = b)) else none
  | 1, .bool a, .bool b => some (a == b)
  | 2, .str a, .str b => some (a == b)
  | _, _, _ => none
def eqs : List Nat → List V → List V → Option Bool
  | [], [], [] => some true
  | k :: ks, a :: as, b :: bs => match eq1 k a b, eqs ks as bs with
    | some x, some y => some (x && y)
    | _, _ => none
  | _, _, _ => none
def eqTK (neg : Bool) (ks : List Nat) (x y : V) (K : V → Prop) : Prop :=
  match x, y with
  | .agg as, .agg bs => match eqs ks as bs with
    | some r => K (.bool (bif neg then !r else r))
    | none => False
  | _, _ => False

def eqBK (neg : Bool) (x y : V) (K : V → Prop) : Prop :=
  match x, y with
  | .bool a, .bool b => K (.bool (bif neg then !(a == b) else a == b))
  | _, _ => False

def nilqK (neg : Bool) (x : V) (K : V → Prop) : Prop :=
  match x with
  | .nils => K (.bool !neg)
  | .vs _ => K (.bool neg)
  | _ => False

def cviK (k : IntKind) (x : V) (K : V → Prop) : Prop :=
  match x with
  | .int _ n => K (.int k (k.wrap n))
  | _ => False

/-- The elements of a slice, or a string's bytes. -/
def elemsK (H : List Blk) (x : V) (K : List V → Prop) : Prop :=
  match x with
  | .vs xs => K xs
  | .nils => K []
  | .str s => K (s.map u8V)
  | .hs b n i j len _ sz => match getB H b with
    | .row rsz xs _ _ => xs.length = n ∧
      (if rsz = sz ∧ j = 0 then i + len ≤ n ∧ K ((xs.drop i).take len)
       else sz = 1 ∧ i < n ∧ j + len ≤ rsz ∧ (∀ y ∈ ((xs.getD i .junk).cells.drop j).take len, y.one = true) ∧ K (((xs.getD i .junk).cells.drop j).take len))
    | _ => False
  | _ => False

def lenK (k : Nat) (H : List Blk) (x : V) (K : V → Prop) : Prop :=
  match k, x with
  | 0, .str s => K (.int .i64 s.length)
  | 1, .vs xs => K (.int .i64 xs.length)
  | 1, .nils => K (.int .i64 0)
  | 1, .hs _ _ _ _ len _ _ => K (.int .i64 len)
  | 2, .map b => b < H.length ∧ match getB H b with
    | .map es => K (.int .i64 es.length)
    | _ => False
  | _, _ => False

/-- A bound of a slice expression: 'none' is d. -/
def bnd (d : Nat) (x : Option V) (K : Nat → Prop) : Prop :=
  match x with
  | none => K d
  | some (.int _ n) => 0 ≤ n ∧ K n.toNat
  | some _ => False

def slSK (x : V) (lo hi : Option V) (K : V → Prop) : Prop :=
  match x with
  | .str s => bnd s.length hi fun h => h ≤ s.length ∧ bnd 0 lo fun l => l ≤ h ∧ K (.str ((s.drop l).take (h - l)))
  | _ => False

/-- A slice of a row, from l to h, with capacity up to m ('none': as far as there is). -/
def slHK (H : List Blk) (b n i j : Nat) (cap : Option Nat) (sz l h : Nat) (K : V → Prop) : Prop :=
  match getB H b with
  | .row rsz xs _ _ => xs.length = n ∧ if l = 0 then K (.hs b n i j h cap sz)
    else (if l = h ∧ (cap = some l ∨ cap = none) then K (.vs [])
      else K (if rsz = sz then .hs b n (i + l) j (h - l) (cap.map (· - l)) sz else .hs b n i (j + l * sz) (h - l) (cap.map (· - l)) sz))
  | _ => False

def slK (H : List Blk) (sz : Nat) (x : V) (lo hi mx : Option V) (K : V → Prop) : Prop :=
  (mx.isSome = true → hi.isSome = true) ∧ match x with
  | .vs xs => (∀ y ∈ xs, y.cells.length = sz) ∧ bnd xs.length mx fun m => m ≤ xs.length ∧ bnd xs.length hi fun h => h ≤ m ∧ bnd 0 lo fun l => l ≤ h ∧ K (.vs ((xs.drop l).take (h - l)))
  | .nils => bnd 0 mx fun m => m = 0 ∧ bnd 0 hi fun h => h = 0 ∧ bnd 0 lo fun l => l = 0 ∧ K .nils
  | .hs b n i j len cap sz' => sz' = sz ∧ match mx, cap with
    | none, some c => bnd len hi fun h => h ≤ c ∧ bnd 0 lo fun l => l ≤ h ∧ slHK H b n i j (some c) sz l h K
    | none, none => bnd len hi fun h => h ≤ len ∧ bnd 0 lo fun l => l ≤ h ∧ slHK H b n i j none sz l h K
    | some mv, some c => bnd c (some mv) fun m => m ≤ c ∧ bnd len hi fun h => h ≤ m ∧ bnd 0 lo fun l => l ≤ h ∧ slHK H b n i j (some m) sz l h K
    | some mv, none => bnd len (some mv) fun m => m ≤ len ∧ bnd len hi fun h => h ≤ m ∧ bnd 0 lo fun l => l ≤ h ∧ slHK H b n i j (some m) sz l h K
  | _ => False

def slAK (H : List Blk) (n sz : Nat) (x : V) (lo hi mx : Option V) (K : V → Prop) : Prop :=
  (mx.isSome = true → hi.isSome = true) ∧ match x with
  | .ptr b m i j => bnd n mx fun mm => mm ≤ n ∧ bnd n hi fun h => h ≤ mm ∧ bnd 0 lo fun l => l ≤ h ∧ slHK H b m i j (some mm) sz l h K
  | _ => False

def faK (off : Nat) (x : V) (K : V → Prop) : Prop :=
  match x with
  | .vp cs => off ≤ cs.length ∧ K (.vp (cs.drop off))
  | .ptr b n i j => K (.ptr b n i (j + off))
  | _ => False

def fldK (agg : Option Nat) (off : Nat) (x : V) (K : V → Prop) : Prop :=
  match x with
  | .agg cs => match agg with
    | none => off < cs.length ∧ K (cs.getD off .junk)
    | some n => off + n ≤ cs.length ∧ K (.agg ((cs.drop off).take n))
  | _ => False

def iaK (H : List Blk) (sz : Nat) (x i : V) (K : V → Prop) : Prop :=
  match x, i with
  | .vs xs, .int _ n => 0 ≤ n ∧ n.toNat < xs.length ∧ (xs.getD n.toNat .junk).cells.length = sz ∧ K (.vp (xs.getD n.toNat .junk).cells)
  | .hs b m i j len _ sz', .int _ n => sz' = sz ∧ 0 ≤ n ∧ n.toNat < len ∧ match getB H b with
    | .row rsz xs _ _ => xs.length = m ∧ K (if rsz = sz then .ptr b m (i + n.toNat) j else .ptr b m i (j + n.toNat * sz))
    | _ => False
  | _, _ => False

def iaAK (n sz : Nat) (x i : V) (K : V → Prop) : Prop :=
  match x, i with
  | .ptr b m e j, .int _ q => 0 ≤ q ∧ q.toNat < n ∧ K (.ptr b m e (j + q.toNat * sz))
  | .vp cs, .int _ q => 0 ≤ q ∧ q.toNat < n ∧ n * sz ≤ cs.length ∧ K (.vp (cs.drop (q.toNat * sz)))
  | _, _ => False

def ixAK (n sz : Nat) (agg : Bool) (x i : V) (K : V → Prop) : Prop :=
  match x, i with
  | .agg cs, .int _ q => 0 ≤ q ∧ q.toNat < n ∧ n * sz ≤ cs.length ∧ K (if agg then .agg ((cs.drop (q.toNat * sz)).take sz) else cs.getD (q.toNat * sz) .junk)
  | _, _ => False

def ixSK (x i : V) (K : V → Prop) : Prop :=
  match x, i with
  | .str s, .int _ n => 0 ≤ n ∧ n.toNat < s.length ∧ K (u8V (s.getD n.toNat 0))
  | _, _ => False

def extK (x : V) (i : Nat) (K : V → Prop) : Prop :=
  match x with
  | .tup vs => i < vs.length ∧ K (vs.getD i .junk)
  | _ => False

def pickK (c a b : V) (K : V → Prop) : Prop :=
  match c with
  | .bool t => K (cond t a b)
  | _ => False

/-- How many bytes an append may make. -/
def roomy (n bytes : Nat) : Prop := n * bytes ≤ 2 ^ 47

/-- Elements behind a slice. -/
def appK (sz bytes : Nat) (x : V) (ys : List V) (H : List Blk) (K : V → List Blk → Prop) : Prop :=
  Goods sz ys ∧ match x with
  | .nils => if ys = [] then K .nils H else roomy ys.length bytes ∧ K (.hs H.length ys.length 0 0 ys.length none sz) (H ++ [.row sz ys true false])
  | .vs xs => ys = [] ∧ K (.vs xs) H
  | .hs b n i j len cap sz' => sz' = sz ∧ j = 0 ∧ match getB H b with
    | .row rsz xs opn frz => rsz = sz ∧ xs.length = n ∧ i + len ≤ n ∧ Goods sz xs ∧ match cap with
      | some c => if len + ys.length ≤ c then i + c ≤ n ∧ frz = false ∧ K (.hs b n i 0 (len + ys.length) (some c) sz) (H.set b (.row sz (xs.take (i + len) ++ ys ++ xs.drop (i + len + ys.length)) opn false))
        else roomy (len + ys.length) bytes ∧ K (.hs H.length (len + ys.length) 0 0 (len + ys.length) none sz) (H ++ [.row sz ((xs.drop i).take len ++ ys) true false])
      | none => if i + len + ys.length ≤ n then frz = false ∧ K (.hs b n i 0 (len + ys.length) none sz) (H.set b (.row sz (xs.take (i + len) ++ ys ++ xs.drop (i + len + ys.length)) opn false))
        else i = 0 ∧ frz = false ∧ roomy (len + ys.length) bytes ∧ K (.hs b (len + ys.length) 0 0 (len + ys.length) none sz) (H.set b (.row sz (xs.take len ++ ys) true false))
    | _ => False
  | _ => False

/-- Elements written over those of a slice, from its first one on. -/
def wrK (sz : Nat) (x : V) (ys : List V) (H : List Blk) (K : List Blk → Prop) : Prop :=
  Goods sz ys ∧ match x with
  | .hs b n i j len _ sz' => sz' = sz ∧ ys.length ≤ len ∧ match getB H b with
    | .row rsz xs opn frz => xs.length = n ∧ frz = false ∧
      (if rsz = sz ∧ j = 0 then i + len ≤ n ∧ K (H.set b (.row rsz (xs.take i ++ ys ++ xs.drop (i + ys.length)) opn false))
       else sz = 1 ∧ i < n ∧ j + len ≤ rsz ∧ (∀ y ∈ ys, y.one = true) ∧ K (H.set b (.row rsz (xs.set i (.agg (setR (xs.getD i .junk).cells j ys))) opn false)))
    | _ => False
  | .nils => ys = [] ∧ K H
  | .vs _ => ys = [] ∧ K H
  | _ => False

def minK (lt : Bool) (x y : V) (K : V → Prop) : Prop :=
  match x, y with
  | .int k a, .int k' b => k = k' ∧ K (.int k (if lt then (if b < a then b else a) else (if a < b then b else a)))
  | _, _ => False

def mksK (sz bytes : Nat) (zero l c : V) (K : (Nat → V) → Blk → Prop) : Prop :=
  match l, c with
  | .int _ a, .int _ b => 0 ≤ a ∧ a ≤ b ∧ b < 2 ^ 63 ∧ bytes * b ≤ 2 ^ 48 ∧ K (fun q => .hs q b.toNat 0 0 a.toNat (some b.toNat) sz) (.row sz (List.replicate b.toNat zero) false false)
  | _, _ => False

def bytesK (xs : List V) (K : V → Prop) : Prop := ∃ s : List UInt8, xs = s.map u8V ∧ K (.str s)

def partsV (fr : Fr) : List V → List (Nat × Nat × Opd) → (List V → Prop) → Prop
  | z, [], K => K z
  | z, (off, sz, x) :: r, K => (ev G fr x).solid = true ∧ (ev G fr x).cells.length = sz ∧ partsV fr (setR z off (ev G fr x).cells) r K

def partsS (fr : Fr) (sz : Nat) : List V → List (Nat × Opd) → (List V → Prop) → Prop
  | z, [], K => K z
  | z, (i, x) :: r, K => (ev G fr x).solid = true ∧ (ev G fr x).cells.length = sz ∧ partsS fr sz (z.set i (ev G fr x)) r K

end

/-- A call on the abstract heap. -/
def Sim (P : Program) (G : Nat → Option (List V)) (f : Nat) (args : List V) (H : List Blk) (r : V) (H' : List Blk) : Prop :=
  ∀ (B : Nat) (Φ : Nat → Option Pl) (Z : Nat → Prop) (w : World) (rargs : Array Value), Rel G B Φ Z H w → VRs Φ Z w args rargs →
    Calls P f rargs w fun e w' => ∃ rv Φ' Z', e = .returned rv ∧ VR Φ' Z' w' r rv ∧ Rel G B Φ' Z' H' w' ∧ Ev B Φ Z w Φ' Z' w'

/-- A call that leaves the abstract heap, and where its rows lie, as they are. -/
def QSim (P : Program) (G : Nat → Option (List V)) (f : Nat) (args : List V) (H : List Blk) (r : V) : Prop :=
  ∀ (B : Nat) (Φ : Nat → Option Pl) (Z : Nat → Prop) (w : World) (rargs : Array Value), Rel G B Φ Z H w → VRs Φ Z w args rargs →
    Calls P f rargs w fun e w' => ∃ rv Z', e = .returned rv ∧ VR Φ Z' w' r rv ∧ Rel G B Φ Z' H w' ∧ Ev B Φ Z w Φ Z' w'

def callK (P : Program) (G : Nat → Option (List V)) (q : Bool) (f : Nat) (args : List V) (H : List Blk) (K : V → List Blk → Prop) : Prop :=
  if q then ∃ r, (∀ T, QSim P G f args (H ++ T) r) ∧ K r H else ∃ r H', Sim P G f args H r H' ∧ K r H'

def callvK (P : Program) (G : Nat → Option (List V)) (q : Bool) (x : V) (args : List V) (H : List Blk) (K : V → List Blk → Prop) : Prop :=
  match x with
  | .fn (.func f) first cap => (P.funcs[f]?).any (fun fn => fn.body.isSome && fn.name != "runtime.NumGoroutine") = true ∧ callK P G q f (first ++ args ++ cap) H K
  | _ => False

section
variable (P : Program) (G : Nat → Option (List V))

/-- What makes a block: its value, by the block's number, and the block. -/
def mkM (m : MOp) (fr : Fr) (K : (Nat → V) → Blk → Prop) : Prop :=
  let e := ev G fr
  match m with
  | .new sz x => K (fun q => .ptr q 1 0 0) (.row sz [x] false false)
  | .box sz x => (e x).solid = true ∧ (e x).cells.length = sz ∧ K (fun q => .ptr q 1 0 0) (.row sz [e x] false false)
  | .bslice sz z len parts => partsS G fr sz (List.replicate len z) parts fun xs => K (fun q => .hs q len 0 0 len (some len) sz) (.row sz xs false false)
  | .s2b x => match e x with
    | .str s => K (fun q => .hs q s.length 0 0 s.length none 1) (.row 1 (s.map u8V) true false)
    | _ => False
  | .mks sz by_ z l c => mksK sz by_ z (e l) (e c) K
  | .mkm => K (fun q => .map q) (.map [])
  | _ => False

def stepM (q : Bool) (m : MOp) (fr : Fr) (H : List Blk) (K : V → List Blk → Prop) : Prop :=
  let e := ev G fr
  match m with
  | .mv x => K (e x) H
  | .pick c a b => pickK (e c) (e a) (e b) (K · H)
  | .new .. | .box .. | .bslice .. | .s2b .. | .mks .. | .mkm => mkM G m fr fun r k => K (r H.length) (H ++ [k])
  | .build z parts => partsV G fr z parts fun cs => K (.agg cs) H
  | .ld agg a => ldK agg (e a) H K
  | .st n a x => stK n (e a) (e x) H K
  | .nchk x => nchkK (e x) (K · H)
  | .bin op x y => binK op (e x) (e y) (K · H)
  | .eqT neg ks x y => eqTK neg ks (e x) (e y) (K · H)
  | .eqB neg x y => eqBK neg (e x) (e y) (K · H)
  | .nilq neg x => nilqK neg (e x) (K · H)
  | .un op x => unK op (e x) (K · H)
  | .cvi k x => cviK k (e x) (K · H)
  | .b2s x => (e x).isStr = false ∧ elemsK H (e x) fun xs => bytesK xs (K · H)
  | .mkf f first cap => K (.fn f (evs G fr first) (evs G fr cap)) H
  | .slS x lo hi => slSK (e x) (lo.map e) (hi.map e) (K · H)
  | .sl sz x lo hi mx => slK H sz (e x) (lo.map e) (hi.map e) (mx.map e) (K · H)
  | .slA n sz x lo hi mx => slAK H n sz (e x) (lo.map e) (hi.map e) (mx.map e) (K · H)
  | .fa off x => faK off (e x) (K · H)
  | .fld agg off x => fldK agg off (e x) (K · H)
  | .ia sz x i => iaK H sz (e x) (e i) (K · H)
  | .iaA n sz x i => iaAK n sz (e x) (e i) (K · H)
  | .ixA n sz agg x i => ixAK n sz agg (e x) (e i) (K · H)
  | .ixS x i => ixSK (e x) (e i) (K · H)
  | .ext x i => extK (e x) i (K · H)
  | .len k x => lenK k H (e x) (K · H)
  | .lenC n => K (.int .i64 n) H
  | .app sz by_ _ x y => elemsK H (e y) fun ys => appK sz by_ (e x) ys H K
  | .cpy sz x y => elemsK H (e y) fun ys => lenK 1 H (e x) fun l => match l with
    | .int _ n => wrK sz (e x) (ys.take n.toNat) H fun H' => K (.int .i64 (Nat.min ys.length n.toNat)) H'
    | _ => False
  | .clr sz z x => lenK 1 H (e x) fun l => match l with
    | .int _ n => wrK sz (e x) (List.replicate n.toNat z) H fun H' => K .junk H'
    | _ => False
  | .min x y => minK true (e x) (e y) (K · H)
  | .max x y => minK false (e x) (e y) (K · H)
  | .call f args => callK P G q f (evs G fr args) H K
  | .callv x args => callvK P G q (e x) (evs G fr args) H K
  | _ => False

/-- A guard: is it wanted? -/
def gdK (fr : Fr) (g : Option (Nat × Bool)) (p q : Prop) : Prop :=
  match g with
  | none => p
  | some (t, want) => match get fr t with
    | .bool b => br (b == want) p q
    | _ => False

def mops : List MO → (St → Prop) → St → Prop
  | [], K, st => K st
  | m :: r, K, st => gdK st.fr m.gd (stepM P G m.q m.op st.fr st.H fun v H' => mops r K ⟨put m.dst v st.fr, H'⟩) (mops r K ⟨put m.dst .junk st.fr, st.H⟩)

def thenK (K : St → Prop) (Q : Exit → St → Prop) : Exit → St → Prop
  | .normal, st => K st
  | e, st => Q e st

def blockK (id : Nat) (Q : Exit → St → Prop) : Exit → St → Prop
  | .exit id', st => if id' = id then Q .normal st else Q (.exit id') st
  | e, st => Q e st

def scopeK (Q : Exit → St → Prop) : Exit → St → Prop
  | .goto _, _ => False
  | e, st => Q e st

def condK (c : V) (p q : Prop) : Prop :=
  match c with
  | .bool b => br b p q
  | _ => False

def mwp : MC → (Exit → St → Prop) → St → Prop
  | .skip, Q, st => Q .normal st
  | .reg _ ops, Q, st => mops P G ops (Q .normal) st
  | .seq a b, Q, st => mwp a (thenK (mwp b Q) Q) st
  | .cond c a b, Q, st => condK (ev G st.fr c) (mwp a Q st) (mwp b Q st)
  | .block id c, Q, st => mwp c (blockK id Q) st
  | .loop c, Q, st => ∃ I : Nat → St → Prop, (∃ n, I n st) ∧ ∀ n st, I n st → mwp c (thenK (fun st' => ∃ n', n' < n ∧ I n' st') Q) st
  | .scope c, Q, st => mwp c (scopeK Q) st
  | .exit id, Q, st => Q (.exit id) st
  | .ret, Q, st => Q .ret st
  | .label _, Q, st => Q .normal st
  | _, _, _ => False

end
end Go.MW
