/- The small code: what the model's code is compiled to, with types resolved. -/
import Derived.Test.YtphbhoggcddgmaaDoorMwVal
namespace Go.MW
open Go

inductive Opd where
  | t (i : Nat)
  | c (v : V)
  | g (n : Nat)
  | f (n : Nat)

inductive MOp where
  | mv (x : Opd)
  | pick (c a b : Opd)
  | new (sz : Nat) (x : V)
  | box (sz : Nat) (x : Opd)
  | build (zero : List V) (parts : List (Nat × Nat × Opd))
  | bslice (sz : Nat) (zero : V) (len : Nat) (parts : List (Nat × Opd))
  | ld (agg : Option Nat) (a : Opd)
  | st (n : Nat) (a x : Opd)
  | nchk (x : Opd)
  | bin (op : BinOp) (x y : Opd)
  | eqT (neg : Bool) (ks : List Nat) (x y : Opd)
  | eqB (neg : Bool) (x y : Opd)
  | nilq (neg : Bool) (x : Opd)
  | un (op : UnOp) (x : Opd)
  | cvi (k : IntKind) (x : Opd)
  | b2s (x : Opd)
  | s2b (x : Opd)
  | mkf (f : Fn) (first cap : List Opd)
  | mks (sz bytes : Nat) (zero : V) (l c : Opd)
  | slS (x : Opd) (lo hi : Option Opd)
  | sl (sz : Nat) (x : Opd) (lo hi mx : Option Opd)
  | slA (n sz : Nat) (x : Opd) (lo hi mx : Option Opd)
  | fa (off : Nat) (x : Opd)
  | fld (agg : Option Nat) (off : Nat) (x : Opd)
  | ia (sz : Nat) (x i : Opd)
  | iaA (n sz : Nat) (x i : Opd)
  | ixA (n sz : Nat) (agg : Bool) (x i : Opd)
  | ixS (x i : Opd)
  | ext (x : Opd) (i : Nat)
  | len (k : Nat) (x : Opd)
  | lenC (n : Nat)
  | capa (x : Opd)
  | app (sz bytes : Nat) (zero : V) (x y : Opd)
  | appZ (sz bytes : Nat) (zero : V) (x n : Opd)
  | cpy (sz : Nat) (x y : Opd)
  | clr (sz : Nat) (zero : V) (x : Opd)
  | min (x y : Opd)
  | max (x y : Opd)
  | call (f : Nat) (args : List Opd)
  | callv (x : Opd) (args : List Opd)
  | mkm
  | look (t : Nat) (ok : Bool) (zero : V) (m k : Opd)
  | mset (t : Nat) (m k v : Opd)
  | mdel (t : Nat) (m k : Opd)
  | bad

/-- One operation: where its result goes; its guard; 'q': if it is a call, it must leave the heap as it is. -/
structure MO where
  dst : Option Nat
  op : MOp
  gd : Option (Nat × Bool)
  q : Bool

def o (d : Nat) (op : MOp) : MO := ⟨some d, op, none, false⟩
def s (op : MOp) : MO := ⟨none, op, none, false⟩
def go (d t : Nat) (w : Bool) (op : MOp) : MO := ⟨some d, op, some (t, w), false⟩
def gs (t : Nat) (w : Bool) (op : MOp) : MO := ⟨none, op, some (t, w), false⟩
def qq (d : Option Nat) (g : Option (Nat × Bool)) (op : MOp) : MO := ⟨d, op, g, true⟩

inductive MC where
  | skip
  | reg (draw : Bool) (ops : List MO)
  | seq (a b : MC)
  | cond (c : Opd) (a b : MC)
  | block (id : Nat) (c : MC)
  | loop (c : MC)
  | exit (id : Nat)
  | scope (c : MC)
  | label (l : Nat)
  | goto (l : Nat)
  | ret
  | bad

/-- A constant. -/
def ofVal1 : Value → Option V
  | .bool b => some (.bool b)
  | .int k n => some (.int k n)
  | .string s => some (.str s.data.toList)
  | .pointer none => some .nilp
  | .slice none 0 0 => some .nils
  | .nilFunc => some .nilf
  | _ => none

def ofVals : List Value → Option (List V)
  | [] => some []
  | v :: r => match ofVal1 v, ofVals r with
    | some x, some xs => some (x :: xs)
    | _, _ => none

def ofVal : Value → Option V
  | .agg cs => (ofVals cs.toList).map .agg
  | v => ofVal1 v

def opd : Operand → Option Opd
  | .tmp t => some (.t t)
  | .const v => (ofVal v).map .c
  | .global g => some (.g g)
  | .func f => some (.f f)

def opds : List Operand → Option (List Opd)
  | [] => some []
  | x :: r => match opd x, opds r with
    | some a, some as => some (a :: as)
    | _, _ => none

def opdO : Option Operand → Option (Option Opd)
  | none => some none
  | some x => (opd x).map some

/-- A type's zero value, by its cells, and its size. -/
def zeroT (P : Program) (t : TypeId) : Option (V × Nat) :=
  match P.info? t with
  | none => none
  | some i => match i.zero with
    | none => none
    | some z => match ofVal z with
      | none => none
      | some v => if v.cells.length = i.size then some (v, i.size) else none

/-- 'none': one cell; 'some n': a struct or an array of n cells. -/
def aggT (P : Program) (t : TypeId) : Option (Option Nat) :=
  match P.underlying t, P.info? t with
  | some (.struct _), some i => some (some i.size)
  | some (.array _ _), some i => some (some i.size)
  | some _, some i => if i.size = 1 then some none else none
  | _, _ => none

def sizeT (P : Program) (t : TypeId) : Option Nat := (P.info? t).map (·.size)
def bytesT (P : Program) (t : TypeId) : Option Nat := (P.info? t).map (·.bytes)

def compParts (P : Program) (fields : Array Field) (n : Nat) : List (Nat × Operand) → Option (List (Nat × Nat × Opd))
  | [] => some []
  | (i, x) :: r => match fields[i]?, opd x, compParts P fields n r with
    | some f, some a, some as => match sizeT P f.type with
      | some s => if f.offset + s ≤ n then some ((f.offset, s, a) :: as) else none
      | none => none
    | _, _, _ => none

def compPartsA (sz n : Nat) : List (Nat × Operand) → Option (List (Nat × Nat × Opd))
  | [] => some []
  | (i, x) :: r => match opd x, compPartsA sz n r with
    | some a, some as => if i * sz + sz ≤ n then some ((i * sz, sz, a) :: as) else none
    | _, _ => none

def compPartsS (n : Nat) : List (Nat × Operand) → Option (List (Nat × Opd))
  | [] => some []
  | (i, x) :: r => match opd x, compPartsS n r with
    | some a, some as => if i < n then some ((i, a) :: as) else none
    | _, _ => none

def scalarT (P : Program) (t : TypeId) : Bool :=
  match P.underlying t with
  | some (.int _) | some .string => true
  | _ => false

def kindT (P : Program) (t : TypeId) : Option Nat :=
  match P.underlying t with
  | some (.int _) => some 0
  | some .bool => some 1
  | some .string => some 2
  | _ => none

/-- Fields of one cell each, that can be compared: of which kind. -/
def flatF (P : Program) : Nat → List Field → Option (List Nat)
  | _, [] => some []
  | i, f :: fs => if f.offset == i && f.name != "_" && sizeT P f.type == some 1 then match kindT P f.type, flatF P (i + 1) fs with
      | some k, some ks => some (k :: ks)
      | _, _ => none
    else none

def flatS (P : Program) (t : TypeId) (fs : Array Field) : Option (List Nat) := if !P.eqGuardType P.depth t && !P.stoodInHeld t then flatF P 0 fs.toList else none

def compCall (P : Program) (c : Call) : Option MOp :=
  match c.callee with
  | .value (.func f) => match P.funcs[f]?, opds c.args.toList with
    | some fn, some as => if fn.body.isSome && fn.name != "runtime.NumGoroutine" then some (.call f as) else some .bad
    | _, _ => none
  | .value x => match opd x, opds c.args.toList with
    | some a, some as => some (.callv a as)
    | _, _ => none
  | .invoke _ _ => some .bad
  | .builtin b => match b, c.argTypes.toList, c.args.toList with
    | .len, [t], [x] => match P.underlying t, opd x with
      | some .string, some a => some (.len 0 a)
      | some (.slice _), some a => some (.len 1 a)
      | some (.map _ _), some a => some (.len 2 a)
      | some (.array n _), some _ => some (.lenC n)
      | _, _ => none
    | .cap, [t], [x] => match P.underlying t, opd x with
      | some (.slice _), some a => some (.capa a)
      | _, _ => none
    | .min, [t, u], [x, y] => match P.underlying t, P.underlying u, opd x, opd y with
      | some (.int _), some (.int _), some a, some b => some (.min a b)
      | _, _, _, _ => none
    | .max, [t, u], [x, y] => match P.underlying t, P.underlying u, opd x, opd y with
      | some (.int _), some (.int _), some a, some b => some (.max a b)
      | _, _, _, _ => none
    | .append, [t, u], [x, y] => match P.underlying t, P.underlying u, opd x, opd y with
      | some (.slice e), some d, some a, some b => match zeroT P e, bytesT P e with
        | some (z, sz), some by_ => if sz = 0 || by_ = 0 then none else match d with
          | .int _ => some (.appZ sz by_ z a b)
          | _ => some (.app sz by_ z a b)
        | _, _ => none
      | _, _, _, _ => none
    | .copy, [t, _], [x, y] => match P.underlying t, opd x, opd y with
      | some (.slice e), some a, some b => match sizeT P e with
        | some sz => if sz = 0 then none else some (.cpy sz a b)
        | none => none
      | _, _, _ => none
    | .clear, [t], [x] => match P.underlying t, opd x with
      | some (.slice e), some a => match zeroT P e with
        | some (z, sz) => if sz = 0 then none else some (.clr sz z a)
        | none => none
      | _, _ => none
    | .delete, [t, _], [m, k] => match P.underlying t, opd m, opd k with
      | some (.map kt _), some a, some b => some (.mdel kt a b)
      | _, _, _ => none
    | _, _, _ => some .bad

def compOp (P : Program) : Op → Option MOp
  | .move x | .assign x => (opd x).map .mv
  | .pick c a b => match opd c, opd a, opd b with
    | some c, some a, some b => some (.pick c a b)
    | _, _, _ => none
  | .alloc e => match zeroT P e with
    | some (z, n) => if n = 0 then none else some (.new n z)
    | none => none
  | .box e x => match sizeT P e, opd x with
    | some n, some a => if n = 0 then none else some (.box n a)
    | _, _ => none
  | .build t parts => match P.underlying t, zeroT P t with
    | some (.struct fs), some (z, n) => if (fs.toList.mapM fun f => (P.info? f.type).map fun i => (f.offset, i.size)).isSome then (compParts P fs n parts.toList).map (.build z.cells) else none
    | some (.array _ e), some (z, n) => match sizeT P e with
      | some sz => (compPartsA sz n parts.toList).map (.build z.cells)
      | none => none
    | _, _ => none
  | .buildSlice t len parts => match P.underlying t with
    | some (.slice e) => match zeroT P e with
      | some (z, sz) => if sz = 0 || len * sz > 2 ^ 24 then none else (compPartsS len parts.toList).map (.bslice sz z len)
      | none => none
    | _ => none
  | .load t a => match aggT P t, opd a with
    | some n, some x => some (.ld n x)
    | _, _ => none
  | .store t a v => match sizeT P t, opd a, opd v with
    | some n, some x, some y => some (.st n x y)
    | _, _, _ => none
  | .nilCheck x => (opd x).map .nchk
  | .binOp op t x y _ => match opd x, opd y with
    | some a, some b =>
      if scalarT P t then some (.bin op a b) else
      match op, P.underlying t with
      | .eql, some (.struct fs) => match flatS P t fs with
        | some ks => some (.eqT false ks a b)
        | none => some .bad
      | .neq, some (.struct fs) => match flatS P t fs with
        | some ks => some (.eqT true ks a b)
        | none => some .bad
      | .eql, some .bool => some (.eqB false a b)
      | .neq, some .bool => some (.eqB true a b)
      | .eql, some (.slice _) => match y with
        | .const (.slice none 0 0) => some (.nilq false a)
        | _ => some .bad
      | .neq, some (.slice _) => match y with
        | .const (.slice none 0 0) => some (.nilq true a)
        | _ => some .bad
      | _, _ => some .bad
    | _, _ => none
  | .unOp op _ x => (opd x).map (.un op)
  | .convert s d x => match P.underlying s, P.underlying d, opd x with
    | some (.int _), some (.int k), some a => some (.cvi k a)
    | some (.slice e), some .string, some a => match P.underlying e with
      | some (.int .u8) => some (.b2s a)
      | _ => none
    | some .string, some (.slice e), some a => match P.underlying e with
      | some (.int .u8) => some (.s2b a)
      | _ => none
    | some .string, some .string, some a => some (.slS a none none)
    | _, _, _ => none
  | .makeFunc f first cap => match opds first.toList, opds cap.toList with
    | some a, some b => some (.mkf f a b)
    | _, _ => none
  | .makeSlice t l c => match P.underlying t, opd l, opd c with
    | some (.slice e), some a, some b => match zeroT P e, bytesT P e with
      | some (z, sz), some by_ => if sz = 0 then none else some (.mks sz by_ z a b)
      | _, _ => none
    | _, _, _ => none
  | .slice t x lo hi mx => match P.underlying t, opd x, opdO lo, opdO hi, opdO mx with
    | some .string, some a, some l, some h, some none => some (.slS a l h)
    | some (.slice e), some a, some l, some h, some m => match sizeT P e with
      | some sz => if sz = 0 then none else some (.sl sz a l h m)
      | none => none
    | some (.array n e), some a, some l, some h, some m => match sizeT P e with
      | some sz => if sz = 0 then none else some (.slA n sz a l h m)
      | none => none
    | _, _, _, _, _ => none
  | .fieldAddr s x f => match P.underlying s, opd x with
    | some (.struct fs), some a => match fs[f]? with
      | some fd => match sizeT P fd.type with
        | some n => if n = 0 then none else some (.fa fd.offset a)
        | none => none
      | none => none
    | _, _ => none
  | .field s x f => match P.underlying s, opd x with
    | some (.struct fs), some a => match fs[f]? with
      | some fd => match aggT P fd.type with
        | some n => some (.fld n fd.offset a)
        | none => none
      | none => none
    | _, _ => none
  | .indexAddr t x i => match P.underlying t, opd x, opd i with
    | some (.slice e), some a, some b => match sizeT P e with
      | some sz => if sz = 0 then none else some (.ia sz a b)
      | none => none
    | some (.array n e), some a, some b => match sizeT P e with
      | some sz => if sz = 0 then none else some (.iaA n sz a b)
      | none => none
    | _, _, _ => none
  | .index t x i => match P.underlying t, opd x, opd i with
    | some .string, some a, some b => some (.ixS a b)
    | some (.array n e), some a, some b => match aggT P e with
      | some (some sz) => if sz = 0 then none else some (.ixA n sz true a b)
      | some none => some (.ixA n 1 false a b)
      | none => none
    | _, _, _ => none
  | .extract x i => (opd x).map (.ext · i)
  | .lookup t m k ok => match P.underlying t, opd m, opd k with
    | some (.map kt e), some a, some b => match zeroT P e with
      | some (z, _) => some (.look kt ok z a b)
      | none => none
    | _, _, _ => none
  | .mapUpdate t m k v | .insert t m k v => match P.underlying t, opd m, opd k, opd v with
    | some (.map kt _), some a, some b, some c => some (.mset kt a b c)
    | _, _, _, _ => none
  | .makeMap _ none => some .mkm
  | .call c => compCall P c
  | _ => some .bad

/-- Does an operation touch memory? 0: no; 1: it reads, or makes; 2: it may write. -/
def MOp.heat : MOp → Nat
  | .mv _ | .pick .. | .build .. | .nchk _ | .bin .. | .eqT .. | .eqB .. | .nilq .. | .un .. | .cvi .. | .mkf .. | .slS .. | .fa .. | .fld .. | .iaA .. | .ixA .. | .ixS .. | .ext .. | .lenC _
  | .min .. | .max .. | .bad => 0
  | .sl .. | .slA .. | .ia .. | .len .. | .capa _ | .new .. | .box .. | .bslice .. | .ld .. | .b2s _ | .s2b _ | .mks .. | .mkm | .look .. => 1
  | .call .. | .callv .. => 2
  | _ => 3

/-- 0: it reads alone; 1: it makes a block; 2: a call; 3: it writes. -/
def MOp.kind : MOp → Nat
  | .new .. | .box .. | .bslice .. | .s2b _ | .mks .. | .mkm => 1
  | .call .. | .callv .. => 2
  | .st .. | .app .. | .appZ .. | .cpy .. | .clr .. | .mset .. | .mdel .. => 3
  | _ => 0

/-- Does it look at a slice's head alone? -/
def MOp.hdr : MOp → Bool
  | .sl _ (.t _) .. | .slA _ _ (.t _) .. | .ia _ (.t _) _ => true
  | .len k (.t _) => k != 2
  | _ => false

/-- An operation's operands. -/
def MOp.opds : MOp → List Opd
  | .mv x | .box _ x | .nchk x | .nilq _ x | .un _ x | .cvi _ x | .b2s x | .s2b x | .fa _ x | .fld _ _ x | .ext x _ | .len _ x | .capa x | .clr _ _ x => [x]
  | .ld _ x => [x]
  | .pick c a b => [c, a, b]
  | .build _ p => p.map (·.2.2)
  | .bslice _ _ _ p => p.map (·.2)
  | .st _ x y | .bin _ x y | .eqT _ _ x y | .eqB _ x y | .mks _ _ _ x y | .ia _ x y | .iaA _ _ x y | .ixA _ _ _ x y | .ixS x y | .app _ _ _ x y | .appZ _ _ _ x y | .cpy _ x y | .min x y | .max x y | .look _ _ _ x y | .mdel _ x y => [x, y]
  | .mkf _ a b => a ++ b
  | .slS x lo hi => x :: (lo.toList ++ hi.toList)
  | .sl _ x lo hi mx | .slA _ _ x lo hi mx => x :: (lo.toList ++ hi.toList ++ mx.toList)
  | .call _ as => as
  | .callv x as => x :: as
  | .mset _ x y z => [x, y, z]
  | .new .. | .lenC _ | .mkm | .bad => []

/-- Which slots an operation looks at. -/
def MO.looks (m : MO) : List Nat := (m.op.opds.filterMap fun | .t i => some i | _ => none) ++ (match m.gd with | some (t, _) => [t] | none => [])

/-- Does it write memory, or may it? -/
def MO.isW (m : MO) : Bool := m.op.kind == 3 || (m.op.kind == 2 && !m.q)

/-- May two operations, in this order, not be turned round? -/
def conflict (a b : MO) : Bool :=
  (match a.dst with | some d => b.looks.contains d || b.dst == some d | none => false) || (match b.dst with | some d => a.looks.contains d | none => false) ||
    (a.isW && b.op.heat != 0 && !(b.op.hdr && a.op.kind == 3)) || (a.op.heat != 0 && b.isW)

/-- Which operations stand ahead of one, as bits, by the edges that always bind. -/
def ancOf (acc : List Nat) (o : Oper) : Nat := o.after.toList.foldr (fun e r => if Region.binds .any e then r ||| (2 ^ e.on ||| acc.getD e.on 0) else r) 0

def ancs : List Oper → List Nat → List Nat
  | [], acc => acc
  | o :: r, acc => ancs r (acc ++ [ancOf acc o])

/-- Every edge leads back. -/
def edgesOK : Nat → List Oper → Bool
  | _, [] => true
  | i, o :: r => (o.after.toList.all fun e => !Region.binds .any e || decide (e.on < i)) && edgesOK (i + 1) r

def ahead (bs : List Nat) (i j : Nat) : Bool := (bs.getD j 0).testBit i

def noMO : MO := ⟨none, .bad, none, false⟩

/-- All that conflict are ordered. -/
def drawOK (bs : List Nat) (ms : List MO) : Bool :=
  (List.range ms.length).all fun j => (List.range j).all fun i => !(conflict (ms.getD i noMO) (ms.getD j noMO)) || ahead bs i j

/-- Is operation i beside (neither ahead of nor behind) some other one that touches memory? -/
def beside (bs : List Nat) (ms : List MO) (i : Nat) : Bool :=
  (List.range ms.length).any fun j => j != i && (ms.getD j noMO).op.heat != 0 && !(ahead bs i j) && !(ahead bs j i)

def markQ (bs : List Nat) (ms : List MO) : List MO :=
  (List.range ms.length).map fun i => let m := ms.getD i noMO; { m with q := m.op.kind == 2 && beside bs ms i }

def compGuard (ops : List Oper) (nt : Nat) : Option (Nat × Bool) → Option (Option (Nat × Bool))
  | none => some none
  | some (j, want) => match (ops[j]?).bind (·.dst) with
    | some d => if d < nt then some (some (d, want)) else none
    | none => none

def dstOK (nt : Nat) : Option Nat → Bool
  | none => true
  | some d => decide (d < nt)

def compOps (P : Program) (nt : Nat) (all : List Oper) : List Oper → Option (List MO)
  | [] => some []
  | o :: r => match compOp P o.op, compGuard all nt o.guard, compOps P nt all r with
    | some m, some g, some ms => if dstOK nt o.dst then some (⟨o.dst, m, g, false⟩ :: ms) else none
    | _, _, _ => none

def comp (P : Program) (nt : Nat) : Code → Option MC
  | .skip => some .skip
  | .region _ ops draw => match compOps P nt ops.toList ops.toList with
    | some ms =>
      if draw then
        let bs := ancs ops.toList []
        let ms := markQ bs ms
        if edgesOK 0 ops.toList && drawOK bs ms then some (.reg true ms) else none
      else some (.reg false ms)
    | none => none
  | .seq a b => match comp P nt a, comp P nt b with
    | some x, some y => some (.seq x y)
    | _, _ => none
  | .cond c a b => match opd c, comp P nt a, comp P nt b with
    | some c, some x, some y => some (.cond c x y)
    | _, _, _ => none
  | .block id c => (comp P nt c).map (.block id)
  | .loop c => (comp P nt c).map .loop
  | .exit id => some (.exit id)
  | .scope c => (comp P nt c).map .scope
  | .label l => some (.label l)
  | .goto l => some (.goto l)
  | .ret => some .ret
  | .rangeFunc .. => some .bad
  | .refuse _ => some .bad

end Go.MW
