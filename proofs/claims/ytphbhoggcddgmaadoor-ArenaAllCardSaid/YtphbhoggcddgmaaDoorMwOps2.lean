/- Operations that touch no memory, or read it. -/
import Derived.Test.YtphbhoggcddgmaaDoorMwOps
namespace Go.MW
open Go Go.RowKit
set_option linter.unusedVariables false
set_option linter.unusedSimpArgs false

section
variable {P : Program} {G : Nat → Option (List V)} {B : Nat} {Φ : Nat → Option Pl} {Z : Nat → Prop} {H : List Blk} {w : World} {a : Act} {fr : Fr} {K : V → List Blk → Prop} {o : Oper}

theorem nchk_sound {x : Operand} {y : Opd} (hrel : Rel G B Φ Z H w) (hf : FrR Φ Z w fr a) (ho : o.op = .nilCheck x) (hx : opd x = some y) (h : nchkK (ev G fr y) (K · H)) : Reads P o a w Φ Z (K · H) := by
  have hv := ev_sound (x := x) hrel.glob hf hx
  have hex : (execOp a.eval o).run P w = (match a.eval x with
    | .pointer none | .nilIface | .nilFunc => (runtimePanic .nilDeref : Sem Next)
    | .func (.method name) first captured =>
      match (first[0]? : Option Value) with
      | some .nilIface => runtimePanic .nilDeref
      | some (.iface t w) => do
        if (← nilAhead ((← program).types.size + Made.depth) t w name) != some false then
          unsupported (.noEntry "op/nilCheck.the method's receiver behind this interface value is a nil pointer, or cannot be seen to be none, and the arguments act or may panic (ledger 612)")
        pure (.value (.func (.method name) first captured))
      | _ => pure (.value (.func (.method name) first captured))
    | x => pure (.value x)).run P w := by simp only [execOp, ho]; rfl
  generalize a.eval x = xv at hv hex
  generalize ev G fr y = yv at hv h
  unfold nchkK at h
  split at h
  · cases hv with
    | vp _ ad c h1 h2 h3 h4 => exact .here (rv := .pointer (some ad)) (by rw [hex]; try rfl) hrel h (.vp _ ad c h1 h2 h3 h4)
  · cases hv with
    | ptr _ _ _ _ p ad h1 h2 h3 => exact .here (rv := .pointer (some ad)) (by rw [hex]; try rfl) hrel h (.ptr _ _ _ _ p ad h1 h2 h3)
  · cases hv with
    | fn _ _ _ rf rc h1 h2 h3 h4 => exact .here (rv := .func _ rf rc) (by rw [hex]; try rfl) hrel h (.fn _ _ _ rf rc h1 h2 h3 h4)
  · exact h.elim

theorem bytes_toList (s : List UInt8) : (⟨s.toArray⟩ : ByteArray).toList = s := by
  rw [ByteArray.toList_eq]

theorem bin_sound {op : BinOp} {t u : TypeId} {x y : Operand} {x' y' : Opd} (hrel : Rel G B Φ Z H w) (hf : FrR Φ Z w fr a) (ho : o.op = .binOp op t x y u) (hx : opd x = some x') (hy : opd y = some y')
    (h : binK op (ev G fr x') (ev G fr y') (K · H)) : Reads P o a w Φ Z (K · H) := by
  have hv := ev_sound (x := x) hrel.glob hf hx
  have hv2 := ev_sound (x := y) hrel.glob hf hy
  have hex : (execOp a.eval o).run P w = (Sem.run P (do eqGuard op t x y (a.eval x) (a.eval y); binOp op t (a.eval x) (a.eval y)) w).andThen fun v w => .ok (.value v) w := by
    simp only [execOp, ho, Sem.run_bind]
    cases (eqGuard op t x y (a.eval x) (a.eval y)).run P w <;> rfl
  generalize a.eval x = xv at hv hex
  generalize a.eval y = yv at hv2 hex
  generalize ev G fr x' = xa at hv h
  generalize ev G fr y' = ya at hv2 h
  unfold binK at h
  split at h
  · rename_i k p k' q
    obtain rfl := hv.int_inv
    obtain rfl := hv2.int_inv
    have hg : (eqGuard op t x y (.int k p) (.int k' q)).run P w = .ok () w := by unfold eqGuard; cases op <;> rfl
    rw [Sem.run_bind, hg, Result.andThen_ok] at hex
    cases op <;> simp only at h
    case add => obtain ⟨rfl, h⟩ := h; exact .here (rv := .int k _) (by rw [hex]; simp [binOp, Op.intArith]; try rfl) hrel h (.int _ _)
    case sub => obtain ⟨rfl, h⟩ := h; exact .here (rv := .int k _) (by rw [hex]; simp [binOp, Op.intArith]; try rfl) hrel h (.int _ _)
    case mul => obtain ⟨rfl, h⟩ := h; exact .here (rv := .int k _) (by rw [hex]; simp [binOp, Op.intArith]; try rfl) hrel h (.int _ _)
    case quo => obtain ⟨rfl, h0, h⟩ := h; exact .here (rv := .int k _) (by rw [hex]; simp [binOp, Op.intDiv, h0]; try rfl) hrel h (.int _ _)
    case rem => obtain ⟨rfl, h0, h⟩ := h; exact .here (rv := .int k _) (by rw [hex]; simp [binOp, Op.intDiv, h0]; try rfl) hrel h (.int _ _)
    case and => obtain ⟨rfl, h⟩ := h; exact .here (rv := .int k _) (by rw [hex]; simp [binOp, Op.intBits, bitOp]; try rfl) hrel h (.int _ _)
    case or => obtain ⟨rfl, h⟩ := h; exact .here (rv := .int k _) (by rw [hex]; simp [binOp, Op.intBits, bitOp]; try rfl) hrel h (.int _ _)
    case xor => obtain ⟨rfl, h⟩ := h; exact .here (rv := .int k _) (by rw [hex]; simp [binOp, Op.intBits, bitOp]; try rfl) hrel h (.int _ _)
    case andNot => obtain ⟨rfl, h⟩ := h; exact .here (rv := .int k _) (by rw [hex]; simp [binOp, Op.intBits, bitOp]; try rfl) hrel h (.int _ _)
    case shl => obtain ⟨h0, h⟩ := h; exact .here (rv := .int k _) (by rw [hex]; simp [binOp, Op.shift, Int.not_lt.2 h0]; try rfl) hrel h (.int _ _)
    case shr => obtain ⟨h0, h⟩ := h; exact .here (rv := .int k _) (by rw [hex]; simp [binOp, Op.shift, Int.not_lt.2 h0]; try rfl) hrel h (.int _ _)
    case eql => obtain ⟨rfl, h⟩ := h; exact .here (rv := .bool _) (by rw [hex]; simp [binOp, Op.intCmp]; try rfl) hrel h (.bool _)
    case neq => obtain ⟨rfl, h⟩ := h; exact .here (rv := .bool _) (by rw [hex]; simp [binOp, Op.intCmp]; try rfl) hrel h (.bool _)
    case lss => obtain ⟨rfl, h⟩ := h; exact .here (rv := .bool _) (by rw [hex]; simp [binOp, Op.intCmp]; try rfl) hrel h (.bool _)
    case leq => obtain ⟨rfl, h⟩ := h; exact .here (rv := .bool _) (by rw [hex]; simp [binOp, Op.intCmp]; try rfl) hrel h (.bool _)
    case gtr => obtain ⟨rfl, h⟩ := h; exact .here (rv := .bool _) (by rw [hex]; simp [binOp, Op.intCmp]; try rfl) hrel h (.bool _)
    case geq => obtain ⟨rfl, h⟩ := h; exact .here (rv := .bool _) (by rw [hex]; simp [binOp, Op.intCmp]; try rfl) hrel h (.bool _)
  · rename_i p q
    obtain rfl := hv.str_inv
    obtain rfl := hv2.str_inv
    have hg : (eqGuard op t x y (.string ⟨p.toArray⟩) (.string ⟨q.toArray⟩)).run P w = .ok () w := by unfold eqGuard; cases op <;> rfl
    rw [Sem.run_bind, hg, Result.andThen_ok] at hex
    have hb1 := bytes_toList p
    have hb2 := bytes_toList q
    cases op <;> simp only at h
    case add =>
      obtain ⟨h0, h⟩ := h
      refine .here (rv := .string ⟨(p ++ q).toArray⟩) ?_ hrel h (.str _)
      rw [hex]
      have : ¬ (((⟨p.toArray⟩ : ByteArray).size + (⟨q.toArray⟩ : ByteArray).size : Nat) : Int) > IntKind.i64.max := by
        have e1 : (⟨p.toArray⟩ : ByteArray).size = p.length := by simp [ByteArray.size]
        have e2 : (⟨q.toArray⟩ : ByteArray).size = q.length := by simp [ByteArray.size]
        rw [e1, e2]
        have : IntKind.i64.max = 2 ^ 63 - 1 := rfl
        omega
      simp only [binOp, Op.stringOp]
      rw [if_neg this]
      have e : (⟨p.toArray⟩ : ByteArray) ++ ⟨q.toArray⟩ = ⟨(p ++ q).toArray⟩ := by
        apply ByteArray.ext
        simp
      simp [e]
    case eql => exact .here (rv := .bool _) (by rw [hex]; simp [binOp, Op.stringOp, hb1, hb2]; try rfl) hrel h (.bool _)
    case neq => exact .here (rv := .bool (p != q)) (by rw [hex]; simp only [binOp, Op.stringOp, hb1, hb2]; rfl) hrel h (.bool _)
    case lss => exact .here (rv := .bool _) (by rw [hex]; simp [binOp, Op.stringOp, hb1, hb2]; try rfl) hrel h (.bool _)
    case leq => exact .here (rv := .bool _) (by rw [hex]; simp [binOp, Op.stringOp, hb1, hb2]; try rfl) hrel h (.bool _)
    case gtr => exact .here (rv := .bool _) (by rw [hex]; simp [binOp, Op.stringOp, hb1, hb2]; try rfl) hrel h (.bool _)
    case geq => exact .here (rv := .bool _) (by rw [hex]; simp [binOp, Op.stringOp, hb1, hb2]; try rfl) hrel h (.bool _)
  · exact h.elim

theorem un_sound {op : UnOp} {t : TypeId} {x : Operand} {x' : Opd} (hrel : Rel G B Φ Z H w) (hf : FrR Φ Z w fr a) (ho : o.op = .unOp op t x) (hx : opd x = some x')
    (h : unK op (ev G fr x') (K · H)) : Reads P o a w Φ Z (K · H) := by
  have hv := ev_sound (x := x) hrel.glob hf hx
  have hex : (execOp a.eval o).run P w = ((Op.unary op (a.eval x)).run P w).andThen fun v w => .ok (.value v) w := by simp [execOp, ho]
  generalize a.eval x = xv at hv hex
  generalize ev G fr x' = xa at hv h
  unfold unK at h
  split at h
  · obtain rfl := hv.bool_inv
    exact .here (rv := .bool _) (by rw [hex]; simp [Op.unary]; try rfl) hrel h (.bool _)
  · obtain rfl := hv.int_inv
    exact .here (rv := .int _ _) (by rw [hex]; simp [Op.unary, Op.intArith]; try rfl) hrel h (.int _ _)
  · obtain rfl := hv.int_inv
    exact .here (rv := .int _ _) (by rw [hex]; simp [Op.unary, Op.intBits, bitOp]; try rfl) hrel h (.int _ _)
  · exact h.elim

theorem cvi_sound {s d : TypeId} {k ks : IntKind} {x : Operand} {x' : Opd} {n : Int} {kv : IntKind} (hrel : Rel G B Φ Z H w) (hf : FrR Φ Z w fr a) (ho : o.op = .convert s d x) (hs : P.underlying s = some (.int ks)) (hd : P.underlying d = some (.int k)) (hx : opd x = some x')
    (hn : ev G fr x' = .int kv n) (h : K (.int k (k.wrap n)) H) : Reads P o a w Φ Z (K · H) := by
  have hv := ev_sound (x := x) hrel.glob hf hx
  rw [hn] at hv
  have hi := hv.int_inv
  exact .here (rv := .int k (k.wrap n)) (by simp [execOp, ho, hi, convert, run_underlying hs, run_underlying hd, Conv.intToInt]) hrel h (.int _ _)

theorem ext_sound {x : Operand} {x' : Opd} {i : Nat} (hrel : Rel G B Φ Z H w) (hf : FrR Φ Z w fr a) (ho : o.op = .extract x i) (hx : opd x = some x') (h : extK (ev G fr x') i (K · H)) : Reads P o a w Φ Z (K · H) := by
  have hv := ev_sound (x := x) hrel.glob hf hx
  have hex : (execOp a.eval o).run P w = ((Instr.extract (a.eval x) i).run P w).andThen fun v w => .ok (.value v) w := by simp [execOp, ho]
  generalize a.eval x = xv at hv hex
  generalize ev G fr x' = xa at hv h
  unfold extK at h
  split at h
  · rename_i vs
    obtain ⟨h1, h2⟩ := h
    cases hv with
    | tup cs rs hl hc =>
      refine .here (rv := rs.getD i undef) ?_ hrel h2 (hc i h1)
      rw [hex]
      have : i < rs.size := by omega
      simp [Instr.extract, Array.getD, this]
  · exact h.elim

theorem fa_sound {s : TypeId} {fs : Array Field} {f n : Nat} {fd : Field} {x : Operand} {x' : Opd} (hrel : Rel G B Φ Z H w) (hf : FrR Φ Z w fr a) (ho : o.op = .fieldAddr s x f) (hs : P.underlying s = some (.struct fs)) (hfd : fs[f]? = some fd)
    (hn : sizeT P fd.type = some n) (hn0 : n ≠ 0) (hx : opd x = some x') (h : faK fd.offset (ev G fr x') (K · H)) : Reads P o a w Φ Z (K · H) := by
  have hv := ev_sound (x := x) hrel.glob hf hx
  have hex : ∀ ad : Addr, a.eval x = .pointer (some ad) → (execOp a.eval o).run P w = .ok (.value (.pointer (some (ad.add fd.offset)))) w := by
    intro ad had
    simp [execOp, ho, had, Instr.fieldAt, run_underlying hs, hfd, Instr.sureAddr, fieldPlace, run_sizeT hn, hn0]
  generalize a.eval x = xv at hv hex
  generalize ev G fr x' = xa at hv h
  unfold faK at h
  split at h
  · obtain ⟨h1, h2⟩ := h
    cases hv with
    | vp cs ad c hsp hz hcell hc =>
      refine .here (hex ad rfl) hrel h2 ?_
      rw [add_eq hsp]
      refine .vp _ _ (fun j => c (fd.offset + j)) rfl hz (fun j hj => ?_) (fun j hj => ?_)
      · rw [Nat.add_assoc]; exact hcell _ (by simp at hj; omega)
      · rw [getD_drop]; exact hc _ (by simp at hj; omega)
  · cases hv with
    | ptr b n i j p ad hp hle hv =>
      refine .here (hex ad rfl) hrel h ?_
      refine .ptr _ _ _ _ p _ hp hle fun e => ?_
      rw [hv e, add_eq rfl]
      simp [Nat.add_assoc]
  · exact h.elim

theorem fld_sound {s : TypeId} {fs : Array Field} {f : Nat} {agg : Option Nat} {fd : Field} {x : Operand} {x' : Opd} (hrel : Rel G B Φ Z H w) (hf : FrR Φ Z w fr a) (ho : o.op = .field s x f) (hs : P.underlying s = some (.struct fs)) (hfd : fs[f]? = some fd)
    (hn : aggT P fd.type = some agg) (hx : opd x = some x') (h : fldK agg fd.offset (ev G fr x') (K · H)) : Reads P o a w Φ Z (K · H) := by
  have hv := ev_sound (x := x) hrel.glob hf hx
  have hex : (execOp a.eval o).run P w = ((Instr.field s (a.eval x) f).run P w).andThen fun v w => .ok (.value v) w := by simp [execOp, ho]
  generalize a.eval x = xv at hv hex
  generalize ev G fr x' = xa at hv h
  unfold fldK at h
  split at h
  · rename_i cs
    cases hv with
    | agg _ rs hl hc =>
      cases agg with
      | none =>
        obtain ⟨h1, h2⟩ := h
        refine .here (rv := rs.getD fd.offset undef) ?_ hrel h2 (hc _ h1)
        have : fd.offset < rs.size := by omega
        simp [hex, Instr.field, run_underlying hs, hfd, asAgg, part, (aggT_none hn w).1, Array.getD, this]
      | some m =>
        obtain ⟨h1, h2⟩ := h
        obtain ⟨h3, h4, _⟩ := aggT_some hn w
        refine .here (rv := .agg (rs.extract fd.offset (fd.offset + m))) ?_ hrel h2 ?_
        · simp [hex, Instr.field, run_underlying hs, hfd, asAgg, part, h3, h4]
        · refine .agg _ _ (by simp; omega) fun q hq => ?_
          simp at hq
          rw [getD_take _ _ _ _ (by omega), getD_drop]
          have := hc (fd.offset + q) (by omega)
          simp only [Array.getD_eq_getD_getElem?, Array.getElem?_extract] at this ⊢
          rw [if_pos (by omega)]
          exact this
  · exact h.elim

theorem bytes_size (s : List UInt8) : (⟨s.toArray⟩ : ByteArray).size = s.length := by simp [ByteArray.size]

theorem getB_lt {H : List Blk} {b : Nat} {es : List (V × V)} (hb : b < H.length) (h : getB H b = .map es) : H[b]? = some (.map es) := by
  simp only [getB, List.getD_eq_getElem?_getD, List.getElem?_eq_getElem hb, Option.getD_some] at h
  rw [List.getElem?_eq_getElem hb, h]

theorem len_sound {t : TypeId} {k : Nat} {x : Operand} {x' : Opd} {d : TypeDesc} {c : Call} (hrel : Rel G B Φ Z H w) (hf : FrR Φ Z w fr a) (ho : o.op = .call c) (hc : c.callee = .builtin .len) (hat : c.argTypes = #[t]) (hargs : c.args = #[x])
    (ht : P.underlying t = some d) (hd : (k = 0 ∧ d = .string) ∨ (k = 1 ∧ ∃ e, d = .slice e) ∨ (k = 2 ∧ ∃ p q, d = .map p q)) (hx : opd x = some x') (h : lenK k H (ev G fr x') (K · H)) : Reads P o a w Φ Z (K · H) := by
  have hv := ev_sound (x := x) hrel.glob hf hx
  have hex : (execOp a.eval o).run P w = ((Builtin.len_ #[t] o.type #[a.eval x]).run P w).andThen fun v w => .ok (.value v) w := by
    simp [execOp, ho, resolve, hc, hat, hargs, invoke, builtin]
  generalize a.eval x = xv at hv hex
  generalize ev G fr x' = xa at hv h
  unfold lenK at h
  split at h
  · obtain rfl := hv.str_inv
    rcases hd with ⟨_, rfl⟩ | ⟨hk, _⟩ | ⟨hk, _⟩
    · exact .here (rv := goInt _) (by rw [hex]; simp [Builtin.len_, run_underlying ht]; try rfl) hrel h (by rw [bytes_size]; exact .int _ _)
    · cases hk
    · cases hk
  · rcases hd with ⟨hk, _⟩ | ⟨_, e, rfl⟩ | ⟨hk, _⟩
    · cases hk
    · cases hv with
      | vs xs ad sz cap => exact .here (rv := goInt _) (by rw [hex]; simp [Builtin.len_, run_underlying ht]; try rfl) hrel h (.int _ _)
      | vs0 b cap => exact .here (rv := goInt _) (by rw [hex]; simp [Builtin.len_, run_underlying ht]; try rfl) hrel h (.int _ _)
    · cases hk
  · rcases hd with ⟨hk, _⟩ | ⟨_, e, rfl⟩ | ⟨hk, _⟩
    · cases hk
    · cases hv with
      | nils => exact .here (rv := goInt _) (by rw [hex]; simp [Builtin.len_, run_underlying ht]; try rfl) hrel h (.int _ _)
    · cases hk
  · rcases hd with ⟨hk, _⟩ | ⟨_, e, rfl⟩ | ⟨hk, _⟩
    · cases hk
    · cases hv with
      | hs => exact .here (rv := goInt _) (by rw [hex]; simp [Builtin.len_, run_underlying ht]; try rfl) hrel h (.int _ _)
    · cases hk
  · rcases hd with ⟨hk, _⟩ | ⟨hk, _⟩ | ⟨_, e, e', rfl⟩
    · cases hk
    · cases hk
    · obtain ⟨h0, h⟩ := h
      split at h
      · rename_i es hes
        cases hv with
        | map b p r hp hr =>
          have ok := hrel.mapb hp hes
          obtain ⟨re, clock, hw, hl, _⟩ := ok.row
          obtain rfl := hr ok.len
          refine .here (rv := goInt re.size) ?_ hrel h (by rw [hl]; exact .int _ _)
          rw [hex]
          simp [Builtin.len_, run_underlying ht, getObj, Sem.run, hw]
      · exact h.elim
  · exact h.elim

theorem ia_sound {t e : TypeId} {sz : Nat} {x i : Operand} {x' i' : Opd} (hrel : Rel G B Φ Z H w) (hf : FrR Φ Z w fr a) (ho : o.op = .indexAddr t x i) (ht : P.underlying t = some (.slice e)) (hs : sizeT P e = some sz)
    (hx : opd x = some x') (hi : opd i = some i') (h : iaK H sz (ev G fr x') (ev G fr i') (K · H)) : Reads P o a w Φ Z (K · H) := by
  have hv := ev_sound (x := x) hrel.glob hf hx
  have hv2 := ev_sound (x := i) hrel.glob hf hi
  have hex : ∀ (ad : Addr) (len cap : Nat) (k : IntKind) (n : Int), a.eval x = .slice (some ad) len cap → a.eval i = .int k n → 0 ≤ n → n < len → (execOp a.eval o).run P w = .ok (.value (.pointer (some (ad.add (n.toNat * sz))))) w := by
    intro ad len cap k n h1 h2 h3 h4
    simp [execOp, ho, h1, h2, Instr.indexAt, asIntOf, run_underlying ht, h3, h4, run_sizeT hs]
  generalize a.eval x = xv at hv hex
  generalize a.eval i = iv at hv2 hex
  generalize ev G fr x' = xa at hv h
  generalize ev G fr i' = ia at hv2 h
  unfold iaK at h
  split at h
  · rename_i xs k n
    obtain ⟨h1, h2, h3, h4⟩ := h
    obtain rfl := hv2.int_inv
    cases hv with
    | vs _ ad sz' cap c hsp hz hcap hsz hcell hc =>
      refine .here (hex ad _ _ _ n rfl rfl h1 (by omega)) hrel h4 ?_
      have hse : sz' = sz := by rw [← hsz n.toNat h2, h3]
      subst hse
      rw [add_eq hsp]
      refine .vp _ _ (c n.toNat) rfl hz (fun j hj => ?_) (fun j hj => ?_)
      · rw [Nat.add_assoc]; exact hcell _ _ h2 (by omega)
      · exact hc _ _ h2 (by omega)
    | vs0 => simp at h2
  · rename_i b m i0 j len cap sz' k n
    obtain ⟨rfl, h1, h2, h3⟩ := h
    obtain rfl := hv2.int_inv
    split at h3
    · rename_i rsz xs opn frz hH
      obtain ⟨h4, h3⟩ := h3
      obtain ⟨p, rcap, hp, ok, hsl, h5, h6⟩ := hs_inv hrel hv hH h4
      subst hsl
      refine .here (hex _ _ _ _ n rfl rfl h1 (by omega)) hrel h3 ?_
      split
      · rename_i hrs
        refine .ptr _ _ _ _ p _ hp (by rw [ok.len, h4]; exact Nat.le_refl _) fun e => ?_
        rw [add_eq rfl, ok.size, hrs, Nat.add_mul]
        simp only [Addr.mk.injEq, true_and, and_true]
        omega
      · refine .ptr _ _ _ _ p _ hp (by rw [ok.len, h4]; exact Nat.le_refl _) fun e => ?_
        rw [add_eq rfl, ok.size]
        simp only [Addr.mk.injEq, true_and, and_true]
        omega
    · exact h3.elim
  · exact h.elim

end
end Go.MW
