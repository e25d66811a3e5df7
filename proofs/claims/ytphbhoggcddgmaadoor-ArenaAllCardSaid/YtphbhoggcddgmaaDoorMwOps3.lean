/- Indices, slices, what is built. -/
import Derived.Test.YtphbhoggcddgmaaDoorMwOps2
namespace Go.MW
open Go Go.RowKit
set_option linter.unusedVariables false
set_option linter.unusedSimpArgs false

section
variable {P : Program} {G : Nat → Option (List V)} {B : Nat} {Φ : Nat → Option Pl} {Z : Nat → Prop} {H : List Blk} {w : World} {a : Act} {fr : Fr} {K : V → List Blk → Prop} {o : Oper}

theorem iaA_sound {t e : TypeId} {n sz : Nat} {x i : Operand} {x' i' : Opd} (hrel : Rel G B Φ Z H w) (hf : FrR Φ Z w fr a) (ho : o.op = .indexAddr t x i) (ht : P.underlying t = some (.array n e)) (hs : sizeT P e = some sz)
    (hx : opd x = some x') (hi : opd i = some i') (h : iaAK n sz (ev G fr x') (ev G fr i') (K · H)) : Reads P o a w Φ Z (K · H) := by
  have hv := ev_sound (x := x) hrel.glob hf hx
  have hv2 := ev_sound (x := i) hrel.glob hf hi
  have hex : ∀ (ad : Addr) (k : IntKind) (q : Int), a.eval x = .pointer (some ad) → a.eval i = .int k q → 0 ≤ q → q < n → (execOp a.eval o).run P w = .ok (.value (.pointer (some (ad.add (q.toNat * sz))))) w := by
    intro ad k q h1 h2 h3 h4
    simp [execOp, ho, h1, h2, Instr.indexAt, asIntOf, run_underlying ht, Instr.sureAddr, h3, h4, run_sizeT hs]
  generalize a.eval x = xv at hv hex
  generalize a.eval i = iv at hv2 hex
  generalize ev G fr x' = xa at hv h
  generalize ev G fr i' = ia at hv2 h
  unfold iaAK at h
  split at h
  · rename_i b m e' j k q
    obtain ⟨h1, h2, h3⟩ := h
    obtain rfl := hv2.int_inv
    cases hv with
    | ptr _ _ _ _ p ad hp hle hv =>
      refine .here (hex ad _ q rfl rfl h1 (by omega)) hrel h3 (.ptr _ _ _ _ p _ hp hle fun e => ?_)
      rw [hv e, add_eq rfl]
      simp [Nat.add_assoc]
  · rename_i cs k q
    obtain ⟨h1, h2, h3, h4⟩ := h
    obtain rfl := hv2.int_inv
    cases hv with
    | vp _ ad c hsp hz hcell hc =>
      refine .here (hex ad _ q rfl rfl h1 (by omega)) hrel h4 ?_
      rw [add_eq hsp]
      refine .vp _ _ (fun j => c (q.toNat * sz + j)) rfl hz (fun j hj => ?_) (fun j hj => ?_)
      · rw [Nat.add_assoc]; exact hcell _ (by simp at hj; omega)
      · rw [getD_drop]; exact hc _ (by simp at hj; omega)
  · exact h.elim

theorem mul_lt_of {q n sz : Nat} (h : q < n) : q * sz + sz ≤ n * sz := by
  have := Nat.mul_le_mul_right sz (show q + 1 ≤ n from h)
  rwa [Nat.add_mul, Nat.one_mul] at this

theorem ixA_sound {t e : TypeId} {n sz : Nat} {agg : Bool} {x i : Operand} {x' i' : Opd} (hrel : Rel G B Φ Z H w) (hf : FrR Φ Z w fr a) (ho : o.op = .index t x i) (ht : P.underlying t = some (.array n e))
    (hs : (agg = true ∧ aggT P e = some (some sz) ∧ sz ≠ 0) ∨ (agg = false ∧ sz = 1 ∧ aggT P e = some none))
    (hx : opd x = some x') (hi : opd i = some i') (h : ixAK n sz agg (ev G fr x') (ev G fr i') (K · H)) : Reads P o a w Φ Z (K · H) := by
  have hv := ev_sound (x := x) hrel.glob hf hx
  have hv2 := ev_sound (x := i) hrel.glob hf hi
  have hex : (execOp a.eval o).run P w = ((Instr.index t (a.eval x) (a.eval i)).run P w).andThen fun v w => .ok (.value v) w := by simp [execOp, ho]
  generalize a.eval x = xv at hv hex
  generalize a.eval i = iv at hv2 hex
  generalize ev G fr x' = xa at hv h
  generalize ev G fr i' = ia at hv2 h
  unfold ixAK at h
  split at h
  · rename_i cs k q
    obtain ⟨h1, h2, h3, h4⟩ := h
    obtain rfl := hv2.int_inv
    have hq : q < (n : Int) := by omega
    cases hv with
    | agg _ rs hl hc =>
      rcases hs with ⟨rfl, hs, h0⟩ | ⟨rfl, rfl, hs⟩
      · obtain ⟨h5, h6, h7⟩ := aggT_some hs w
        have hm := mul_lt_of (sz := sz) h2
        refine .here (rv := .agg (rs.extract (q.toNat * sz) (q.toNat * sz + sz))) ?_ hrel h4 ?_
        · simp [hex, Instr.index, asIntOf, run_underlying ht, h1, hq, h6, part, h5]
        · refine .agg _ _ (by simp; omega) fun y hy => ?_
          simp at hy
          rw [getD_take _ _ _ _ (by omega), getD_drop]
          have := hc (q.toNat * sz + y) (by omega)
          simp only [Array.getD_eq_getD_getElem?, Array.getElem?_extract] at this ⊢
          rw [if_pos (by omega)]
          exact this
      · obtain ⟨h5, h6⟩ := aggT_none hs w
        have hlt : q.toNat < rs.size := by omega
        refine .here (rv := rs.getD (q.toNat * 1) undef) ?_ hrel h4 (hc _ (by omega))
        simp [hex, Instr.index, asIntOf, run_underlying ht, h1, hq, run_sizeT h6, part, h5, Array.getD, hlt]
  · exact h.elim

theorem bytes_get (s : List UInt8) (i : Nat) : (⟨s.toArray⟩ : ByteArray)[i]? = s[i]? := by
  by_cases h : i < s.length
  · have h2 : i < (⟨s.toArray⟩ : ByteArray).size := by rw [bytes_size]; exact h
    rw [getElem?_pos (⟨s.toArray⟩ : ByteArray) i h2, getElem?_pos s i h]
    rfl
  · have h2 : ¬ i < (⟨s.toArray⟩ : ByteArray).size := by rw [bytes_size]; exact h
    rw [getElem?_neg (⟨s.toArray⟩ : ByteArray) i h2, getElem?_neg s i h]

theorem ixS_sound {t : TypeId} {x i : Operand} {x' i' : Opd} (hrel : Rel G B Φ Z H w) (hf : FrR Φ Z w fr a) (ho : o.op = .index t x i) (ht : P.underlying t = some .string)
    (hx : opd x = some x') (hi : opd i = some i') (h : ixSK (ev G fr x') (ev G fr i') (K · H)) : Reads P o a w Φ Z (K · H) := by
  have hv := ev_sound (x := x) hrel.glob hf hx
  have hv2 := ev_sound (x := i) hrel.glob hf hi
  have hex : (execOp a.eval o).run P w = ((Instr.index t (a.eval x) (a.eval i)).run P w).andThen fun v w => .ok (.value v) w := by simp [execOp, ho]
  generalize a.eval x = xv at hv hex
  generalize a.eval i = iv at hv2 hex
  generalize ev G fr x' = xa at hv h
  generalize ev G fr i' = ia at hv2 h
  unfold ixSK at h
  split at h
  · rename_i s k n
    obtain ⟨h1, h2, h3⟩ := h
    obtain rfl := hv2.int_inv
    obtain rfl := hv.str_inv
    have hb : (⟨s.toArray⟩ : ByteArray)[n.toNat]? = some (s.getD n.toNat 0) := by
      rw [bytes_get, List.getElem?_eq_getElem h2, List.getD_eq_getElem?_getD, List.getElem?_eq_getElem h2]; rfl
    refine .here (rv := .int .u8 (s.getD n.toNat 0).toNat) ?_ hrel h3 (.int _ _)
    simp only [hex, Instr.index, asIntOf, run_underlying ht, Sem.run_bind, Sem.run_pure, Result.andThen_ok, h1, if_true, hb]
  · exact h.elim

/-- A bound of a slice expression, and its value. -/
def OptR (Φ : Nat → Option Pl) (Z : Nat → Prop) (w : World) (x : Option V) (r : Option Value) : Prop := (x = none ∧ r = none) ∨ ∃ y s, x = some y ∧ r = some s ∧ VR Φ Z w y s

theorem optR {x : Option Operand} {y : Option Opd} (hg : GlobOK G Z w) (hf : FrR Φ Z w fr a) (h : opdO x = some y) : OptR Φ Z w (y.map (ev G fr)) (x.map a.eval) := by
  rcases opdO_some h with ⟨rfl, rfl⟩ | ⟨x', y', rfl, rfl, h2⟩
  · exact .inl ⟨rfl, rfl⟩
  · exact .inr ⟨_, _, rfl, rfl, ev_sound hg hf h2⟩

theorem bnd_inv {d : Nat} {x : Option V} {r : Option Value} {C : Nat → Prop} (h : bnd d x C) (hr : OptR Φ Z w x r) : ∃ n, C n ∧ ((r = none ∧ n = d) ∨ ∃ k, r = some (.int k (n : Int))) := by
  rcases hr with ⟨rfl, rfl⟩ | ⟨y, s, rfl, rfl, hv⟩
  · exact ⟨d, h, .inl ⟨rfl, rfl⟩⟩
  · unfold bnd at h
    split at h
    · rename_i he; cases he
    · rename_i k n he
      obtain rfl := Option.some.inj he
      obtain ⟨h1, h2⟩ := h
      refine ⟨n.toNat, h2, .inr ⟨k, ?_⟩⟩
      rw [hv.int_inv, Int.toNat_of_nonneg h1]
    · exact h.elim

theorem run_sliceBound {k : IntKind} {n y : Nat} {code : BoundsCode} (h : n ≤ y) (w : World) : (Instr.sliceBound (.int k (n : Int)) y code).run P w = .ok n w := by
  have : (n : Int) ≤ (y : Int) := by omega
  simp [Instr.sliceBound, asIntOf, this]

theorem run_sliceBounds {isS : Bool} {len cap l h m : Nat} {lo hi mx : Option Value} (hm : (mx = none ∧ m = cap) ∨ (m ≤ cap ∧ (∃ k, mx = some (.int k (m : Int))) ∧ hi ≠ none))
    (hh : (hi = none ∧ h = len) ∨ (h ≤ m ∧ ∃ k, hi = some (.int k (h : Int)))) (hl : (lo = none ∧ l = 0) ∨ (l ≤ h ∧ ∃ k, lo = some (.int k (l : Int)))) (w : World) :
    (Instr.sliceBounds isS len cap lo hi mx).run P w = .ok (l, h, m) w := by
  rcases hm with ⟨rfl, rfl⟩ | ⟨hm, ⟨k, rfl⟩, hne⟩
  · rcases hh with ⟨rfl, rfl⟩ | ⟨hh, k2, rfl⟩ <;> rcases hl with ⟨rfl, rfl⟩ | ⟨hl, k3, rfl⟩ <;>
      simp [Instr.sliceBounds, run_sliceBound, *]
  · rcases hh with ⟨rfl, rfl⟩ | ⟨hh, k2, rfl⟩
    · exact absurd rfl hne
    · rcases hl with ⟨rfl, rfl⟩ | ⟨hl, k3, rfl⟩ <;> simp [Instr.sliceBounds, run_sliceBound, *]

theorem bytes_extract (s : List UInt8) (l h : Nat) : (⟨s.toArray⟩ : ByteArray).extract l h = ⟨((s.drop l).take (h - l)).toArray⟩ := by
  apply ByteArray.ext
  simp

theorem slS_sound {t : TypeId} {x : Operand} {lo hi : Option Operand} {x' : Opd} {lo' hi' : Option Opd} (hrel : Rel G B Φ Z H w) (hf : FrR Φ Z w fr a) (ho : o.op = .slice t x lo hi none) (ht : P.underlying t = some .string)
    (hx : opd x = some x') (hl : opdO lo = some lo') (hh : opdO hi = some hi') (h : slSK (ev G fr x') (lo'.map (ev G fr)) (hi'.map (ev G fr)) (K · H)) : Reads P o a w Φ Z (K · H) := by
  have hv := ev_sound (x := x) hrel.glob hf hx
  have hv2 := optR hrel.glob hf hl
  have hv3 := optR hrel.glob hf hh
  have hex : (execOp a.eval o).run P w = ((Instr.sliceAt t (a.eval x) (lo.map a.eval) (hi.map a.eval) none).run P w).andThen fun v w => .ok (.value v) w := by simp [execOp, ho]
  generalize a.eval x = xv at hv hex
  generalize lo.map a.eval = lov at hv2 hex
  generalize hi.map a.eval = hiv at hv3 hex
  generalize ev G fr x' = xa at hv h
  generalize lo'.map (ev G fr) = loa at hv2 h
  generalize hi'.map (ev G fr) = hia at hv3 h
  unfold slSK at h
  split at h
  · rename_i s
    obtain rfl := hv.str_inv
    obtain ⟨hn, ⟨h1, h2⟩, hr⟩ := bnd_inv h hv3
    obtain ⟨ln, ⟨h3, h4⟩, hr2⟩ := bnd_inv h2 hv2
    have hb : (Instr.sliceBounds false (⟨s.toArray⟩ : ByteArray).size (⟨s.toArray⟩ : ByteArray).size lov hiv none).run P w = .ok (ln, hn, s.length) w := by
      rw [bytes_size]
      refine run_sliceBounds (.inl ⟨rfl, rfl⟩) ?_ ?_ w
      · rcases hr with hr | ⟨k, hr⟩
        · exact .inl hr
        · exact .inr ⟨h1, k, hr⟩
      · rcases hr2 with hr | ⟨k, hr⟩
        · exact .inl hr
        · exact .inr ⟨h3, k, hr⟩
    refine .here (rv := .string ⟨((s.drop ln).take (hn - ln)).toArray⟩) ?_ hrel h4 (.str _)
    rw [hex]
    simp [Instr.sliceAt, run_underlying ht, Instr.slice, hb, bytes_extract]
  · exact h.elim

/-- A part of a slice that nothing writes. -/
theorem VR.sub {xs : List V} {base : Option Addr} {len cap l h m sz : Nat} (hv : VR Φ Z w (.vs xs) (.slice base len cap)) (hl : l ≤ h) (hh : h ≤ xs.length) (hm : h ≤ m) (hmc : m ≤ cap)
    (hsz : ∀ i, i < xs.length → (xs.getD i .junk).cells.length = sz) :
    VR Φ Z w (.vs ((xs.drop l).take (h - l))) (.slice (if m = l then base else base.map (·.add (l * sz))) (h - l) (m - l)) := by
  by_cases he : h = l
  · subst he
    rw [Nat.sub_self, List.take_zero]
    have hb : ∃ ad, base = some ad := by cases hv <;> exact ⟨_, rfl⟩
    obtain ⟨ad, rfl⟩ := hb
    split
    · exact .vs0 _ _
    · exact .vs0 _ _
  · cases hv with
    | vs0 => simp at hh; omega
    | vs _ ad sz' _ c hsp hz hcap hsz' hcell hc =>
      rw [if_neg (by omega)]
      have hse : sz = sz' := by rw [← hsz l (by omega), hsz' l (by omega)]
      subst hse
      have hlen : ((xs.drop l).take (h - l)).length = h - l := by simp; omega
      have hg : ∀ i, i < h - l → ((xs.drop l).take (h - l)).getD i .junk = xs.getD (l + i) .junk := fun i hi => by rw [getD_take _ _ _ _ hi, getD_drop]
      have := VR.vs (Φ := Φ) (Z := Z) (w := w) ((xs.drop l).take (h - l)) (ad.add (l * sz)) sz (m - l) (fun i j => c (l + i) j) (by rw [add_eq hsp]) (by rw [add_eq hsp]; exact hz) (by omega)
        (fun i hi => by rw [hlen] at hi; rw [hg i hi]; exact hsz' _ (by omega))
        (fun i j hi hj => by
          rw [hlen] at hi
          have := hcell (l + i) j (by omega) hj
          rw [add_eq hsp]
          simp only
          rw [show ad.off + l * sz + (i * sz + j) = ad.off + ((l + i) * sz + j) by rw [Nat.add_mul]; omega]
          exact this)
        (fun i j hi hj => by rw [hlen] at hi; rw [hg i hi]; exact hc _ _ (by omega) hj)
      rw [hlen] at this
      exact this

/-- A part of a slice into a row. -/
theorem slH_sound {b n i j len sz l h m rcap : Nat} {cap : Option Nat} {base : Option Addr} {C : V → Prop} (hrel : Rel G B Φ Z H w) (hv : VR Φ Z w (.hs b n i j len cap sz) (.slice base len rcap)) (hl : l ≤ h) (hh : h ≤ m)
    {capm : Option Nat} (hm : (capm = some m ∧ m ≤ rcap) ∨ (capm = none ∧ cap = none ∧ m = rcap)) (hlen : h ≤ len ∨ capm = some m) (hk : slHK H b n i j capm sz l h C) :
    ∃ v, C v ∧ VR Φ Z w v (.slice (if m = l then base else base.map (·.add (l * sz))) (h - l) (m - l)) := by
  unfold slHK at hk
  split at hk
  · rename_i rsz xs opn frz hH
    obtain ⟨hn, hk⟩ := hk
    obtain ⟨p, rc, hp, ok, hsl, h5, h6⟩ := hs_inv hrel hv hH hn
    obtain ⟨rfl, _, rfl⟩ := Value.slice.inj hsl
    have hpn : p.n = n := by rw [ok.len, hn]
    have hcap : ∀ i' j', i' * p.sz + j' = i * p.sz + j + l * sz → capOK p i' j' sz (m - l) (capm.map (· - l)) := by
      intro i' j' e
      rcases hm with ⟨rfl, hm⟩ | ⟨rfl, rfl, rfl⟩
      · simp [capOK]
      · simp only [capOK, Option.map_none] at h6 ⊢
        rw [Nat.sub_mul, e]
        have := Nat.mul_le_mul_right sz (show l ≤ m by omega)
        omega
    split at hk
    · rename_i h0
      subst h0
      refine ⟨_, hk, ?_⟩
      have hb : (if m = 0 then (some ⟨p.rb, i * rsz + j, none⟩ : Option Addr) else (some (⟨p.rb, i * rsz + j, none⟩ : Addr)).map (·.add (0 * sz))) = some ⟨p.rb, i * rsz + j, none⟩ := by
        split
        · rfl
        · simp [Addr.add]
      rw [hb, Nat.sub_zero, Nat.sub_zero]
      have := hcap i j (by omega)
      simp only [Nat.sub_zero] at this
      refine .hs _ _ _ _ _ _ _ p _ _ hp (by omega) fun _ => ⟨by rw [ok.size], hh, ?_⟩
      cases capm <;> simpa using this
    · rename_i h0
      split at hk
      · rename_i h7
        refine ⟨_, hk, ?_⟩
        rw [show h - l = 0 by omega]
        split
        · exact .vs0 _ _
        · exact .vs0 _ _
      · rename_i h7
        have hml : m ≠ l := by
          rintro rfl
          apply h7
          refine ⟨by omega, ?_⟩
          rcases hm with ⟨rfl, _⟩ | ⟨rfl, _⟩
          · exact .inl rfl
          · exact .inr rfl
        rw [if_neg hml]
        refine ⟨_, hk, ?_⟩
        simp only [Option.map_some, add_eq]
        split
        · rename_i hrs
          refine .hs _ _ _ _ _ _ _ p _ _ hp (by omega) fun _ => ⟨?_, by omega, hcap _ _ (by rw [ok.size, hrs, Nat.add_mul]; omega)⟩
          rw [ok.size, hrs, Nat.add_mul]
          simp only [Option.some.injEq, Addr.mk.injEq, true_and, and_true]
          omega
        · refine .hs _ _ _ _ _ _ _ p _ _ hp (by omega) fun _ => ⟨?_, by omega, hcap _ _ (by rw [ok.size]; omega)⟩
          rw [ok.size]
          simp only [Option.some.injEq, Addr.mk.injEq, true_and, and_true]
          omega
  · exact hk.elim

theorem optR_ne {x : Option V} {r : Option Value} (h : OptR Φ Z w x r) (hs : x.isSome = true) : r ≠ none := by
  rcases h with ⟨rfl, rfl⟩ | ⟨y, s, rfl, rfl, _⟩
  · simp at hs
  · simp

theorem bound_of {d n : Nat} {r : Option Value} {m : Nat} (h : (r = none ∧ n = d) ∨ ∃ k, r = some (.int k (n : Int))) (hm : n ≤ m) : (r = none ∧ n = d) ∨ (n ≤ m ∧ ∃ k, r = some (.int k (n : Int))) := by
  rcases h with h | h
  · exact .inl h
  · exact .inr ⟨hm, h⟩

theorem sl_sound {t e : TypeId} {sz : Nat} {x : Operand} {lo hi mx : Option Operand} {x' : Opd} {lo' hi' mx' : Option Opd} (hrel : Rel G B Φ Z H w) (hf : FrR Φ Z w fr a) (ho : o.op = .slice t x lo hi mx) (ht : P.underlying t = some (.slice e)) (hs : sizeT P e = some sz)
    (hx : opd x = some x') (hl : opdO lo = some lo') (hh : opdO hi = some hi') (hm : opdO mx = some mx') (h : slK H sz (ev G fr x') (lo'.map (ev G fr)) (hi'.map (ev G fr)) (mx'.map (ev G fr)) (K · H)) : Reads P o a w Φ Z (K · H) := by
  have hv := ev_sound (x := x) hrel.glob hf hx
  have hv2 := optR hrel.glob hf hl
  have hv3 := optR hrel.glob hf hh
  have hv4 := optR hrel.glob hf hm
  have hex : ∀ (base : Option Addr) (len cap l h m : Nat), a.eval x = .slice base len cap → (Instr.sliceBounds true len cap (lo.map a.eval) (hi.map a.eval) (mx.map a.eval)).run P w = .ok (l, h, m) w →
      (execOp a.eval o).run P w = .ok (.value (.slice (if m = l then base else base.map (·.add (l * sz))) (h - l) (m - l))) w := by
    intro base len cap l h m h1 h2
    simp [execOp, ho, h1, Instr.sliceAt, run_underlying ht, Instr.slice, h2, run_sizeT hs]
  generalize a.eval x = xv at hv hex
  generalize lo.map a.eval = lov at hv2 hex
  generalize hi.map a.eval = hiv at hv3 hex
  generalize mx.map a.eval = mxv at hv4 hex
  generalize ev G fr x' = xa at hv h
  generalize lo'.map (ev G fr) = loa at hv2 h
  generalize hi'.map (ev G fr) = hia at hv3 h
  generalize mx'.map (ev G fr) = mxa at hv4 h
  obtain ⟨hms, h⟩ := h
  have hne : mxv ≠ none → hiv ≠ none := by
    intro hq
    rcases hv4 with ⟨rfl, rfl⟩ | ⟨y, s, rfl, rfl, _⟩
    · exact absurd rfl hq
    · exact optR_ne hv3 (hms rfl)
  split at h
  · rename_i xs
    obtain ⟨hsz, h⟩ := h
    obtain ⟨m, ⟨hm1, h⟩, hmr⟩ := bnd_inv h hv4
    obtain ⟨hn, ⟨hh1, h⟩, hhr⟩ := bnd_inv h hv3
    obtain ⟨ln, ⟨hl1, h⟩, hlr⟩ := bnd_inv h hv2
    obtain ⟨base, cap, hxv, hcap⟩ : ∃ base cap, xv = .slice base xs.length cap ∧ xs.length ≤ cap := by
      cases hv with
      | vs _ ad sz' cap c hsp hz hcap => exact ⟨_, _, rfl, hcap⟩
      | vs0 b c => exact ⟨_, _, rfl, Nat.zero_le _⟩
    subst hxv
    have hb : ∃ mm, (Instr.sliceBounds true xs.length cap lov hiv mxv).run P w = .ok (ln, hn, mm) w ∧ hn ≤ mm ∧ mm ≤ cap ∧ (mxv = none ∨ mm = m) := by
      rcases hmr with ⟨rfl, rfl⟩ | ⟨k, rfl⟩
      · exact ⟨cap, run_sliceBounds (.inl ⟨rfl, rfl⟩) (bound_of hhr (by omega)) (bound_of hlr hl1) w, by omega, Nat.le_refl _, .inl rfl⟩
      · exact ⟨m, run_sliceBounds (.inr ⟨by omega, ⟨k, rfl⟩, hne (by simp)⟩) (bound_of hhr hh1) (bound_of hlr hl1) w, hh1, by omega, .inr rfl⟩
    obtain ⟨mm, hb, h5, h6, h7⟩ := hb
    refine .here (hex _ _ _ _ _ _ rfl hb) hrel h (hv.sub hl1 (by omega) h5 h6 fun i hi => hsz _ ?_)
    rw [List.getD_eq_getElem?_getD, List.getElem?_eq_getElem hi]
    exact List.getElem_mem _
  · obtain ⟨m, ⟨rfl, h⟩, hmr⟩ := bnd_inv h hv4
    obtain ⟨hn, ⟨rfl, h⟩, hhr⟩ := bnd_inv h hv3
    obtain ⟨ln, ⟨rfl, h⟩, hlr⟩ := bnd_inv h hv2
    cases hv with
    | nils =>
      have hb : (Instr.sliceBounds true 0 0 lov hiv mxv).run P w = .ok (0, 0, 0) w := by
        rcases hmr with ⟨rfl, _⟩ | ⟨k, rfl⟩
        · exact run_sliceBounds (.inl ⟨rfl, rfl⟩) (bound_of hhr (Nat.le_refl _)) (bound_of hlr (Nat.le_refl _)) w
        · exact run_sliceBounds (.inr ⟨Nat.le_refl _, ⟨k, rfl⟩, hne (by simp)⟩) (bound_of hhr (Nat.le_refl _)) (bound_of hlr (Nat.le_refl _)) w
      exact .here (hex _ _ _ _ _ _ rfl hb) hrel h .nils
  · rename_i b n i j len cap sz'
    obtain ⟨rfl, h⟩ := h
    obtain ⟨base, rcap, hxv⟩ : ∃ base cap, xv = .slice base len cap := by cases hv; exact ⟨_, _, rfl⟩
    subst hxv
    have hk : ∃ (ln hn m : Nat) (capm : Option Nat), ((lov = none ∧ ln = 0) ∨ ∃ k, lov = some (.int k (ln : Int))) ∧ ((hiv = none ∧ hn = len) ∨ ∃ k, hiv = some (.int k (hn : Int))) ∧ ln ≤ hn ∧
        slHK H b n i j capm sz' ln hn (K · H) ∧
        ((mxv = none ∧ cap = none ∧ capm = none ∧ hn ≤ len) ∨ (mxv = none ∧ cap = some m ∧ capm = some m ∧ hn ≤ m) ∨ ((∃ k, mxv = some (.int k (m : Int))) ∧ capm = some m ∧ hn ≤ m ∧ ((∃ c, cap = some c ∧ m ≤ c) ∨ m ≤ len))) := by
      split at h
      · obtain ⟨hn, ⟨hh1, h⟩, hhr⟩ := bnd_inv h hv3
        obtain ⟨ln, ⟨hl1, h⟩, hlr⟩ := bnd_inv h hv2
        rcases hv4 with ⟨_, rfl⟩ | ⟨y, s, he, _, _⟩
        · exact ⟨ln, hn, _, _, hlr, hhr, hl1, h, .inr (.inl ⟨rfl, rfl, rfl, hh1⟩)⟩
        · cases he
      · obtain ⟨hn, ⟨hh1, h⟩, hhr⟩ := bnd_inv h hv3
        obtain ⟨ln, ⟨hl1, h⟩, hlr⟩ := bnd_inv h hv2
        rcases hv4 with ⟨_, rfl⟩ | ⟨y, s, he, _, _⟩
        · exact ⟨ln, hn, 0, _, hlr, hhr, hl1, h, .inl ⟨rfl, rfl, rfl, hh1⟩⟩
        · cases he
      · obtain ⟨m, ⟨hm1, h⟩, hmr⟩ := bnd_inv h hv4
        obtain ⟨hn, ⟨hh1, h⟩, hhr⟩ := bnd_inv h hv3
        obtain ⟨ln, ⟨hl1, h⟩, hlr⟩ := bnd_inv h hv2
        refine ⟨ln, hn, m, _, hlr, hhr, hl1, h, .inr (.inr ⟨?_, rfl, hh1, .inl ⟨_, rfl, hm1⟩⟩)⟩
        rcases hmr with ⟨rfl, _⟩ | hmr
        · rcases hv4 with ⟨he, _⟩ | ⟨y, s, _, he, _⟩ <;> cases he
        · exact hmr
      · obtain ⟨m, ⟨hm1, h⟩, hmr⟩ := bnd_inv h hv4
        obtain ⟨hn, ⟨hh1, h⟩, hhr⟩ := bnd_inv h hv3
        obtain ⟨ln, ⟨hl1, h⟩, hlr⟩ := bnd_inv h hv2
        refine ⟨ln, hn, m, _, hlr, hhr, hl1, h, .inr (.inr ⟨?_, rfl, hh1, .inr hm1⟩)⟩
        rcases hmr with ⟨rfl, _⟩ | hmr
        · rcases hv4 with ⟨he, _⟩ | ⟨y, s, _, he, _⟩ <;> cases he
        · exact hmr
    obtain ⟨ln, hn, m, capm, hlr, hhr, hl1, hk, hcases⟩ := hk
    have hrow : ∃ rsz xs opn frz, getB H b = .row rsz xs opn frz ∧ xs.length = n := by
      unfold slHK at hk
      split at hk
      · rename_i hH; exact ⟨_, _, _, _, hH, hk.1⟩
      · exact hk.elim
    obtain ⟨rsz, xs, opn, frz, hH, hxn⟩ := hrow
    obtain ⟨p, rc, hp, ok, hsl, h5, h6⟩ := hs_inv hrel hv hH hxn
    obtain ⟨rfl, _, rfl⟩ := Value.slice.inj hsl
    have hb : ∃ mm, (Instr.sliceBounds true len rcap lov hiv mxv).run P w = .ok (ln, hn, mm) w ∧ hn ≤ mm ∧ ((capm = some mm ∧ mm ≤ rcap) ∨ (capm = none ∧ cap = none ∧ mm = rcap)) ∧ (hn ≤ len ∨ capm = some mm) := by
      rcases hcases with ⟨rfl, rfl, rfl, h7⟩ | ⟨rfl, rfl, rfl, h7⟩ | ⟨⟨k, rfl⟩, rfl, h7, h8⟩
      · exact ⟨rcap, run_sliceBounds (.inl ⟨rfl, rfl⟩) (bound_of hhr (by omega)) (bound_of hlr hl1) w, by omega, .inr ⟨rfl, rfl, rfl⟩, .inl h7⟩
      · simp only [capOK] at h6
        subst h6
        exact ⟨_, run_sliceBounds (.inl ⟨rfl, rfl⟩) (bound_of hhr (by omega)) (bound_of hlr hl1) w, by omega, .inl ⟨rfl, Nat.le_refl _⟩, .inr rfl⟩
      · have hmr : m ≤ rcap := by
          rcases h8 with ⟨c, rfl, hc⟩ | h8
          · simp only [capOK] at h6; omega
          · omega
        exact ⟨m, run_sliceBounds (.inr ⟨hmr, ⟨k, rfl⟩, hne (by simp)⟩) (bound_of hhr (by omega)) (bound_of hlr hl1) w, by omega, .inl ⟨rfl, hmr⟩, .inr rfl⟩
    obtain ⟨mm, hb, h7, h8, h9⟩ := hb
    obtain ⟨v, hkv, hvr⟩ := slH_sound hrel hv hl1 h7 h8 h9 hk
    exact .here (hex _ _ _ _ _ _ rfl hb) hrel hkv hvr
  · exact h.elim

theorem slA_sound {t e : TypeId} {n sz : Nat} {x : Operand} {lo hi mx : Option Operand} {x' : Opd} {lo' hi' mx' : Option Opd} (hrel : Rel G B Φ Z H w) (hf : FrR Φ Z w fr a) (ho : o.op = .slice t x lo hi mx) (ht : P.underlying t = some (.array n e)) (hs : sizeT P e = some sz)
    (hx : opd x = some x') (hl : opdO lo = some lo') (hh : opdO hi = some hi') (hm : opdO mx = some mx') (h : slAK H n sz (ev G fr x') (lo'.map (ev G fr)) (hi'.map (ev G fr)) (mx'.map (ev G fr)) (K · H)) : Reads P o a w Φ Z (K · H) := by
  have hv := ev_sound (x := x) hrel.glob hf hx
  have hv2 := optR hrel.glob hf hl
  have hv3 := optR hrel.glob hf hh
  have hv4 := optR hrel.glob hf hm
  have hex : ∀ (ad : Addr) (l h m : Nat), a.eval x = .pointer (some ad) → (Instr.sliceBounds false n n (lo.map a.eval) (hi.map a.eval) (mx.map a.eval)).run P w = .ok (l, h, m) w →
      (execOp a.eval o).run P w = .ok (.value (.slice (some (if m = l then ad else ad.add (l * sz))) (h - l) (m - l))) w := by
    intro ad l h m h1 h2
    simp [execOp, ho, h1, Instr.sliceAt, run_underlying ht, Instr.sureAddr, h2, run_sizeT hs]
  generalize a.eval x = xv at hv hex
  generalize lo.map a.eval = lov at hv2 hex
  generalize hi.map a.eval = hiv at hv3 hex
  generalize mx.map a.eval = mxv at hv4 hex
  generalize ev G fr x' = xa at hv h
  generalize lo'.map (ev G fr) = loa at hv2 h
  generalize hi'.map (ev G fr) = hia at hv3 h
  generalize mx'.map (ev G fr) = mxa at hv4 h
  obtain ⟨hms, h⟩ := h
  have hne : mxv ≠ none → hiv ≠ none := by
    intro hq
    rcases hv4 with ⟨rfl, rfl⟩ | ⟨y, s, rfl, rfl, _⟩
    · exact absurd rfl hq
    · exact optR_ne hv3 (hms rfl)
  split at h
  · rename_i b m i j
    obtain ⟨mm, ⟨hm1, h⟩, hmr⟩ := bnd_inv h hv4
    obtain ⟨hn, ⟨hh1, h⟩, hhr⟩ := bnd_inv h hv3
    obtain ⟨ln, ⟨hl1, h⟩, hlr⟩ := bnd_inv h hv2
    have hb : (Instr.sliceBounds false n n lov hiv mxv).run P w = .ok (ln, hn, mm) w := by
      rcases hmr with ⟨rfl, rfl⟩ | ⟨k, rfl⟩
      · exact run_sliceBounds (.inl ⟨rfl, rfl⟩) (bound_of hhr hh1) (bound_of hlr hl1) w
      · exact run_sliceBounds (.inr ⟨hm1, ⟨k, rfl⟩, hne (by simp)⟩) (bound_of hhr hh1) (bound_of hlr hl1) w
    cases hv with
    | ptr _ _ _ _ p ad hp hle hvp =>
      have hv' : VR Φ Z w (.hs b m i j mm (some mm) sz) (.slice (some ad) mm mm) := .hs _ _ _ _ _ _ _ p _ _ hp hle fun e => ⟨by rw [hvp e], Nat.le_refl _, rfl⟩
      obtain ⟨v, hkv, hvr⟩ := slH_sound (rcap := mm) hrel hv' hl1 hh1 (.inl ⟨rfl, Nat.le_refl _⟩) (.inl hh1) h
      refine .here (hex _ _ _ _ rfl hb) hrel hkv ?_
      have : (if mm = ln then (some ad : Option Addr) else (some ad).map (·.add (ln * sz))) = some (if mm = ln then ad else ad.add (ln * sz)) := by split <;> rfl
      rwa [this] at hvr
  · exact h.elim

theorem minK_sound {t u ty : TypeId} {lt : Bool} {x y : Operand} {x' y' : Opd} {c : Call} (hrel : Rel G B Φ Z H w) (hf : FrR Φ Z w fr a) (ho : o.op = .call c) (hc : c.callee = .builtin (if lt then .min else .max)) (hargs : c.args = #[x, y])
    (hx : opd x = some x') (hy : opd y = some y') (h : minK lt (ev G fr x') (ev G fr y') (K · H)) : Reads P o a w Φ Z (K · H) := by
  have hv := ev_sound (x := x) hrel.glob hf hx
  have hv2 := ev_sound (x := y) hrel.glob hf hy
  unfold minK at h
  split at h
  · rename_i k p k' q he1 he2
    obtain ⟨rfl, h⟩ := h
    rw [he1] at hv
    rw [he2] at hv2
    have e1 := hv.int_inv
    have e2 := hv2.int_inv
    cases lt
    · refine .here (rv := .int k (if q > p then q else p)) ?_ hrel h ?_
      · simp [execOp, ho, resolve, hc, hargs, invoke, builtin, Builtin.max_, e1, e2, Builtin.max2]
      · simp; exact .int _ _
    · refine .here (rv := .int k (if q < p then q else p)) ?_ hrel h ?_
      · simp [execOp, ho, resolve, hc, hargs, invoke, builtin, Builtin.min_, e1, e2, Builtin.min2]
      · simp; exact .int _ _
  · exact h.elim

theorem lenC_sound {t : TypeId} {e : TypeId} {n : Nat} {x : Operand} {c : Call} (hrel : Rel G B Φ Z H w) (ho : o.op = .call c) (hc : c.callee = .builtin .len) (hat : c.argTypes = #[t]) (hargs : c.args = #[x]) (ht : P.underlying t = some (.array n e))
    (h : K (.int .i64 n) H) : Reads P o a w Φ Z (K · H) := by
  refine .here (rv := goInt n) ?_ hrel h (.int _ _)
  simp [execOp, ho, resolve, hc, hat, hargs, invoke, builtin, Builtin.len_, run_underlying ht]

theorem mkf_sound {f : Fn} {first cap : Array Operand} {f' c' : List Opd} (hrel : Rel G B Φ Z H w) (hf : FrR Φ Z w fr a) (ho : o.op = .makeFunc f first cap) (h1 : opds first.toList = some f') (h2 : opds cap.toList = some c')
    (h : K (.fn f (evs G fr f') (evs G fr c')) H) : Reads P o a w Φ Z (K · H) := by
  have v1 := evs_sound hrel.glob hf h1
  have v2 := evs_sound hrel.glob hf h2
  refine .here (rv := .func f (first.map a.eval) (cap.map a.eval)) (by simp [execOp, ho, Instr.makeFunc]) hrel h ?_
  have e1 : (first.toList.map a.eval).toArray = first.map a.eval := by rw [← Array.toList_map]
  have e2 : (cap.toList.map a.eval).toArray = cap.map a.eval := by rw [← Array.toList_map]
  rw [e1] at v1
  rw [e2] at v2
  exact .fn _ _ _ _ _ v1.1 v2.1 v1.2 v2.2

end
end Go.MW
