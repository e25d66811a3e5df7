/- Structs compared. -/
import Derived.Test.YtphbhoggcddgmaaDoorMwOps3
import Derived.Laws.StructEq
import Derived.Laws.Cover3
namespace Go.MW
open Go Go.RowKit
set_option linter.unusedVariables false
set_option linter.unusedSimpArgs false

section
variable {P : Program} {G : Nat → Option (List V)} {B : Nat} {Φ : Nat → Option Pl} {Z : Nat → Prop} {H : List Blk} {w : World} {a : Act} {fr : Fr} {K : V → List Blk → Prop} {o : Oper}

theorem kind_agg {t : TypeId} {k : Nat} (h : kindT P t = some k) (hs : sizeT P t = some 1) : aggT P t = some none := by
  simp only [sizeT, Option.map_eq_some_iff] at hs
  obtain ⟨i, hi, h1⟩ := hs
  unfold kindT at h
  split at h <;> simp at h
  all_goals (rename_i hu; simp [aggT, hu, hi, h1])

theorem eq1_sound {k : Nat} {x y : V} {u v : Value} {r : Bool} {t : TypeId} (d : Nat) (hk : kindT P t = some k) (hx : VR Φ Z w x u) (hy : VR Φ Z w y v) (h : eq1 k x y = some r) : (Op.equalIn (d + 1) t u v).run P w = .ok r w := by
  unfold kindT at hk
  unfold eq1 at h
  split at h
  · split at h <;> simp at h
    rename_i hkk
    subst hkk h
    split at hk <;> simp at hk
    rename_i hu
    obtain rfl := hx.int_inv
    obtain rfl := hy.int_inv
    rw [run_equalIn_int w d t _ _ _ _ hu]
    rfl
  · simp at h
    subst h
    split at hk <;> simp at hk
    rename_i hu
    obtain rfl := hx.bool_inv
    obtain rfl := hy.bool_inv
    rw [run_equalIn_bool' w d t _ _ hu]
  · simp at h
    subst h
    split at hk <;> simp at hk
    rename_i hu
    obtain rfl := hx.str_inv
    obtain rfl := hy.str_inv
    rw [run_equalIn_string w d t _ _ hu, bytes_toList, bytes_toList]
  · cases h

theorem eqF_sound (d : Nat) {xs ys : Array Value} : ∀ (fs : List Field) (i : Nat) (ks : List Nat) (as bs : List V) (r : Bool), flatF P i fs = some ks → eqs ks as bs = some r → (∀ j, j < as.length → i + j < xs.size ∧ VR Φ Z w (as.getD j .junk) (xs.getD (i + j) undef)) → (∀ j, j < bs.length → i + j < ys.size ∧ VR Φ Z w (bs.getD j .junk) (ys.getD (i + j) undef)) →
    (Op.eqFields (d + 1) xs ys fs).run P w = .ok r w
  | [], i, ks, as, bs, r, hf, h, hx, hy => by
    simp [flatF] at hf
    subst hf
    cases as <;> cases bs <;> simp [eqs] at h
    subst h
    rfl
  | f :: fs, i, ks, as, bs, r, hf, h, hx, hy => by
    simp only [flatF] at hf
    split at hf <;> try (simp at hf; done)
    rename_i hc
    simp only [Bool.and_eq_true, beq_iff_eq, bne_iff_ne] at hc
    obtain ⟨⟨h1, h2⟩, h3⟩ := hc
    split at hf <;> simp at hf
    rename_i k ks' hk hks
    subst hf
    cases as with
    | nil => simp [eqs] at h
    | cons a as =>
      cases bs with
      | nil => simp [eqs] at h
      | cons b bs =>
        simp only [eqs] at h
        split at h <;> simp at h
        rename_i x y hx1 hy1
        obtain ⟨hx0, hxv⟩ := hx 0 (by simp)
        obtain ⟨hy0, hyv⟩ := hy 0 (by simp)
        simp only [Nat.add_zero, List.getD_cons_zero] at hx0 hxv hy0 hyv
        have hag := (aggT_none (kind_agg hk h3) w).1
        have hp : ∀ {zs : Array Value}, i < zs.size → (part f.type zs f.offset).run P w = .ok (zs.getD i undef) w := by
          intro zs hz
          simp [part, hag, h1, Array.getD, hz]
        have he := eq1_sound (P := P) d hk hxv hyv hx1
        simp only [Op.eqFields, h2, ne_eq, not_false_eq_true, if_true, Sem.run_bind, hp hx0, hp hy0, Result.andThen_ok, he]
        cases x with
        | false => simp at h; subst h; rfl
        | true =>
          simp at h
          subst h
          simp only [Bool.not_true, Bool.false_eq_true, if_false]
          exact eqF_sound d fs (i + 1) ks' as bs y hks hy1 (fun j hj => by
            have := hx (j + 1) (by simpa using hj)
            simpa [Nat.add_assoc, Nat.add_comm 1 j] using this) (fun j hj => by
            have := hy (j + 1) (by simpa using hj)
            simpa [Nat.add_assoc, Nat.add_comm 1 j] using this)

theorem eqT_sound {neg : Bool} {op : BinOp} {t u : TypeId} {fs : Array Field} {ks : List Nat} {x y : Operand} {x' y' : Opd} (hrel : Rel G B Φ Z H w) (hf : FrR Φ Z w fr a) (ho : o.op = .binOp op t x y u) (hop : (op = .eql ∧ neg = false) ∨ (op = .neq ∧ neg = true)) (hu : P.underlying t = some (.struct fs)) (hfl : flatS P t fs = some ks)
    (hx : opd x = some x') (hy : opd y = some y') (h : eqTK neg ks (ev G fr x') (ev G fr y') (K · H)) : Reads P o a w Φ Z (K · H) := by
  have hv := ev_sound (x := x) hrel.glob hf hx
  have hv2 := ev_sound (x := y) hrel.glob hf hy
  have hex : (execOp a.eval o).run P w = (Sem.run P (do eqGuard op t x y (a.eval x) (a.eval y); binOp op t (a.eval x) (a.eval y)) w).andThen fun v w => .ok (.value v) w := by
    simp only [execOp, ho, Sem.run_bind]
    cases (eqGuard op t x y (a.eval x) (a.eval y)).run P w <;> rfl
  generalize a.eval x = xv at hv hex
  generalize a.eval y = yv at hv2 hex
  generalize ev G fr x' = xa at hv h
  generalize ev G fr y' = ya at hv2 h
  unfold flatS at hfl
  split at hfl <;> try (simp at hfl; done)
  rename_i hg
  simp only [Bool.and_eq_true, Bool.not_eq_true'] at hg
  unfold eqTK at h
  split at h
  · split at h
    · rename_i as bs _ r hr
      cases hv with
      | agg _ xs hl1 hc1 =>
        cases hv2 with
        | agg _ ys hl2 hc2 =>
          have hfo : P.fieldsOf t = fs := by simp [Program.fieldsOf, hu]
          have heq : (Op.equal t (.agg xs) (.agg ys)).run P w = .ok r w := by
            show (Op.equalIn (9999 + 1) t (.agg xs) (.agg ys)).run P w = _
            rw [run_equalIn_struct w 9999 t xs ys (by rw [hfo]; exact hu) hg.2, hfo]
            exact eqF_sound 9998 fs.toList 0 ks as bs r hfl hr (fun j hj => ⟨by omega, by simpa using hc1 j hj⟩) fun j hj => ⟨by omega, by simpa using hc2 j hj⟩
          have hgu := run_eqGuard_agg (P := P) w op t x y xs ys hg.1
          refine .here (rv := .bool (bif neg then !r else r)) ?_ hrel h (.bool _)
          rw [hex, Sem.run_bind, hgu, Result.andThen_ok]
          rcases hop with ⟨rfl, rfl⟩ | ⟨rfl, rfl⟩
          · simp [binOp, heq]
          · simp [binOp, heq]
    · exact h.elim
  · exact h.elim

theorem eqB_sound {neg : Bool} {op : BinOp} {t u : TypeId} {x y : Operand} {x' y' : Opd} (hrel : Rel G B Φ Z H w) (hf : FrR Φ Z w fr a) (ho : o.op = .binOp op t x y u) (hop : (op = .eql ∧ neg = false) ∨ (op = .neq ∧ neg = true)) (hu : P.underlying t = some .bool)
    (hx : opd x = some x') (hy : opd y = some y') (h : eqBK neg (ev G fr x') (ev G fr y') (K · H)) : Reads P o a w Φ Z (K · H) := by
  have hv := ev_sound (x := x) hrel.glob hf hx
  have hv2 := ev_sound (x := y) hrel.glob hf hy
  have hex : (execOp a.eval o).run P w = (Sem.run P (do eqGuard op t x y (a.eval x) (a.eval y); binOp op t (a.eval x) (a.eval y)) w).andThen fun v w => .ok (.value v) w := by
    simp only [execOp, ho, Sem.run_bind]
    cases (eqGuard op t x y (a.eval x) (a.eval y)).run P w <;> rfl
  generalize a.eval x = xv at hv hex
  generalize a.eval y = yv at hv2 hex
  generalize ev G fr x' = xa at hv h
  generalize ev G fr y' = ya at hv2 h
  unfold eqBK at h
  split at h
  · rename_i p q
    obtain rfl := hv.bool_inv
    obtain rfl := hv2.bool_inv
    have hgu : (eqGuard op t x y (.bool p) (.bool q)).run P w = .ok () w := by unfold eqGuard; cases op <;> rfl
    have heq : (Op.equal t (.bool p) (.bool q)).run P w = .ok (p == q) w := by
      show (Op.equalIn (9999 + 1) t (.bool p) (.bool q)).run P w = _
      unfold Op.equalIn
      simp only [Sem.run_bind, run_underlying hu, Result.andThen_ok, Sem.run_pure]
    refine .here (rv := .bool (bif neg then !(p == q) else p == q)) ?_ hrel h (.bool _)
    rw [hex, Sem.run_bind, hgu, Result.andThen_ok]
    rcases hop with ⟨rfl, rfl⟩ | ⟨rfl, rfl⟩
    · simp [binOp, heq]
    · simp [binOp, heq]
  · exact h.elim

theorem nilq_sound {neg : Bool} {op : BinOp} {t e u : TypeId} {x : Operand} {x' : Opd} (hrel : Rel G B Φ Z H w) (hf : FrR Φ Z w fr a) (ho : o.op = .binOp op t x (.const (.slice none 0 0)) u) (hop : (op = .eql ∧ neg = false) ∨ (op = .neq ∧ neg = true)) (hu : P.underlying t = some (.slice e))
    (hx : opd x = some x') (h : nilqK neg (ev G fr x') (K · H)) : Reads P o a w Φ Z (K · H) := by
  have hv := ev_sound (x := x) hrel.glob hf hx
  have hex : ∀ (ad : Option Addr) (l c : Nat), a.eval x = .slice ad l c → (execOp a.eval o).run P w = .ok (.value (.bool (bif neg then !ad.isNone else ad.isNone))) w := by
    intro ad l c hs
    have h1 := run_equal_slice_nil (P := P) w t e ad l c hu
    have h2 : ∀ y, (eqGuard op t x y (.slice ad l c) (.slice none 0 0)).run P w = .ok () w := by intro y; cases op <;> rfl
    have h3 : (execOp a.eval o).run P w = (Sem.run P (do eqGuard op t x (.const (.slice none 0 0)) (a.eval x) (.slice none 0 0); binOp op t (a.eval x) (.slice none 0 0)) w).andThen fun v w => .ok (.value v) w := by
      have hc : a.eval (.const (.slice none 0 0)) = .slice none 0 0 := rfl
      simp only [execOp, ho, Sem.run_bind, hc]
      cases (eqGuard op t x (.const (.slice none 0 0)) (a.eval x) (.slice none 0 0)).run P w <;> rfl
    rw [h3, hs, Sem.run_bind, h2, Result.andThen_ok]
    rcases hop with ⟨rfl, rfl⟩ | ⟨rfl, rfl⟩
    · simp only [binOp, Sem.run_bind, h1, Result.andThen_ok, Sem.run_pure]
      rfl
    · simp only [binOp, Sem.run_bind, h1, Result.andThen_ok, Sem.run_pure]
      rfl
  generalize a.eval x = xv at hv hex
  generalize ev G fr x' = xa at hv h
  unfold nilqK at h
  split at h
  · cases hv with
    | nils =>
      have := hex _ _ _ rfl
      refine .here (rv := .bool (!neg)) (by rw [this]; cases neg <;> rfl) hrel h (.bool _)
  · cases hv with
    | vs _ ad sz cap =>
      have := hex _ _ _ rfl
      refine .here (rv := .bool neg) (by rw [this]; cases neg <;> rfl) hrel h (.bool _)
    | vs0 b c =>
      have := hex _ _ _ rfl
      refine .here (rv := .bool neg) (by rw [this]; cases neg <;> rfl) hrel h (.bool _)
  · exact h.elim

end
end Go.MW
