/- Appending, copying, clearing, and what else makes rows. -/
import Derived.Test.YtphbhoggcddgmaaDoorMwOps6
import Derived.Laws.MakeOwn
import Derived.Laws.IdiomStrings
namespace Go.MW
open Go Go.RowKit
set_option linter.unusedVariables false
set_option linter.unusedSimpArgs false

section
variable {P : Program} {G : Nat → Option (List V)} {B : Nat} {Φ : Nat → Option Pl} {Z : Nat → Prop} {H : List Blk} {w : World} {a : Act} {fr : Fr} {K : V → List Blk → Prop} {o : Oper}

theorem wr_nil {ys : List V} {rv : Value} {Φ' : Nat → Option Pl} (h : Elems P Φ Z w [] rv) (sz : Nat) : (Builtin.firstCells sz 0 rv).run P w = .ok #[] w := by
  obtain ⟨f, h1, _⟩ := h.2 sz 0 (by simp) (by simp)
  simpa using h1

theorem goods_take {sz : Nat} {xs : List V} {i n : Nat} (h : Goods sz xs) : Goods sz ((xs.drop i).take n) :=
  fun y hy => h y (List.mem_of_mem_drop (List.mem_of_mem_take hy))

theorem app_sound {t u e : TypeId} {d : TypeDesc} {z : V} {sz by_ : Nat} {x y : Operand} {x' y' : Opd} {c : Call} (hrel : Rel G B Φ Z H w) (hf : FrR Φ Z w fr a) (ho : o.op = .call c) (hc : c.callee = .builtin .append) (hat : c.argTypes = #[t, u]) (hargs : c.args = #[x, y])
    (ht : P.underlying t = some (.slice e)) (hu : P.underlying u = some d) (hd : ∀ k, d ≠ .int k) (hz : zeroT P e = some (z, sz)) (hb : bytesT P e = some by_) (hsz0 : sz ≠ 0) (hb0 : by_ ≠ 0) (hx : opd x = some x') (hy : opd y = some y')
    (h : elemsK H (ev G fr y') fun ys => appK sz by_ (ev G fr x') ys H K) : Comes' P G B o a w Φ Z K := by
  have hv := ev_sound (x := x) hrel.glob hf hx
  have hv2 := ev_sound (x := y) hrel.glob hf hy
  have hex : ∀ {v w'}, (Builtin.append_ #[t, u] o.type #[a.eval x, a.eval y]).run P w = .ok v w' → (execOp a.eval o).run P w = .ok (.value v) w' := by
    intro v w' he
    simp [execOp, ho, resolve, hc, hat, hargs, invoke, builtin, he]
  generalize a.eval x = xv at hv hex
  generalize a.eval y = yv at hv2 hex
  generalize ev G fr x' = xa at hv h
  generalize ev G fr y' = ya at hv2 h
  obtain ⟨zv, hzr, _, hzc, hzl, _, hs⟩ := zero_cells (Φ := Φ) (Z := Z) (w := w) hz
  have hzs : zv.cells.size = sz := by rw [hzc.1, hzl]
  have hrel2 : Rel G B Φ Z H w.drew := hrel.heap rfl
  have hv2' : VR Φ Z w.drew ya yv := hv2.ev (Ev.drew B Φ Z w)
  have hdet : ∀ ys, elemsK H ya (fun ys' => ys' = ys) → Elems P Φ Z w ys yv ∧ Elems P Φ Z w.drew ys yv := by
    intro ys he
    obtain ⟨q, rfl, h1⟩ := elems_sound (P := P) hrel hv2 he
    obtain ⟨q', rfl, h2⟩ := elems_sound (P := P) hrel2 hv2' he
    exact ⟨h1, h2⟩
  obtain ⟨ys, hys, hk⟩ : ∃ ys, elemsK H ya (fun ys' => ys' = ys) ∧ appK sz by_ xa ys H K := by
    unfold elemsK at h ⊢
    split at h
    · exact ⟨_, rfl, h⟩
    · exact ⟨_, rfl, h⟩
    · exact ⟨_, rfl, h⟩
    · split at h
      · obtain ⟨h1, h2⟩ := h
        split at h2
        · rename_i hcond
          refine ⟨_, ⟨h1, ?_⟩, h2.2⟩
          rw [if_pos hcond]
          exact ⟨h2.1, rfl⟩
        · rename_i hcond
          refine ⟨_, ⟨h1, ?_⟩, h2.2.2.2.2⟩
          rw [if_neg hcond]
          exact ⟨h2.1, h2.2.1, h2.2.2.1, h2.2.2.2.1, rfl⟩
      · exact h.elim
    · exact h.elim
  obtain ⟨he1, he2⟩ := hdet ys hys
  obtain ⟨hg, hk⟩ := hk
  obtain ⟨g1, hg1, hgr1⟩ := he1.2 sz ys.length (Nat.le_refl _) (fun i hi => goods_len hg _ (getD_mem hi))
  obtain ⟨g2, hg2, hgr2⟩ := he2.2 sz ys.length (Nat.le_refl _) (fun i hi => goods_len hg _ (getD_mem hi))
  have hgr2' : ElR Φ Z w sz ys.length ys g2 := fun i j hi hj => (hgr2 i j hi hj).mono (w := w.drew) (w' := w) (fun _ h => h) (fun _ _ => rfl) (fun b p hp => ⟨p, hp, .inl rfl⟩)
  -- nothing appended
  have nothing : ∀ {sLen sCap base}, xv = .slice base sLen sCap → sLen ≤ sCap → ys = [] → (execOp a.eval o).run P w = .ok (.value (.slice base sLen sCap)) w := by
    intro sLen sCap base hxv hle hys0
    subst hys0
    have := append_in (P := P) (w := w) (t := t) (u := u) (ty := o.type) (e := e) (sz := sz) (base := base) (sLen := sLen) (sCap := sCap) (n := 0) (x := yv) (new := #[]) (w' := w) ht hu hd hs (by simpa using he1.1) (by omega) (by simpa using hg1) (fun ad _ => by rfl) (fun _ => rfl)
    refine hex ?_
    rw [hxv]
    simpa using this
  -- a new block
  have grow : ∀ {sLen sCap base os}, xv = .slice base sLen sCap → os.length = sLen → (∀ y ∈ os, y.cells.length = sz) → Elems P Φ Z w.drew os xv → sCap < sLen + ys.length → roomy (sLen + ys.length) by_ →
      ∃ (cc : Array Value), (execOp a.eval o).run P w = .ok (.value (.slice (some ⟨w.heap.size, 0, none⟩) (sLen + ys.length) (grownCap w (sLen + ys.length) sCap e))) (w.drew.alloc (.cells cc e)) ∧
        cc.size = grownCap w (sLen + ys.length) sCap e * sz ∧ ElR Φ Z w sz (sLen + ys.length) (os ++ ys) (fun q => cc.getD q undef) := by
    intro sLen sCap base os hxv hol hos heo hlt hroom
    obtain ⟨f, hf1, hfr⟩ := heo.2 sz os.length (Nat.le_refl _) (fun i hi => hos _ (getD_mem hi))
    have hfr' : ElR Φ Z w sz os.length os f := fun i j hi hj => (hfr i j hi hj).mono (w := w.drew) (w' := w) (fun _ h => h) (fun _ _ => rfl) (fun b p hp => ⟨p, hp, .inl rfl⟩)
    rw [hol, hxv] at hf1
    have := append_grow (P := P) (w := w) (t := t) (u := u) (ty := o.type) (e := e) (sz := sz) (by_ := by_) (base := base) (sLen := sLen) (sCap := sCap) (n := ys.length) (x := yv) ht hu hd hzr hs hb hb0 he1.1 hlt hroom hg2 hf1
    refine ⟨_, hex (by rw [hxv]; exact this), ?_, ?_⟩
    · have := grownCap_le w (sLen + ys.length) sCap e
      simp [size_zeroCells, hzs]
      rw [← Nat.add_mul, ← Nat.add_mul]
      congr 1
      omega
    · have := ElR.append (Builtin.zeroCells zv.cells (grownCap w (sLen + ys.length) sCap e - (sLen + ys.length))) hfr' hgr2' rfl rfl
      rw [hol] at this
      exact this
  -- the new block as a row
  have made : ∀ {sLen sCap base os}, xv = .slice base sLen sCap → os.length = sLen → (∀ y ∈ os, y.cells.length = sz) → Elems P Φ Z w.drew os xv → sCap < sLen + ys.length → roomy (sLen + ys.length) by_ →
      K (.hs H.length (sLen + ys.length) 0 0 (sLen + ys.length) none sz) (H ++ [.row sz (os ++ ys) true false]) → Comes' P G B o a w Φ Z K := by
    intro sLen sCap base os hxv hol hos heo hlt hroom hK
    obtain ⟨cc, hrun, hcc, hel⟩ := grow hxv hol hos heo hlt hroom
    have hcap := grownCap_le w (sLen + ys.length) sCap e
    have hlen : (os ++ ys).length = sLen + ys.length := by simp [hol]
    refine Makes.comes (makes_row (r := fun q => .hs q (sLen + ys.length) 0 0 (sLen + ys.length) none sz) (sz := sz) (xs := os ++ ys) (opn := true) hrun (.inr rfl) hK (.inl (Nat.le_refl _)) ?_ (by simp) ?_ ?_ ?_) hrel
    · rw [hlen, hcc]; exact Nat.mul_le_mul_right _ hcap
    · intro i hi
      rcases List.mem_append.1 (getD_mem hi) with hm | hm
      · exact hos _ hm
      · exact goods_len hg _ hm
    · intro i j hi hj
      exact hel i j (by rw [← hlen]; exact hi) hj
    · intro Φ' b w' hp
      refine .hs _ _ _ _ _ _ _ _ _ _ hp (by rw [hlen]; exact Nat.le_refl _) fun _ => ⟨by simp, hcap, ?_⟩
      simp [capOK, hcc]
  split at hk
  · -- nil
    cases hv with
    | nils =>
      split at hk
      · rename_i h0
        exact .value (nothing rfl (Nat.le_refl _) h0) hk .nils hrel (Ev.refl _ _ _ _)
      · rename_i h0
        obtain ⟨hroom, hK⟩ := hk
        have hpos : 0 < ys.length := List.length_pos_iff.2 h0
        have := made (sLen := 0) (sCap := 0) (base := none) (os := []) rfl rfl (by simp) (elems_nil ⟨_, _, rfl⟩) (by omega) (by simpa using hroom)
        simp only [Nat.zero_add, List.nil_append] at this
        exact this hK
  · obtain ⟨h0, hK⟩ := hk
    cases hv with
    | vs _ ad s cap cc h1 h2 h3 h4 h5 h6 => exact .value (nothing rfl h3 h0) hK (.vs _ ad s cap cc h1 h2 h3 h4 h5 h6) hrel (Ev.refl _ _ _ _)
    | vs0 base cap => exact .value (nothing rfl (Nat.zero_le _) h0) hK (.vs0 base cap) hrel (Ev.refl _ _ _ _)
  · rename_i b n i j len cap sz'
    obtain ⟨rfl, rfl, hk⟩ := hk
    split at hk
    · rename_i rsz xs opn frz hH
      obtain ⟨rfl, hn, hin, hgx, hk⟩ := hk
      obtain ⟨p, rcap, hp, ok, rfl, hle, hcap⟩ := hs_inv hrel hv hH hn
      have hpsz := ok.size
      have hrow := ok.row
      obtain ⟨c0, t0, fz0, hcb0, hfz0, hre0, hle0, hop0, hcv0⟩ := hrow
      have holds : Elems P Φ Z w.drew ((xs.drop i).take len) (.slice (some ⟨p.rb, i * rsz + 0, none⟩) len rcap) := by
        have hv' := hv.ev (Ev.drew B Φ Z w)
        obtain ⟨q, rfl, h1⟩ := elems_sound (P := P) (C := fun q => q = (xs.drop i).take len) hrel2 hv' (by
          simp only [elemsK, hH, true_and, and_self, if_true]
          exact ⟨hn, by omega, trivial⟩)
        exact h1
      have hol : ((xs.drop i).take len).length = len := by simp; omega
      have hos : ∀ y ∈ (xs.drop i).take len, y.cells.length = rsz := goods_len (goods_take hgx)
      -- in place
      have inplace : len + ys.length ≤ rcap → (i + len + ys.length) * rsz ≤ p.re → (opn = false → i + len + ys.length ≤ xs.length) → frz = false →
          ∃ w' p', (execOp a.eval o).run P w = .ok (.value (.slice (some ⟨p.rb, i * rsz + 0, none⟩) (len + ys.length) rcap)) w' ∧
            Rel G B (put1 Φ b p') Z (H.set b (.row rsz (xs.take (i + len) ++ ys ++ xs.drop (i + len + ys.length)) opn false)) w' ∧ Ev B Φ Z w (put1 Φ b p') Z w' ∧
            p'.n = (xs.take (i + len) ++ ys ++ xs.drop (i + len + ys.length)).length ∧ p'.rb = p.rb ∧ p'.sz = p.sz ∧ p'.re = p.re := by
        intro h1 h2 h3 hfrz
        subst hfrz
        obtain ⟨w', p', hst, hr', hev, hh⟩ := Rel.storeEls (P := P) (i := i + len) (m := ys.length) hrel hp ok hg rfl hgr1 (by omega) h2 h3
        refine ⟨w', p', hex ?_, hr', hev, hh⟩
        refine append_in ht hu hd hs he1.1 h1 hg1 (fun ad had => ?_) (fun h => by cases h)
        obtain rfl := Option.some.inj had
        rw [add_eq rfl]
        simp only [Nat.add_zero]
        rw [← Nat.add_mul]
        exact hst
      split at hk
      · rename_i cc
        have hrc : rcap = cc := hcap
        subst hrc
        split at hk
        · rename_i hfit
          obtain ⟨hic, hfrz, hK⟩ := hk
          have h2 : (i + len + ys.length) * rsz ≤ p.re := by
            have : (i + len + ys.length) * rsz ≤ xs.length * rsz := Nat.mul_le_mul_right _ (by omega)
            omega
          obtain ⟨w', p', hrun, hr', hev, hh1, hh2, hh3, hh4⟩ := inplace hfit h2 (fun _ => by omega) hfrz
          refine .value hrun hK ?_ hr' hev
          refine .hs _ _ _ _ _ _ _ p' _ _ (put1_same _ _ _) ?_ fun _ => ⟨by rw [hh2, hh3, hpsz], hfit, rfl⟩
          rw [hh1]; simp; omega
        · rename_i hfit
          obtain ⟨hroom, hK⟩ := hk
          exact made rfl hol hos holds (by omega) hroom hK
      · simp only [capOK, hpsz] at hcap
        split at hk
        · rename_i hfit
          obtain ⟨hfrz, hK⟩ := hk
          have h2 : (i + len + ys.length) * rsz ≤ p.re := by
            have : (i + len + ys.length) * rsz ≤ xs.length * rsz := Nat.mul_le_mul_right _ (by omega)
            omega
          have h1 : len + ys.length ≤ rcap := by
            have h3 : (i + len + ys.length) * rsz ≤ (i + rcap) * rsz := by rw [Nat.add_mul i rcap]; omega
            have := Nat.le_of_mul_le_mul_right h3 (by omega)
            omega
          obtain ⟨w', p', hrun, hr', hev, hh1, hh2, hh3, hh4⟩ := inplace h1 h2 (fun _ => by omega) hfrz
          refine .value hrun hK ?_ hr' hev
          refine .hs _ _ _ _ _ _ _ p' _ _ (put1_same _ _ _) ?_ fun _ => ⟨by rw [hh2, hh3, hpsz], h1, ?_⟩
          · rw [hh1]; simp; omega
          · simp only [capOK, hh3, hh4, hpsz]; exact hcap
        · rename_i hfit
          obtain ⟨rfl, hfrz, hroom, hK⟩ := hk
          simp only [Nat.zero_mul, Nat.zero_add] at hcap
          have hdrop : xs.drop (len + ys.length) = [] := List.drop_eq_nil_of_le (by omega)
          by_cases h1 : len + ys.length ≤ rcap
          · -- the block has room
            have h2 : (0 + len + ys.length) * rsz ≤ p.re := by
              rw [← hcap]; exact Nat.mul_le_mul_right _ (by omega)
            have hopn : opn = true := by
              cases opn with
              | true => rfl
              | false =>
                have := hop0 rfl
                rw [this] at h2
                have := Nat.le_of_mul_le_mul_right h2 (by omega)
                omega
            obtain ⟨w', p', hrun, hr', hev, hh1, hh2, hh3, hh4⟩ := inplace h1 h2 (fun hq => by rw [hopn] at hq; cases hq) hfrz
            simp only [Nat.zero_add, hdrop, List.append_nil, hopn] at hr' hh1
            refine .value hrun hK ?_ hr' hev
            refine .hs _ _ _ _ _ _ _ p' _ _ (put1_same _ _ _) ?_ fun _ => ⟨by rw [hh2, hh3, hpsz], h1, ?_⟩
            · rw [hh1]; simp; omega
            · simp only [capOK, hh3, hh4, hpsz]; omega
          · -- another block
            simp only [List.drop_zero] at hol hos holds
            obtain ⟨cc, hrun, hcc, hel⟩ := grow rfl hol hos holds (by omega) hroom
            have hcapn := grownCap_le w (len + ys.length) rcap e
            have hlen : (xs.take len ++ ys).length = len + ys.length := by simp; omega
            subst hfrz
            have := hrel2.write (b := b) (k := .row rsz (xs.take len ++ ys) true false) (p := p) (p' := ⟨w.heap.size, len + ys.length, rsz, cc.size⟩) (w' := w.drew.alloc (.cells cc e)) hp (ok.z.2 rfl)
              (.inr (by rw [ok.len]; simp; omega)) (.inr (Nat.le_refl _)) ((Below.refl _ _).alloc hrel2.size _) (fun r _ hr => Below.heap_alloc _ _ r hr) (fun vr => by
                refine ⟨hlen.symm, rfl, fun i hi => ?_, ⟨cc, e, (0, 0), ?_, .inl (Nat.le_refl _), rfl, ?_, by simp, fun i j hi hj => vr _ _ ?_⟩, ⟨fun h => (by cases h), fun _ hz => ?_⟩⟩
                · rcases List.mem_append.1 (getD_mem hi) with hm | hm
                  · exact hos _ hm
                  · exact goods_len hg _ hm
                · show (w.heap.push _)[w.heap.size]? = _
                  simp
                · rw [hlen, hcc]; exact Nat.mul_le_mul_right _ hcapn
                · exact (hel i j (by rw [← hlen]; exact hi) hj).ev (Ev.drew B Φ Z w)
                · have := hrel.zin _ hz
                  simp at this)
            refine .value hrun hK ?_ this.1 ((Ev.drew B Φ Z w).trans this.2)
            refine .hs _ _ _ _ _ _ _ _ _ _ (put1_same _ _ _) (Nat.le_refl _) fun _ => ⟨by simp, hcapn, ?_⟩
            simp [capOK, hcc]
    · exact hk.elim
  · exact hk.elim

end
end Go.MW
