/- Regions in text order, and code: 'mwp' is sound. -/
import Derived.Test.YtphbhoggcddgmaaDoorMwStep
import Derived.Deep.LoopGhost
import Derived.Scope
namespace Go.MW
open Go Go.RowKit
set_option linter.unusedVariables false
set_option linter.unusedSimpArgs false

/-- A state of the small code, and the frame and the world that stand to it. -/
def At (G : Nat → Option (List V)) (B nt : Nat) (Φ0 : Nat → Option Pl) (Z0 : Nat → Prop) (w0 : World) (st : St) (a : Act) (w : World) : Prop :=
  ∃ Φ Z, Rel G B Φ Z st.H w ∧ FrR Φ Z w st.fr a ∧ Ev B Φ0 Z0 w0 Φ Z w ∧ a.tmps.size = nt ∧ a.defers = []

def Lift (G : Nat → Option (List V)) (B nt : Nat) (Φ0 : Nat → Option Pl) (Z0 : Nat → Prop) (w0 : World) (M : Exit → St → Prop) (e : Exit) (a : Act) (w : World) : Prop := ∃ st, M e st ∧ At G B nt Φ0 Z0 w0 st a w

section
variable {P : Program} {G : Nat → Option (List V)} {B nt : Nat} {Φ0 : Nat → Option Pl} {Z0 : Nat → Prop} {w0 : World}

theorem FrR.ev {Φ Φ' : Nat → Option Pl} {Z Z' : Nat → Prop} {w w' : World} {fr : Fr} {a : Act} (h : FrR Φ Z w fr a) (e : Ev B Φ Z w Φ' Z' w') : FrR Φ' Z' w' fr a := fun i => (h i).ev e

theorem FrR.put {Φ : Nat → Option Pl} {Z : Nat → Prop} {w : World} {fr : Fr} {a : Act} {d : Option Nat} {v : V} {rv : Value} (h : FrR Φ Z w fr a) (hv : VR Φ Z w v rv) (hd : ∀ t, d = some t → t < a.tmps.size) : FrR Φ Z w (put d v fr) (a.put d rv) := by
  intro i
  cases d with
  | none => exact h i
  | some t =>
    have ht := hd t rfl
    simp only [MW.put, get_cons, Act.put]
    by_cases hi : t = i
    · subst hi
      simpa [Array.getD, ht] using hv
    · rw [if_neg hi]
      have := h i
      simpa [Array.getD_eq_getD_getElem?, Array.getElem?_setIfInBounds_ne hi] using this

theorem put_size (a : Act) (d : Option Nat) (v : Value) : (a.put d v).tmps.size = a.tmps.size := by cases d <;> simp [Act.put]
theorem put_defers' (a : Act) (d : Option Nat) (v : Value) : (a.put d v).defers = a.defers := by cases d <;> rfl

theorem dstOK_spec {d : Option Nat} (h : dstOK nt d = true) : ∀ t, d = some t → t < nt := by
  rintro t rfl
  simpa [dstOK] using h

/-- A guard, in text and in the run. -/
theorem guard_sound {ops : Array Oper} {o : Oper} {g : Option (Nat × Bool)} {Φ : Nat → Option Pl} {Z : Nat → Prop} {w : World} {fr : Fr} {a : Act} {p q : Prop} (hf : FrR Φ Z w fr a) (hs : a.tmps.size = nt) (hg : compGuard ops.toList nt o.guard = some g) (h : gdK fr g p q) :
    (Region.wanted o (yielded ops a.tmps) = true ∧ p) ∨ (Region.wanted o (yielded ops a.tmps) = false ∧ q) := by
  unfold Region.wanted
  cases hog : o.guard with
  | none =>
    rw [hog] at hg
    simp [compGuard] at hg
    subst hg
    exact .inl ⟨rfl, h⟩
  | some jw =>
    obtain ⟨j, want⟩ := jw
    rw [hog] at hg
    simp only [compGuard] at hg
    split at hg <;> try (simp at hg; done)
    rename_i d hd
    by_cases hdn : d < nt
    case neg => rw [if_neg hdn] at hg; cases hg
    rw [if_pos hdn] at hg
    obtain rfl := Option.some.inj hg
    simp only [gdK] at h
    split at h
    · rename_i b hb
      have hv := hf d
      rw [hb] at hv
      have hv' := hv.bool_inv
      have hy : yielded ops a.tmps j = some b := by
        unfold yielded
        have : (ops[j]?).bind (·.dst) = some d := by simpa using hd
        rw [this]
        have : a.tmps[d]? = some (.bool b) := by
          have hlt : d < a.tmps.size := by rw [hs]; exact hdn
          rw [Array.getElem?_eq_getElem hlt]
          rw [← hv']
          simp [Array.getD, hlt]
        simp [this]
      simp only [hy]
      rcases hbw : (b == want) with _ | _
      · right
        refine ⟨?_, h.2 hbw⟩
        simpa using hbw
      · left
        refine ⟨?_, h.1 hbw⟩
        simpa using hbw
    · exact h.elim

theorem stepM_comes {o : Oper} {m : MOp} {Φ : Nat → Option Pl} {Z : Nat → Prop} {H : List Blk} {w : World} {a : Act} {fr : Fr} {q : Bool} {K : V → List Blk → Prop} (ok : OpOK P G o m) (hrel : Rel G B Φ Z H w) (hf : FrR Φ Z w fr a) (h : stepM P G q m fr H K) : Comes' P G B o a w Φ Z K := by
  rcases hk : m.kind with _ | _ | k
  · exact (ok.rd hk hrel hf h).comes hrel
  · refine Makes.comes (ok.mkr hk hrel hf ?_) hrel
    cases m <;> simp [MOp.kind] at hk <;> exact h
  · exact ok.wr (by omega) hrel hf h

theorem mops_seq {ops : Array Oper} {M : Exit → St → Prop} : ∀ (l : List Oper) (i : Nat) (ms : List MO), ops.toList.drop i = l → compOps P nt ops.toList l = some ms → ∀ (st : St) (a : Act) (w : World), mops P G ms (M .normal) st → At G B nt Φ0 Z0 w0 st a w →
    wpOps P ops (Lift G B nt Φ0 Z0 w0 M) (List.range' i l.length) a w
  | [], i, ms, _, hc, st, a, w, h, hat => by
    simp [compOps] at hc
    subst hc
    simp only [List.length_nil, List.range'_zero, wpOps]
    exact ⟨st, h, hat⟩
  | o :: l, i, ms, hd, hc, st, a, w, h, hat => by
    simp only [compOps] at hc
    split at hc <;> try (simp at hc; done)
    rename_i m g ms' hm hg hms
    split at hc <;> simp at hc
    rename_i hdst
    subst hc
    obtain ⟨Φ, Z, hrel, hf, hev, hsz, hdf⟩ := hat
    have ho : ops[i]? = some o := by
      have := congrArg (·[0]?) hd
      simpa using this
    have hd' : ops.toList.drop (i + 1) = l := by
      rw [← List.drop_drop, hd]; rfl
    have ih := mops_seq (M := M) l (i + 1) ms' hd' hms
    simp only [mops] at h
    simp only [List.length_cons, List.range'_succ, wpOps, ho]
    rcases guard_sound (ops := ops) (o := o) hf hsz hg h with ⟨hw, h⟩ | ⟨hw, h⟩
    · rw [hw, if_pos rfl]
      refine .inl ?_
      refine stepM_comes (compOp_ok hm) hrel hf h _ _ ?_
      intro rv v H' Φ' Z' w' hk hv hr' hev'
      refine ih _ _ _ hk ⟨Φ', Z', hr', (hf.ev hev').put hv (fun t ht => by rw [hsz]; exact dstOK_spec hdst t ht), hev.trans hev', by rw [put_size]; exact hsz, by rw [put_defers']; exact hdf⟩
    · rw [hw]
      simp only [Bool.false_eq_true, if_false]
      exact ih _ _ _ h ⟨Φ, Z, hrel, hf.put (.junk _) (fun t ht => by rw [hsz]; exact dstOK_spec hdst t ht), hev, by rw [put_size]; exact hsz, by rw [put_defers']; exact hdf⟩

/-- A region whose order is drawn. -/
def Drawn (P : Program) (G : Nat → Option (List V)) : Prop :=
  ∀ {B nt : Nat} {Φ0 : Nat → Option Pl} {Z0 : Nat → Prop} {w0 : World} {id : Nat} {ops : Array Oper} {ms : List MO} {M : Exit → St → Prop} {st : St} {a : Act} {w : World},
    comp P nt (.region id ops true) = some (.reg true ms) → mops P G ms (M .normal) st → At G B nt Φ0 Z0 w0 st a w → (Code.region id ops true).wp P (Lift G B nt Φ0 Z0 w0 M) a w

theorem mwp_sound (hD : Drawn P G) : ∀ (c : Code) (mc : MC), comp P nt c = some mc → ∀ (M : Exit → St → Prop) (st : St) (a : Act) (w : World), mwp P G mc M st → At G B nt Φ0 Z0 w0 st a w → c.wp P (Lift G B nt Φ0 Z0 w0 M) a w
  | .skip, mc, hc, M, st, a, w, h, hat => by
    simp [comp] at hc
    subst hc
    exact wp_skip ⟨st, h, hat⟩
  | .region id ops draw, mc, hc, M, st, a, w, h, hat => by
    cases draw with
    | false =>
      simp only [comp] at hc
      split at hc <;> simp at hc
      rename_i ms hms
      subst hc
      refine wp_region ?_
      have := mops_seq (P := P) (G := G) (B := B) (Φ0 := Φ0) (Z0 := Z0) (w0 := w0) (ops := ops) (M := M) ops.toList 0 ms rfl hms st a w h hat
      rw [List.range_eq_range']
      simpa using this
    | true =>
      have hc' := hc
      simp only [comp] at hc
      split at hc <;> try (simp at hc; done)
      simp only [if_true] at hc
      split at hc <;> simp at hc
      rw [← hc] at hc' h
      exact hD hc' h hat
  | .seq x y, mc, hc, M, st, a, w, h, hat => by
    simp only [comp] at hc
    split at hc <;> simp at hc
    rename_i mx my hx hy
    subst hc
    refine wp_seq ?_
    refine wp_mono (mwp_sound hD x mx hx _ st a w h hat) ?_
    rintro e a' w' ⟨st', hM, hat'⟩
    cases e with
    | normal => exact mwp_sound hD y my hy M st' a' w' hM hat'
    | exit id => exact ⟨st', hM, hat'⟩
    | goto l => exact ⟨st', hM, hat'⟩
    | ret => exact ⟨st', hM, hat'⟩
    | panic ch => exact ⟨st', hM, hat'⟩
    | outgrown => exact ⟨st', hM, hat'⟩
  | .cond c x y, mc, hc, M, st, a, w, h, hat => by
    simp only [comp] at hc
    split at hc <;> simp at hc
    rename_i c' mx my hc' hx hy
    subst hc
    have h0 := hat
    obtain ⟨Φ, Z, hrel, hf, hev, hsz, hdf⟩ := hat
    simp only [mwp, condK] at h
    split at h
    · rename_i b hb
      have hv := ev_sound (x := c) hrel.glob hf hc'
      rw [hb] at hv
      have hv' := hv.bool_inv
      exact wp_cond_split hv' (fun ht => mwp_sound hD x mx hx M st a w (h.1 ht) h0) (fun ht => mwp_sound hD y my hy M st a w (h.2 ht) h0)
    · exact h.elim
  | .block id c, mc, hc, M, st, a, w, h, hat => by
    simp only [comp, Option.map_eq_some_iff] at hc
    obtain ⟨mx, hx, rfl⟩ := hc
    refine wp_block ?_
    refine wp_mono (mwp_sound hD c mx hx _ st a w h hat) ?_
    rintro e a' w' ⟨st', hM, hat'⟩
    cases e with
    | exit id' =>
      simp only [blockK] at hM
      simp only [Exit.inBlock]
      split
      · rename_i he
        rw [if_pos he] at hM
        exact ⟨st', hM, hat'⟩
      · rename_i he
        rw [if_neg he] at hM
        exact ⟨st', hM, hat'⟩
    | normal => exact ⟨st', hM, hat'⟩
    | goto l => exact ⟨st', hM, hat'⟩
    | ret => exact ⟨st', hM, hat'⟩
    | panic ch => exact ⟨st', hM, hat'⟩
    | outgrown => exact ⟨st', hM, hat'⟩
  | .loop c, mc, hc, M, st, a, w, h, hat => by
    simp only [comp, Option.map_eq_some_iff] at hc
    obtain ⟨mx, hx, rfl⟩ := hc
    obtain ⟨I, ⟨n, hI⟩, hround⟩ := h
    refine wp_loop_ghost (fun n a w => ∃ st, I n st ∧ At G B nt Φ0 Z0 w0 st a w) n ⟨st, hI, hat⟩ ?_
    rintro n a w ⟨st, hI, hat⟩
    refine wp_mono (mwp_sound hD c mx hx _ st a w (hround n st hI) hat) ?_
    rintro e a' w' ⟨st', hM, hat'⟩
    cases e with
    | normal =>
      obtain ⟨n', hlt, hI'⟩ := hM
      exact ⟨n', hlt, st', hI', hat'⟩
    | exit id => exact ⟨st', hM, hat'⟩
    | goto l => exact ⟨st', hM, hat'⟩
    | ret => exact ⟨st', hM, hat'⟩
    | panic ch => exact ⟨st', hM, hat'⟩
    | outgrown => exact ⟨st', hM, hat'⟩
  | .exit id, mc, hc, M, st, a, w, h, hat => by
    simp [comp] at hc
    subst hc
    exact wp_exit ⟨st, h, hat⟩
  | .scope c, mc, hc, M, st, a, w, h, hat => by
    simp only [comp, Option.map_eq_some_iff] at hc
    obtain ⟨mx, hx, rfl⟩ := hc
    refine wp_scope_straight ?_
    refine wp_mono (mwp_sound hD c mx hx _ st a w h hat) ?_
    rintro e a' w' ⟨st', hM, hat'⟩
    cases e with
    | goto l => exact hM.elim
    | exit id => exact ⟨st', hM, hat'⟩
    | normal => exact ⟨st', hM, hat'⟩
    | ret => exact ⟨st', hM, hat'⟩
    | panic ch => exact ⟨st', hM, hat'⟩
    | outgrown => exact ⟨st', hM, hat'⟩
  | .label l, mc, hc, M, st, a, w, h, hat => by
    simp [comp] at hc
    subst hc
    exact wp_label ⟨st, h, hat⟩
  | .goto l, mc, hc, M, st, a, w, h, hat => by
    simp [comp] at hc
    subst hc
    exact h.elim
  | .ret, mc, hc, M, st, a, w, h, hat => by
    simp [comp] at hc
    subst hc
    exact wp_ret ⟨st, h, hat⟩
  | .rangeFunc .., mc, hc, M, st, a, w, h, hat => by
    simp [comp] at hc
    subst hc
    exact h.elim
  | .refuse _, mc, hc, M, st, a, w, h, hat => by
    simp [comp] at hc
    subst hc
    exact h.elim

end
end Go.MW
