/- A row's arguments: what they read as, as abstract values; and a row's run. -/
import Derived.Test.YtphbhoggcddgmaaDoorMwFn
import Derived.ProofKit
import Derived.OpenShut
import Derived.ChangeOld
import Derived.SizedLaws
namespace Go.MW
open Go Go.RowKit Go.ChangeShapes Go.WideShapes Go.ChangeAt
set_option linter.unusedVariables false
set_option linter.unusedSimpArgs false

/-- A value from its cells. -/
def mkV (P : Program) (t : TypeId) (cs : List V) : V :=
  match P.underlying t with
  | some (.struct _) => .agg cs
  | _ => cs.getD 0 .junk

def TypFs (p : TypeId → List V → Prop) : List Field → List V → Prop
  | [], vs => vs = []
  | f :: fs, vs => ∃ a b, vs = a ++ b ∧ p f.type a ∧ TypFs p fs b

/-- Cells of a value of a type; no text and no slice is longer than M. -/
def TypN (P : Program) (M : Nat) : Nat → TypeId → List V → Prop
  | 0, _, _ => False
  | n + 1, t, vs => match P.underlying t with
    | some .bool => ∃ b, vs = [.bool b]
    | some (.int k) => ∃ m, vs = [.int k m] ∧ (Lit.int k m).wf = true
    | some .string => ∃ s, vs = [.str s] ∧ s.length ≤ M
    | some (.slice e) => vs = [.nils] ∨ ∃ xs, vs = [.vs xs] ∧ xs.length ≤ M ∧ ∀ x ∈ xs, ∃ cs, x = mkV P e cs ∧ TypN P M n e cs
    | some (.struct fs) => TypFs (TypN P M n) fs.toList vs
    | _ => False

/-- A value of a type. -/
def Typ (P : Program) (M : Nat) (t : TypeId) (v : V) : Prop := ∃ n cs, v = mkV P t cs ∧ TypN P M n t cs

/-- Fields that lie one behind the other. -/
def laidFs (P : Program) : Nat → List Field → Option Nat
  | off, [] => some off
  | off, f :: fs => if f.offset = off then laidFs P (off + P.cellsOf f.type) fs else none

/-- Types that are read here. -/
def okT (P : Program) : Nat → TypeId → Bool
  | 0, _ => false
  | n + 1, t => match P.underlying t with
    | some .bool | some (.int _) | some .string => true
    | some (.slice e) => P.cellsOf e != 0 && okT P n e
    | some (.struct fs) => laidFs P 0 fs.toList == some (P.cellsOf t) && fs.toList.all fun f => okT P n f.type
    | _ => false

/-- A measure that bounds lengths. -/
structure Meas {H : Type} (μ : DataW H → Nat) : Prop where
  str : ∀ bs, bs.length ≤ μ (.lit (.string bs))
  len : ∀ es sp, es.length ≤ μ (.slice es sp)
  el : ∀ es sp, ∀ e ∈ es, μ e ≤ μ (.slice es sp)
  part : ∀ ps, ∀ p ∈ ps, μ p ≤ μ (.agg ps)

section
variable {P : Program} {H : Type} {enc : TypeId × Value → H} {w : World} {spare : Nat → Bool}

/-- Cells that are free values, and stand so. -/
structure Cs (w : World) (vs : List V) (cs : List Value) : Prop where
  len : vs.length = cs.length
  vr : ∀ i, i < vs.length → VR (fun _ => none) (fun r => r < w.heap.size) w (vs.getD i .junk) (cs.getD i undef)
  free : ∀ i, i < vs.length → Free true (vs.getD i .junk)

theorem Cs.append {vs vs' : List V} {cs cs' : List Value} (h : Cs w vs cs) (k : Cs w vs' cs') : Cs w (vs ++ vs') (cs ++ cs') := by
  refine ⟨by simp [h.len, k.len], fun i hi => ?_, fun i hi => ?_⟩
  · by_cases h1 : i < vs.length
    · rw [getD_left h1]
      have := h.vr i h1
      simpa [List.getD_eq_getElem?_getD, List.getElem?_append_left (show i < cs.length by rw [← h.len]; exact h1)] using this
    · rw [getD_right (by omega)]
      have := k.vr (i - vs.length) (by simp at hi; omega)
      simpa [List.getD_eq_getElem?_getD, List.getElem?_append_right (show cs.length ≤ i by rw [← h.len]; omega), h.len] using this
  · by_cases h1 : i < vs.length
    · rw [getD_left h1]; exact h.free i h1
    · rw [getD_right (by omega)]; exact k.free _ (by simp at hi; omega)

theorem Cs.one {v : V} {c : Value} (h : VR (fun _ => none) (fun r => r < w.heap.size) w v c) (hf : Free true v) : Cs w [v] [c] :=
  ⟨rfl, fun i hi => by obtain rfl : i = 0 := (by simpa using hi); exact h, fun i hi => by obtain rfl : i = 0 := (by simpa using hi); exact hf⟩

theorem mapM_some {α β : Type} {g : α → Option β} : ∀ {l : List α} {r : List β}, l.mapM g = some r → r.length = l.length ∧ ∀ (i : Nat) (x : α), l[i]? = some x → ∃ y, g x = some y ∧ r[i]? = some y
  | [], r, h => by simp at h; subst h; simp
  | x :: l, r, h => by
    simp only [List.mapM_cons, Option.bind_eq_bind, Option.pure_def] at h
    cases hx : g x with
    | none => simp [hx] at h
    | some y =>
      cases hl : l.mapM g with
      | none => simp [hx, hl] at h
      | some ys =>
        simp [hx, hl] at h
        subst h
        obtain ⟨h1, h2⟩ := mapM_some hl
        refine ⟨by simp [h1], fun i z hz => ?_⟩
        cases i with
        | zero => simp at hz; subst hz; exact ⟨y, hx, rfl⟩
        | succ i => simpa using h2 i z (by simpa using hz)

theorem cells_spec {base n : Nat} {a : Addr} {cs : List Value} (h : w.cells? base a n = some cs) : cs.length = n ∧ ∀ i, i < n → w.cell? (a.add i) = some (cs.getD i undef) := by
  unfold World.cells? at h
  split at h
  · obtain ⟨h1, h2⟩ := mapM_some h
    refine ⟨by simpa using h1, fun i hi => ?_⟩
    obtain ⟨y, h3, h4⟩ := h2 i i (by simp [hi])
    rw [h3, List.getD_eq_getElem?_getD, h4]
    rfl
  · cases h

theorem cell_spot {a : Addr} {v : Value} (h : w.cell? a = some v) : a.spot = none ∧ a.block < w.heap.size := by
  unfold World.cell? at h
  split at h
  · rename_i c t fz hb
    split at h
    · cases h
    · rename_i hs
      exact ⟨by simpa using hs, (Array.getElem?_eq_some_iff.1 hb).1⟩
  · cases h

theorem add_add (a : Addr) (i j : Nat) (hs : a.spot = none) : (a.add i).add j = ⟨a.block, a.off + (i + j), none⟩ := by
  rw [add_eq hs, add_eq rfl]
  simp [Nat.add_assoc]

theorem mkV_cells {M n : Nat} {t : TypeId} {cs : List V} (h : TypN P M n t cs) : (mkV P t cs).cells = cs := by
  cases n with
  | zero => exact h.elim
  | succ n =>
    unfold TypN at h
    unfold mkV
    split at h
    · obtain ⟨b, rfl⟩ := h; simp [*, V.cells]
    · obtain ⟨m, rfl, _⟩ := h; simp [*, V.cells]
    · obtain ⟨s, rfl, _⟩ := h; simp [*, V.cells]
    · rcases h with rfl | ⟨xs, rfl, _⟩ <;> simp [*, V.cells]
    · simp [*, V.cells]
    · exact h.elim

theorem fs_typ {M n fuel : Nat} {held : Bool} {base : Nat} {μ : DataW H → Nat} {cs : List Value} (hb : ∀ (t : TypeId) (cs : List Value) (x : DataW H × List MemPlace), okT P n t = true → DataW.trod enc P w base spare held fuel t cs = some x → (M = maxLen ∨ Meas μ ∧ μ x.1 ≤ M) → cs.length = P.cellsOf t → ∃ vs, TypN P M n t vs ∧ Cs w vs cs) :
    ∀ (fs : List Field) (off e : Nat), laidFs P off fs = some e → (∀ f ∈ fs, okT P n f.type = true ∧ ∃ x, DataW.trod enc P w base spare held fuel f.type ((cs.drop f.offset).take (P.cellsOf f.type)) = some x ∧ (M = maxLen ∨ Meas μ ∧ μ x.1 ≤ M)) → e ≤ cs.length →
      off ≤ e ∧ ∃ vs, TypFs (TypN P M n) fs vs ∧ Cs w vs ((cs.drop off).take (e - off))
  | [], off, e, hl, _, _ => by
    simp [laidFs] at hl
    subst hl
    exact ⟨Nat.le_refl _, [], rfl, by simp, by simp, by simp⟩
  | f :: fs, off, e, hl, hf, he => by
    simp only [laidFs] at hl
    split at hl <;> try (simp at hl; done)
    rename_i hoff
    obtain ⟨hle, vs, h1, h2⟩ := fs_typ hb fs _ e hl (fun g hg => hf g (List.mem_cons_of_mem _ hg)) he
    obtain ⟨hok, x, hx, hm⟩ := hf f List.mem_cons_self
    obtain ⟨ws, h3, h4⟩ := hb f.type _ x hok hx hm (by simp; omega)
    refine ⟨by omega, ws ++ vs, ⟨ws, vs, rfl, h3, h1⟩, ?_⟩
    have := h4.append h2
    rw [hoff] at this
    have e1 : (cs.drop off).take (e - off) = (cs.drop off).take (P.cellsOf f.type) ++ (cs.drop (off + P.cellsOf f.type)).take (e - (off + P.cellsOf f.type)) := by
      rw [← List.drop_drop, show e - off = P.cellsOf f.type + (e - (off + P.cellsOf f.type)) by omega, List.take_add]
    rw [e1]
    exact this

theorem trod_typ {M : Nat} {held : Bool} {base : Nat} {μ : DataW H → Nat} : ∀ (n fuel : Nat) (t : TypeId) (cs : List Value) (x : DataW H × List MemPlace), okT P n t = true → DataW.trod enc P w base spare held fuel t cs = some x → (M = maxLen ∨ Meas μ ∧ μ x.1 ≤ M) → cs.length = P.cellsOf t →
    ∃ vs, TypN P M n t vs ∧ Cs w vs cs
  | 0, fuel, t, cs, x, hok, _, _, _ => by simp [okT] at hok
  | n + 1, fuel, t, cs, x, hok, h, hm, hl => by
    unfold okT at hok
    split at hok
    · rename_i hu
      obtain ⟨b, rfl, rfl⟩ := DataW.trod_bool hu h
      exact ⟨[.bool b], by simp [TypN, hu], .one (.bool b) (.bool b)⟩
    · rename_i k hu
      obtain ⟨m, rfl, rfl, hw⟩ := DataW.trod_int hu h
      exact ⟨[.int k m], by simp only [TypN, hu]; exact ⟨m, rfl, hw⟩, .one (.int k m) (.int k m)⟩
    · rename_i hu
      obtain ⟨s, rfl, rfl, hs⟩ := DataW.trod_string hu h
      refine ⟨[.str s.data.toList], ?_, ?_⟩
      · simp only [TypN, hu]
        refine ⟨_, rfl, ?_⟩
        have hsz : s.data.toList.length = s.size := Array.length_toList
        rcases hm with rfl | ⟨hM, hm⟩
        · omega
        · exact Nat.le_trans (hM.str _) hm
      · have := VR.str (Φ := fun _ => none) (Z := fun r => r < w.heap.size) (w := w) s.data.toList
        rw [Array.toArray_toList] at this
        exact .one this (.str _)
    · rename_i e hu
      rw [Bool.and_eq_true, bne_iff_ne] at hok
      obtain ⟨hce, hok⟩ := hok
      rcases DataW.trod_slice hu h with ⟨rfl, rfl⟩ | ⟨a, len, cap, elems, rest, fuel', rfl, rfl, rfl, _, hlc, hcm, hel, helem, _⟩
      · exact ⟨[.nils], by simp [TypN, hu], .one .nils .nils⟩
      · have hexp : ∀ i, i < len → ∃ (y : DataW H × List MemPlace) (ec : List Value) (vs : List V), elems[i]? = some y ∧ w.cells? base (a.add (i * P.cellsOf e)) (P.cellsOf e) = some ec ∧ TypN P M n e vs ∧ Cs w vs ec := by
          intro i hi
          have h1 := helem i hi
          have h2 : elems[i]? = some (elems[i]'(by omega)) := List.getElem?_eq_getElem (by omega)
          rw [h2] at h1
          cases hc : w.cells? base (a.add (i * P.cellsOf e)) (P.cellsOf e) with
          | none => rw [hc] at h1; simp at h1
          | some ec =>
            rw [hc] at h1
            simp only [Option.bind_some] at h1
            have hec := (cells_spec hc).1
            have hmem : (elems[i]'(by omega)).1 ∈ elems.map (·.1) := List.mem_map.2 ⟨_, List.getElem_mem _, rfl⟩
            obtain ⟨vs, h3, h4⟩ := trod_typ n fuel' e ec _ hok h1 (hm.imp id fun ⟨hM, hm⟩ => ⟨hM, Nat.le_trans (hM.el _ _ _ hmem) hm⟩) hec
            exact ⟨_, ec, vs, h2, rfl, h3, h4⟩
        have hch : ∃ F : Nat → List V, ∀ i, i < len → ∃ ec : List Value, w.cells? base (a.add (i * P.cellsOf e)) (P.cellsOf e) = some ec ∧ TypN P M n e (F i) ∧ Cs w (F i) ec := by
          refine ⟨fun i => if hi : i < len then Classical.choose (Classical.choose_spec (Classical.choose_spec (hexp i hi))) else [], fun i hi => ?_⟩
          have := Classical.choose_spec (Classical.choose_spec (Classical.choose_spec (hexp i hi)))
          simp only [hi, dif_pos]
          exact ⟨_, this.2.1, this.2.2.1, this.2.2.2⟩
        obtain ⟨F, hF⟩ := hch
        have hxs : ∀ i, i < len → ((List.range len).map fun i => mkV P e (F i)).getD i .junk = mkV P e (F i) := by
          intro i hi
          simp [List.getD_eq_getElem?_getD, hi]
        have hlen : ((List.range len).map fun i => mkV P e (F i)).length = len := by simp
        refine ⟨[.vs ((List.range len).map fun i => mkV P e (F i))], ?_, ?_⟩
        · simp only [TypN, hu]
          refine .inr ⟨_, rfl, ?_, fun y hy => ?_⟩
          · rw [hlen]
            rcases hm with rfl | ⟨hM, hm⟩
            · omega
            · refine Nat.le_trans ?_ (Nat.le_trans (hM.len _ _) hm)
              simp [hel]
          · simp only [List.mem_map, List.mem_range] at hy
            obtain ⟨i, hi, rfl⟩ := hy
            obtain ⟨ec, _, h2, _⟩ := hF i hi
            exact ⟨_, rfl, h2⟩
        · have hspot : 0 < len → a.spot = none ∧ a.block < w.heap.size := by
            intro h0
            obtain ⟨ec, h1, _⟩ := hF 0 h0
            have h2 := (cells_spec h1).2 0 (by omega)
            rw [Nat.zero_mul] at h2
            exact cell_spot h2
          have hcells : ∀ i, i < len → (F i).length = P.cellsOf e := by
            intro i hi
            obtain ⟨ec, h1, _, h3⟩ := hF i hi
            rw [h3.len, (cells_spec h1).1]
          have hmk : ∀ i, i < len → (mkV P e (F i)).cells = F i := fun i hi => by
            obtain ⟨ec, _, h2, _⟩ := hF i hi
            exact mkV_cells h2
          refine .one ?_ ?_
          · rcases Nat.eq_zero_or_pos len with h0 | h0
            · subst h0
              exact .vs0 _ _
            · have := VR.vs (Φ := fun _ => none) (Z := fun r => r < w.heap.size) (w := w) ((List.range len).map fun i => mkV P e (F i)) a (P.cellsOf e) cap (fun i j => (w.cell? ⟨a.block, a.off + (i * P.cellsOf e + j), none⟩).getD undef) (hspot h0).1 (hspot h0).2 (by omega)
                (fun i hi => by rw [hlen] at hi; rw [hxs i hi, hmk i hi, hcells i hi]) (fun i j hi hj => by
                  rw [hlen] at hi
                  obtain ⟨ec, h1, _⟩ := hF i hi
                  have := (cells_spec h1).2 j hj
                  rw [add_add _ _ _ (hspot h0).1] at this
                  rw [this]; rfl) (fun i j hi hj => by
                  rw [hlen] at hi
                  rw [hxs i hi, hmk i hi]
                  obtain ⟨ec, h1, _, h3⟩ := hF i hi
                  have := (cells_spec h1).2 j hj
                  rw [add_add _ _ _ (hspot h0).1] at this
                  rw [this]
                  exact h3.vr j (by rw [hcells i hi]; exact hj))
              rw [hlen] at this
              exact this
          · refine .vs rfl fun i j hi hj => ?_
            rw [hlen] at hi
            rw [hxs i hi, hmk i hi] at hj ⊢
            obtain ⟨ec, h1, _, h3⟩ := hF i hi
            exact h3.free j hj
    · rename_i fs hu
      rw [Bool.and_eq_true, beq_iff_eq, List.all_eq_true] at hok
      obtain ⟨hlaid, hall⟩ := hok
      obtain ⟨xs, fuel', rfl, rfl, _, hxl, hxs⟩ := DataW.trod_struct hu h
      obtain ⟨_, vs, h1, h2⟩ := fs_typ (M := M) (n := n) (fuel := fuel') (μ := μ) (cs := cs) (fun t cs x a b c d => trod_typ n fuel' t cs x a b c d) fs.toList 0 _ hlaid (fun f hf => by
        refine ⟨hall f hf, ?_⟩
        obtain ⟨i, hi, rfl⟩ := List.getElem_of_mem hf
        have hi' : i < fs.size := by simpa using hi
        have := hxs i fs[i] (Array.getElem?_eq_getElem hi')
        have hix : i < xs.length := by omega
        rw [List.getElem?_eq_getElem hix] at this
        refine ⟨xs[i], by simpa using this, hm.imp id fun ⟨hM, hm⟩ => ⟨hM, Nat.le_trans (hM.part _ _ (List.mem_map.2 ⟨_, List.getElem_mem _, rfl⟩)) hm⟩⟩) (by omega)
      refine ⟨vs, by simpa only [TypN, hu] using h1, ?_⟩
      have e1 : (cs.drop 0).take (P.cellsOf t - 0) = cs := by
        rw [List.drop_zero, Nat.sub_zero, ← hl, List.take_length]
      rwa [e1] at h2
    · cases hok

end
end Go.MW
