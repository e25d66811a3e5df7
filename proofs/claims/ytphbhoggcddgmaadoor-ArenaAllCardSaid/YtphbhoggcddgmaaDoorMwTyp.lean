/- Arguments: slices of structs; variables that the row lists. -/
import Derived.Test.YtphbhoggcddgmaaDoorMwEl
import Derived.LaidMore
namespace Go.MW
open Go Go.RowKit Go.ChangeShapes Go.WideShapes Go.ChangeAt
set_option linter.unusedVariables false
set_option linter.unusedSimpArgs false

section
variable {P : Program} {M : Nat}

theorem typN_int {n : Nat} {t : TypeId} {k : IntKind} {vs : List V} (hu : P.underlying t = some (.int k)) (h : TypN P M n t vs) : ∃ m : Int, vs = [.int k m] ∧ k.min ≤ m ∧ m ≤ k.max := by
  cases n with
  | zero => exact h.elim
  | succ n =>
    simp only [TypN, hu] at h
    obtain ⟨m, rfl, hw⟩ := h
    exact ⟨m, rfl, by simpa [Lit.wf] using hw⟩
theorem typN_bool {n : Nat} {t : TypeId} {vs : List V} (hu : P.underlying t = some .bool) (h : TypN P M n t vs) : ∃ b, vs = [.bool b] := by
  cases n with
  | zero => exact h.elim
  | succ n => simpa only [TypN, hu] using h
theorem typN_str {n : Nat} {t : TypeId} {vs : List V} (hu : P.underlying t = some .string) (h : TypN P M n t vs) : ∃ s, vs = [.str s] ∧ s.length ≤ M := by
  cases n with
  | zero => exact h.elim
  | succ n => simpa only [TypN, hu] using h
theorem typN_fs {n : Nat} {t : TypeId} {fs : Array Field} {vs : List V} (hu : P.underlying t = some (.struct fs)) (h : TypN P M n t vs) : ∃ m, TypFs (TypN P M m) fs.toList vs := by
  cases n with
  | zero => exact h.elim
  | succ n => exact ⟨n, by simpa only [TypN, hu] using h⟩
theorem typFs_cons {p : TypeId → List V → Prop} {f : Field} {fs : List Field} {vs : List V} (h : TypFs p (f :: fs) vs) : ∃ a b, vs = a ++ b ∧ p f.type a ∧ TypFs p fs b := h
theorem typFs_nil {p : TypeId → List V → Prop} {vs : List V} (h : TypFs p [] vs) : vs = [] := h

/-- A slice of elements of one kind. -/
theorem typN_list {α : Type} {e : El α} {Q : α → Prop} {n : Nat} {t te : TypeId} {vs : List V} (hu : P.underlying t = some (.slice te)) (hel : ∀ m cs, TypN P M m te cs → ∃ a, mkV P te cs = e.f a ∧ Q a) (h : TypN P M n t vs) :
    ∃ v l, vs = [v] ∧ IsE e v l ∧ (∀ a ∈ l, Q a) ∧ l.length ≤ M := by
  cases n with
  | zero => exact h.elim
  | succ n =>
    simp only [TypN, hu] at h
    rcases h with rfl | ⟨xs, rfl, hl, hx⟩
    · exact ⟨_, [], rfl, isE_nil, by simp, by simp⟩
    · have : ∃ l : List α, xs = e.vs l ∧ ∀ a ∈ l, Q a := by
        clear hl
        induction xs with
        | nil => exact ⟨[], rfl, by simp⟩
        | cons x xs ih =>
          obtain ⟨l, rfl, hl⟩ := ih fun y hy => hx y (by simp [hy])
          obtain ⟨cs, hxe, hc⟩ := hx x (by simp)
          obtain ⟨a, ha, hq⟩ := hel n cs hc
          rw [hxe, ha]
          refine ⟨a :: l, rfl, fun b hb => ?_⟩
          rcases List.mem_cons.1 hb with rfl | hb
          · exact hq
          · exact hl b hb
      obtain ⟨l, rfl, hq⟩ := this
      exact ⟨_, l, rfl, isE_vs l, hq, by simpa [El.vs_length] using hl⟩

theorem typ_list {α : Type} {e : El α} {Q : α → Prop} {t te : TypeId} {v : V} (hu : P.underlying t = some (.slice te)) (hel : ∀ m cs, TypN P M m te cs → ∃ a, mkV P te cs = e.f a ∧ Q a) (h : Typ P M t v) : ∃ l, IsE e v l ∧ (∀ a ∈ l, Q a) ∧ l.length ≤ M := by
  obtain ⟨n, cs, rfl, h⟩ := h
  obtain ⟨v, l, rfl, h1, h2, h3⟩ := typN_list hu hel h
  have : mkV P t [v] = v := by simp [mkV, hu]
  rw [this]
  exact ⟨l, h1, h2, h3⟩

theorem typ_struct {t : TypeId} {fs : Array Field} {v : V} (hu : P.underlying t = some (.struct fs)) (h : Typ P M t v) : ∃ m vs, v = .agg vs ∧ TypFs (TypN P M m) fs.toList vs := by
  obtain ⟨n, cs, rfl, h⟩ := h
  obtain ⟨m, h⟩ := typN_fs hu h
  exact ⟨m, cs, by simp [mkV, hu], h⟩

theorem u64_nat {m : Int} (h : IntKind.u64.min ≤ m ∧ m ≤ IntKind.u64.max) : ∃ n : Nat, m = n ∧ n < 2 ^ 64 := by
  simp [IntKind.min, IntKind.max, IntKind.signed, IntKind.bits] at h
  exact ⟨m.toNat, by omega, by omega⟩
theorem u8_nat {m : Int} (h : IntKind.u8.min ≤ m ∧ m ≤ IntKind.u8.max) : ∃ n : Nat, m = n ∧ n < 256 := by
  simp [IntKind.min, IntKind.max, IntKind.signed, IntKind.bits] at h
  exact ⟨m.toNat, by omega, by omega⟩

/-- A variable that holds an array of numbers, as the row lists it. -/
theorem glob_ints {w : World} {nm : String} {g n fuel : Nat} {k : IntKind} {t e : TypeId} {cs : Array Value} {vals : List Int} {sp : Nat → Bool} {p : List MemPlace} (hg : P.globalNamed nm = some g) (hv : w.var? P nm = some cs)
    (ht : P.underlying t = some (.array n e)) (he : P.underlying e = some (.int k)) (hc : P.cellsOf e = 1) (hd : DataW.trod (fun _ => ()) P w 0 sp false fuel t cs.toList = some (.agg (vals.map fun v => .lit (.int k v)), p)) :
    g < w.heap.size ∧ ∀ j, j < vals.length → w.cell? ⟨g, j, none⟩ = some (.int k (vals.getD j 0)) := by
  have hlt : g < w.heap.size := by
    unfold World.var? at hv
    rw [hg, Option.bind_some] at hv
    rcases Nat.lt_or_ge g w.heap.size with h | h
    · exact h
    · rw [Array.getElem?_eq_none h] at hv; simp at hv
  refine ⟨hlt, fun j hj => ?_⟩
  obtain ⟨xs, m, rfl, hx, hlen, hn, hel⟩ := DataW.trod_array ht hd
  simp only [Prod.mk.injEq, DataW.agg.injEq] at hx
  have hl : vals.length = xs.length := by
    have := congrArg List.length hx.1
    simpa using this
  have hj' : j < n := by omega
  have h1 := hel j hj'
  rw [hc, Nat.mul_one, List.getElem?_eq_getElem (by omega)] at h1
  obtain ⟨m', e1, e2, _⟩ := DataW.trod_int he h1
  have h2 : (xs.map (·.1))[j]? = some (.lit (.int k (vals.getD j 0))) := by
    rw [← hx.1]
    simp [List.getD_eq_getElem?_getD, hj]
  rw [List.getElem?_map, List.getElem?_eq_getElem (show j < xs.length by omega), e2] at h2
  simp only [Option.map_some, Option.some.injEq, DataW.lit.injEq, Lit.int.injEq, true_and] at h2
  rw [World.var?_cell hg hv]
  have h3 : (cs.toList.drop j).take 1 = [.int k m'] := e1
  have h4 := congrArg (·[0]?) h3
  simp only [List.getElem?_take, List.getElem?_drop] at h4
  rw [← h2]
  simpa using h4
end

end Go.MW
