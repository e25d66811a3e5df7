/- Slices of elements of one kind: a list of data stands for them. -/
import Derived.Test.YtphbhoggcddgmaaDoorMwAuto
namespace Go.MW
open Go
set_option linter.unusedVariables false
set_option linter.unusedSimpArgs false

/-- How elements are laid. 'im': they lead to memory that nothing writes. -/
structure El (α : Type) where
  sz : Nat
  f : α → V
  d : α
  im : Bool
  good : ∀ a, Good sz (f a)
  free : ∀ a j, j < sz → Free im ((f a).cells.getD j .junk)

section
variable {α : Type} {e : El α}

def El.vs (e : El α) (l : List α) : List V := l.map e.f
theorem El.vs_nil : e.vs [] = [] := rfl
theorem El.vs_cons (a : α) (l : List α) : e.vs (a :: l) = e.f a :: e.vs l := rfl
theorem El.vs_length (l : List α) : (e.vs l).length = l.length := by simp [El.vs]
theorem El.vs_getD {l : List α} {i : Nat} (h : i < l.length) : (e.vs l).getD i .junk = e.f (l.getD i e.d) := by simp [El.vs, List.getD_eq_getElem?_getD, h]
theorem El.vs_take (l : List α) (n : Nat) : (e.vs l).take n = e.vs (l.take n) := by simp [El.vs]
theorem El.vs_drop (l : List α) (n : Nat) : (e.vs l).drop n = e.vs (l.drop n) := by simp [El.vs]
theorem El.vs_append (l m : List α) : e.vs l ++ e.vs m = e.vs (l ++ m) := by simp [El.vs]
theorem El.vs_set (l : List α) (i : Nat) (a : α) : (e.vs l).set i (e.f a) = e.vs (l.set i a) := by simp [El.vs, List.map_set]
theorem El.vs_goods (l : List α) : Goods e.sz (e.vs l) := by
  intro y hy
  simp only [El.vs, List.mem_map] at hy
  obtain ⟨a, _, rfl⟩ := hy
  exact e.good a
theorem El.vs_eq_nil {l : List α} : e.vs l = [] ↔ l = [] := by simp [El.vs]
theorem El.vs_cells (l : List α) {n : Nat} (hn : n = e.sz) : (∀ y ∈ e.vs l, y.cells.length = n) = True := by
  subst hn
  exact eq_true fun y hy => (El.vs_goods l y hy).1
theorem El.vs_free {im : Bool} (l : List α) (hm : e.im = true → im = true) : ∀ i j, i < (e.vs l).length → j < ((e.vs l).getD i .junk).cells.length → Free im (((e.vs l).getD i .junk).cells.getD j .junk) := by
  intro i j hi hj
  rw [El.vs_length] at hi
  rw [El.vs_getD hi] at hj ⊢
  rw [(e.good _).1] at hj
  have := e.free (l.getD i e.d) j hj
  cases hi : im with
  | true => exact this.of
  | false =>
    cases he : e.im with
    | true => rw [hm he] at hi; cases hi
    | false => rw [he] at this; exact this
theorem El.free_vs (l : List α) : Free true (.vs (e.vs l)) := .vs rfl (El.vs_free l fun _ => rfl)

/-- A slice of such elements, nil or not. -/
def IsE (e : El α) (v : V) (l : List α) : Prop := (v = .nils ∧ l = []) ∨ v = .vs (e.vs l)
theorem isE_vs (l : List α) : IsE e (.vs (e.vs l)) l := .inr rfl
theorem isE_nil : IsE e .nils ([] : List α) := .inl ⟨rfl, rfl⟩
theorem IsE.free {v : V} {l : List α} (h : IsE e v l) : Free true v := by
  rcases h with ⟨rfl, _⟩ | rfl
  · exact .nils
  · exact El.free_vs l
theorem lenK_isE {v : V} {l : List α} (h : IsE e v l) {H : List Blk} {K : V → Prop} : lenK 1 H v K = K (.int .i64 l.length) := by
  rcases h with ⟨rfl, rfl⟩ | rfl
  · rfl
  · simp only [lenK, El.vs_length]
theorem iaK_isE {v : V} {l : List α} (h : IsE e v l) {H : List Blk} {k : IntKind} {n : Int} {sz : Nat} {K : V → Prop} (hs : sz = e.sz) (h0 : 0 ≤ n) (hn : n.toNat < l.length) : iaK H sz v (.int k n) K = K (.vp (e.f (l.getD n.toNat e.d)).cells) := by
  rcases h with ⟨rfl, rfl⟩ | rfl
  · simp at hn
  · simp only [iaK, El.vs_length, El.vs_getD hn, (e.good _).1]
    simp [h0, hn, hs]
theorem elemsK_isE {v : V} {l : List α} (h : IsE e v l) {H : List Blk} {K : List V → Prop} : elemsK H v K = K (e.vs l) := by
  rcases h with ⟨rfl, rfl⟩ | rfl <;> rfl
theorem nilq_isE {v : V} {l : List α} (h : IsE e v l) {neg : Bool} {K : V → Prop} : ∃ b : Bool, nilqK neg v K = K (.bool (bif neg then !b else b)) ∧ (b = true → v = .nils ∧ l = []) := by
  rcases h with ⟨rfl, rfl⟩ | rfl
  · exact ⟨true, by cases neg <;> rfl, fun _ => ⟨rfl, rfl⟩⟩
  · exact ⟨false, by cases neg <;> rfl, fun h => by cases h⟩

theorem El.cell_free {im : Bool} (a : α) (hm : e.im = true → im = true) {j : Nat} (hj : j < e.sz) : Free im ((e.f a).cells.getD j .junk) := by
  have := e.free a j hj
  cases hi : im with
  | true => exact this.of
  | false =>
    cases he : e.im with
    | true => rw [hm he] at hi; cases hi
    | false => rw [he] at this; exact this

/-- A row of such elements, frozen. -/
theorem frz_rowE {im : Bool} {H : List Blk} {b n len : Nat} {cap : Option Nat} {l : List α} {opn frz : Bool} {sz : Nat} (hs : sz = e.sz) (hm : e.im = true → im = true) (hH : getB H b = .row sz (e.vs l) opn frz) (hn : l.length = n) (hl : len = n) : Frz im H (.hs b n 0 0 len cap sz) (.vs (e.vs l)) := by
  subst hl hn hs
  refine .hs hH (El.vs_length l) (by omega) (El.vs_length l) (fun k hk => by rw [El.vs_getD hk]; exact (e.good _).1) fun k j hk hj => ?_
  rw [Nat.zero_add, El.vs_getD hk]
  exact .free (El.cell_free _ hm hj)
theorem frz_rowX {im : Bool} {H : List Blk} {b n len : Nat} {cap : Option Nat} {xs : List V} {l : List α} {opn frz : Bool} {sz : Nat} (hs : sz = e.sz) (hm : e.im = true → im = true) (hH : getB H b = .row sz xs opn frz) (hx : xs = e.vs l) (hn : l.length = n) (hl : len = n) : Frz im H (.hs b n 0 0 len cap sz) (.vs (e.vs l)) := by
  subst hx
  exact frz_rowE hs hm hH hn hl
theorem Own.isE {im : Bool} {H : List Blk} {v : V} {l : List α} {sz : Nat} (h : Own sz H v (e.vs l)) (hs : sz = e.sz) (hm : e.im = true → im = true) : ∃ v', IsE e v' l ∧ Frz im H v v' := by
  rcases h with ⟨rfl, h⟩ | ⟨b, cap, opn, rfl, hb, _⟩
  · exact ⟨.nils, .inl ⟨rfl, El.vs_eq_nil.1 h⟩, .free .nils⟩
  · rw [El.vs_length]
    exact ⟨_, .inr rfl, frz_rowE hs hm hb rfl rfl⟩
/-- The length of a slice of one's own. -/
theorem lenK_own {sz : Nat} {H H' : List Blk} {v : V} {xs : List V} (h : Own sz H v xs) {K : V → Prop} : lenK 1 H' v K = K (.int .i64 xs.length) := by
  rcases h with ⟨rfl, rfl⟩ | ⟨b, cap, opn, rfl, hb, _⟩ <;> rfl
end

theorem callvK_of {P : Program} {G : Nat → Option (List V)} {q : Bool} {f : Nat} {first cap args : List V} {H : List Blk} {K : V → List Blk → Prop} (h : (P.funcs[f]?).any (fun fn => fn.body.isSome && fn.name != "runtime.NumGoroutine") = true) :
    callvK P G q (.fn (.func f) first cap) args H K = callK P G q f (first ++ args ++ cap) H K := by
  simp only [callvK, h, true_and]

theorem callK_sim {P : Program} {G : Nat → Option (List V)} {f : Nat} {args : List V} {H H' : List Blk} {K : V → List Blk → Prop} {r : V} (h : Sim P G f args H r H') (hk : K r H') : callK P G false f args H K := by
  unfold callK
  exact ⟨r, H', h, hk⟩

theorem frz_tup3 {im : Bool} {H : List Blk} {a b c a' b' c' : V} (h : Frz im H a a') (h' : Frz im H b b') (h'' : Frz im H c c') : Frz im H (.tup [a, b, c]) (.tup [a', b', c']) := by
  refine .tup rfl fun i hi => ?_
  have : i = 0 ∨ i = 1 ∨ i = 2 := by simp at hi; omega
  rcases this with rfl | rfl | rfl
  · exact h
  · exact h'
  · exact h''
theorem free_agg2 {im : Bool} {a b : V} (h : Free im a) (h' : Free im b) : Free im (.agg [a, b]) := by
  refine .agg fun i hi => ?_
  have : i = 0 ∨ i = 1 := by simp at hi; omega
  rcases this with rfl | rfl
  · exact h
  · exact h'

end Go.MW
