/- A row of the kind 'it returns true; its arguments read as they did', from what its function does on abstract values. -/
import Derived.Test.YtphbhoggcddgmaaDoorMwArg
namespace Go.MW
open Go Go.RowKit Go.ChangeShapes Go.WideShapes Go.ChangeAt
set_option linter.unusedVariables false
set_option linter.unusedSimpArgs false

def TypAll (P : Program) (M : Nat) : List TypeId → List V → Prop
  | [], [] => True
  | t :: ts, v :: vs => Typ P M t v ∧ TypAll P M ts vs
  | _, _ => False

/-- A type that an argument may have here. -/
def okA (P : Program) (n : Nat) (t : TypeId) : Bool :=
  okT P n t && (match P.underlying t with | some (.struct _) => true | _ => P.cellsOf t == 1) && P.readableRec t && Nat.blt t P.types.size

section
variable {P : Program} {H : Type} {enc : TypeId × Value → H} {W W' : World} {M : Nat} {μ : DataW H → Nat}

theorem value_open {n base : Nat} {t : TypeId} {v : Value} {d : DataW H} {ps : List MemPlace} {sp : Nat → Bool} (hok : okT P n t = true) (hc : (match P.underlying t with | some (.struct _) => true | _ => P.cellsOf t == 1) = true) (hw : Value.okWide P W .any base t v)
    (h : DataW.Trod enc P W 0 sp true t v d ps) (hm : M = maxLen ∨ Meas μ ∧ μ d ≤ M) : ∃ V, Typ P M t V ∧ VR (fun _ => none) (fun r => r < W.heap.size) W V v ∧ Free true V := by
  obtain ⟨fuel, hf⟩ := h
  by_cases hs : ∃ fs, P.underlying t = some (.struct fs)
  · obtain ⟨fs, hu⟩ := hs
    unfold Value.okWide at hw
    rw [hu] at hw
    obtain ⟨cs, rfl, hsz, _⟩ := hw
    obtain ⟨vs, h1, h2⟩ := trod_typ (M := M) (μ := μ) n fuel t _ _ hok hf hm (by simpa [Value.cells] using hsz)
    refine ⟨.agg vs, ⟨n, vs, by simp [mkV, hu], h1⟩, .agg _ _ ?_ fun i hi => ?_, .agg h2.free⟩
    · have := h2.len; simp [Value.cells] at this; omega
    · have := h2.vr i hi
      simpa [Value.cells, Array.getD_eq_getD_getElem?, List.getD_eq_getElem?_getD] using this
  · have hc1 : P.cellsOf t = 1 := by
      split at hc
      · rename_i fs hu; exact absurd ⟨fs, hu⟩ hs
      · simpa using hc
    have hone : v.cells = #[v] := by
      cases v <;> try rfl
      rename_i cs
      exfalso
      cases n with
      | zero => simp [okT] at hok
      | succ n =>
        unfold okT at hok
        split at hok
        · rename_i hu; simp [Value.okWide, hu, Cell.okWide, Cell.ok] at hw
        · rename_i hu; simp [Value.okWide, hu, Cell.okWide, Cell.ok] at hw
        · rename_i hu; simp [Value.okWide, hu, Cell.okWide, Cell.ok] at hw
        · rename_i hu; simp [Value.okWide, hu, Cell.okWide, Cell.ok] at hw
        · rename_i fs hu; exact hs ⟨fs, hu⟩
        · cases hok
    rw [hone] at hf
    obtain ⟨vs, h1, h2⟩ := trod_typ (M := M) (μ := μ) n fuel t _ _ hok hf hm (by simpa using hc1.symm)
    have hl : vs.length = 1 := by simpa using h2.len
    obtain ⟨x, rfl⟩ := List.length_eq_one_iff.1 hl
    refine ⟨x, ⟨n, [x], ?_, h1⟩, by simpa using h2.vr 0 (by simp), by simpa using h2.free 0 (by simp)⟩
    unfold mkV
    split
    · rename_i fs hu; exact absurd ⟨fs, hu⟩ hs
    · rfl

theorem args_open {n base : Nat} {sp : Nat → Bool} : ∀ (ts : List TypeId) (vs : List Value) (ds : List (DataW H)) (ps : List MemPlace), DataW.TrodAll enc P W 0 sp true ts vs ds ps → (∀ (j : Nat) t v, ts[j]? = some t → vs[j]? = some v → Value.okWide P W .any base t v) →
    ts.all (okA P n) = true → (M = maxLen ∨ Meas μ ∧ ∀ d ∈ ds, μ d ≤ M) → ∃ Vs, TypAll P M ts Vs ∧ Vs.length = vs.length ∧ ds.length = ts.length ∧ ∀ i, i < Vs.length → VR (fun _ => none) (fun r => r < W.heap.size) W (Vs.getD i .junk) (vs.getD i undef) ∧ Free true (Vs.getD i .junk)
  | [], [], [], ps, _, _, _, _ => ⟨[], trivial, rfl, rfl, by simp⟩
  | t :: ts, v :: vs, d :: ds, ps, h, hv, hok, hm => by
    obtain ⟨p, q, h1, h2, rfl⟩ := h
    simp only [List.all_cons, Bool.and_eq_true, okA] at hok
    obtain ⟨⟨⟨⟨h3, h4⟩, _⟩, _⟩, h6⟩ := hok
    obtain ⟨V0, g1, g2, g3⟩ := value_open (M := M) (μ := μ) h3 h4 (hv 0 t v rfl rfl) h1 (hm.imp id fun ⟨a, b⟩ => ⟨a, b d (by simp)⟩)
    obtain ⟨Vs, k1, k2, k3, k4⟩ := args_open ts vs ds q h2 (fun j t v a b => hv (j + 1) t v (by simpa using a) (by simpa using b)) (by simpa [okA] using h6) (hm.imp id fun ⟨a, b⟩ => ⟨a, fun d hd => b d (by simp [hd])⟩)
    refine ⟨V0 :: Vs, ⟨g1, k1⟩, by simp [k2], by simp [k3], fun i hi => ?_⟩
    cases i with
    | zero => exact ⟨g2, g3⟩
    | succ i => simpa using k4 i (by simpa using hi)
  | [], [], _ :: _, _, h, _, _, _ => h.elim
  | [], _ :: _, _, _, h, _, _, _ => h.elim
  | _ :: _, [], _, _, h, _, _, _ => h.elim
  | _ :: _, _ :: _, [], _, h, _, _, _ => h.elim

theorem args_stay {n : Nat} (hl : laidOutB P = true) (hb : Below W.heap.size W W') : ∀ (ts : List TypeId) (vs : List Value) (ds : List (DataW H)) (ps : List MemPlace), DataW.TrodAll enc P W 0 (fun _ => true) true ts vs ds ps → ts.all (okA P n) = true →
    DataW.TrodAll enc P W' 0 (fun b => decide (b < W.heap.size)) true ts vs ds ps
  | [], [], [], ps, h, _ => h
  | t :: ts, v :: vs, d :: ds, ps, h, hok => by
    obtain ⟨p, q, h1, h2, rfl⟩ := h
    simp only [List.all_cons, Bool.and_eq_true, okA] at hok
    obtain ⟨⟨⟨_, h5⟩, h5'⟩, h6⟩ := hok
    refine ⟨p, q, ?_, args_stay hl hb ts vs ds q h2 (by simpa [okA] using h6), rfl⟩
    refine Below.trod hl h5 (Nat.le_of_ble_eq_true h5') h1 hb ?_
    obtain ⟨m, hm⟩ := h1
    exact DataW.trod_lt m _ _ _ hm
  | [], [], _ :: _, _, h, _ => h.elim
  | [], _ :: _, _, _, h, _ => h.elim
  | _ :: _, [], _, _, h, _ => h.elim
  | _ :: _, _ :: _, [], _, h, _ => h.elim

variable {G : Nat → Option (List V)}

/-- A sealed call's run, on values that are told. -/
theorem Does.run {im : Bool} {f : Nat} {args : List V} {rargs : Array Value} {b : Bool} (h : Does P G im f args (.bool b)) (hg : GlobOK G (fun r => r < W.heap.size) W) (ha : VRs (fun _ => none) (fun r => r < W.heap.size) W args rargs) :
    Calls P f rargs W fun e W' => e = .returned (.bool b) ∧ Below W.heap.size W W' := by
  have hrel : Rel G W.heap.size (fun _ => none) (fun r => r < W.heap.size) [] W := ⟨fun b p hp => (by cases hp), fun b b' p p' hp => (by cases hp), fun b p hp => (by cases hp), fun _ h => h, Nat.le_refl _, hg⟩
  refine (h W.heap.size _ _ W rargs hrel ha).mono ?_
  rintro e W' ⟨rv, r0, H', Φ', Z', rfl, hfr, hv, hr', hev⟩
  have : r0 = .bool b := by cases hfr; rfl
  subst this
  obtain rfl := hv.bool_inv
  exact ⟨rfl, hev.below⟩

/-- The row's contract. -/
theorem law_contract {f n : Nat} {fn : Func} {s : ChangeSpec} {tb : TypeId} (hlaid : laidOutB P = true) (hok : fn.params.toList.all (okA P n) = true) (hres : fn.resultTypes = #[tb]) (hb : P.underlying tb = some .bool) (hvars : s.vars = [])
    (hs : ∀ ds : List (DataW H), ds.length = fn.params.size → s.fn H ds = { results := [.lit (.bool true)], args := ds }) {base : Nat} {args : Array Value} {ds gs : List (DataW H)} {before : List MemPlace} (hm : M = maxLen ∨ Meas μ ∧ ∀ d ∈ ds, μ d ≤ M)
    (hg : GlobOK G (fun r => r < W.heap.size) W) (hfn : ∀ Vs, TypAll P M fn.params.toList Vs → (∀ V ∈ Vs, Free true V) → Does P G true f Vs (.bool true))
    (hval : ∀ (j : Nat) t v, fn.params[j]? = some t → args[j]? = some v → Value.okWide P W .any base t v) (hW : DataW.Whole enc P fn.params.toList s.vars false W args.toList ds gs before) :
    Calls P f args W fun e W' => ∃ v, e = .returned v ∧ s.post enc P fn false true false false W args v W' := by
  have hW' := hW
  obtain ⟨p, q, hA, hV, rfl, hfz, hnd⟩ := hW
  obtain ⟨Vs, h1, h2, h3, h4⟩ := args_open (M := M) (μ := μ) (n := n) (base := base) _ _ _ _ hA (fun j t v a b => hval j t v (by simpa using a) (by simpa using b)) hok hm
  have ha : VRs (fun _ => none) (fun r => r < W.heap.size) W Vs args := ⟨by simpa using h2.symm, fun i hi => by
    have := (h4 i hi).1
    simpa [Array.getD_eq_getD_getElem?, List.getD_eq_getElem?_getD] using this⟩
  have hfree : ∀ V ∈ Vs, Free true V := by
    intro V hV'
    obtain ⟨i, hi, rfl⟩ := List.getElem_of_mem hV'
    have := (h4 i hi).2
    simpa [List.getD_eq_getElem?_getD, hi] using this
  refine (Does.run (hfn Vs h1 hfree) hg ha).mono ?_
  rintro e W' ⟨rfl, hbel⟩
  rw [hvars] at hV
  obtain ⟨rfl, rfl⟩ := trodVars_none hV
  have hse := hs ds (by simpa using h3)
  refine ⟨_, rfl, ds, [], p ++ [], [], p, [], hW', ?_, ?_, ?_, hbel.frame _, fun h => by cases h⟩
  · rw [List.append_nil, hse, hres]
    exact trodAll_mk1 ⟨1, by simp [DataW.trod, hb, Value.cells]⟩
  · rw [List.append_nil, hse]
    exact args_stay hlaid hbel _ _ _ _ hA hok
  · rw [List.append_nil, hse, hvars]
    rfl

end
end Go.MW
