/- Every operation that 'comp' takes does what 'stepM' says. -/
import Derived.Test.YtphbhoggcddgmaaDoorMwOps8
namespace Go.MW
open Go Go.RowKit
set_option linter.unusedVariables false
set_option linter.unusedSimpArgs false

section
variable {P : Program} {G : Nat → Option (List V)}

/-- Arguments for a call. -/
theorem VRs.append {Φ : Nat → Option Pl} {Z : Nat → Prop} {w : World} {a b : List V} {x y : Array Value} (h : VRs Φ Z w a x) (k : VRs Φ Z w b y) : VRs Φ Z w (a ++ b) (x ++ y) := by
  refine ⟨by simp [h.1, k.1], fun i hi => ?_⟩
  by_cases hia : i < a.length
  · have := h.2 i hia
    rw [getD_left hia]
    simpa [Array.getD_eq_getD_getElem?, Array.getElem?_append_left (show i < x.size by rw [h.1]; exact hia)] using this
  · have := k.2 (i - a.length) (by simp at hi; omega)
    rw [getD_right (by omega)]
    simpa [Array.getD_eq_getD_getElem?, Array.getElem?_append_right (show x.size ≤ i by rw [h.1]; omega), h.1] using this

def plain (P : Program) (f : Nat) : Bool := (P.funcs[f]?).any fun fn => fn.body.isSome && fn.name != "runtime.NumGoroutine"

theorem run_callFunc {f : Nat} (h : plain P f = true) (args : Array Value) (w : World) : (callFunc f args).run P w = .ok (.enter f args) w := by
  unfold plain at h
  cases hf : P.funcs[f]? with
  | none => simp [hf] at h
  | some fn =>
    simp [hf] at h
    obtain ⟨h1, h2⟩ := h
    have h3 : fn.body ≠ none := by intro hb; simp [hb] at h1
    simp [callFunc, hf, h2, h3]

section
variable {B : Nat} {Φ : Nat → Option Pl} {Z : Nat → Prop} {H : List Blk} {w : World} {a : Act} {fr : Fr} {K : V → List Blk → Prop} {o : Oper} {q : Bool}

/-- A call of a function that 'callK' knows. -/
theorem call_comes {f : Nat} {args : List V} {rargs : Array Value} (hrel : Rel G B Φ Z H w) (hex : (execOp a.eval o).run P w = .ok (.enter f rargs) w) (ha : VRs Φ Z w args rargs) (h : callK P G q f args H K) : Comes' P G B o a w Φ Z K := by
  intro next Q hn
  unfold Oper.wp
  rw [hex, Oper.upon_enter]
  unfold callK at h
  cases q with
  | true =>
    simp only [if_true] at h
    obtain ⟨r, hs, hK⟩ := h
    have := hs []
    rw [List.append_nil] at this
    refine Calls.mono (this B Φ Z w rargs hrel ha) ?_
    rintro e w' ⟨rv, Z', rfl, hv, hr, he⟩
    exact hn _ _ _ _ _ _ hK hv hr he
  | false =>
    simp only [Bool.false_eq_true, if_false] at h
    obtain ⟨r, H', hs, hK⟩ := h
    refine Calls.mono (hs B Φ Z w rargs hrel ha) ?_
    rintro e w' ⟨rv, Φ', Z', rfl, hv, hr, he⟩
    exact hn _ _ _ _ _ _ hK hv hr he

/-- A quiet call, where there are more blocks behind. -/
theorem call_quiet {f : Nat} {args : List V} {rargs : Array Value} {r : V} (hrel : Rel G B Φ Z H w) (hex : (execOp a.eval o).run P w = .ok (.enter f rargs) w) (ha : VRs Φ Z w args rargs) (h : QSim P G f args H r)
    {next : Act → World → Prop} {Q : Exit → Act → World → Prop} (hn : ∀ rv Z' w', VR Φ Z' w' r rv → Rel G B Φ Z' H w' → Ev B Φ Z w Φ Z' w' → next (a.put o.dst rv) w') : o.wp P a w next Q := by
  unfold Oper.wp
  rw [hex, Oper.upon_enter]
  refine Calls.mono (h B Φ Z w rargs hrel ha) ?_
  rintro e w' ⟨rv, Z', rfl, hv, hr, he⟩
  exact hn _ _ _ hv hr he

theorem evs_array (hg : GlobOK G Z w) (hf : FrR Φ Z w fr a) {xs : Array Operand} {ys : List Opd} (h : opds xs.toList = some ys) : VRs Φ Z w (evs G fr ys) (xs.map a.eval) := by
  have := evs_sound hg hf h
  rwa [show (xs.toList.map a.eval).toArray = xs.map a.eval by rw [← Array.toList_map]] at this

/-- A call's run. -/
theorem call_exec {c : Call} {f : Nat} {as : List Opd} (hf : FrR Φ Z w fr a) (hg : GlobOK G Z w) (ho : o.op = .call c) (hc : compCall P c = some (.call f as)) :
    ∃ rargs, (execOp a.eval o).run P w = .ok (.enter f rargs) w ∧ VRs Φ Z w (evs G fr as) rargs := by
  unfold compCall at hc
  split at hc
  · rename_i g hcal
    split at hc <;> try (simp at hc; done)
    rename_i fn as' hfn has
    split at hc <;> simp at hc
    obtain ⟨rfl, rfl⟩ := hc
    rename_i hb
    have hp : plain P g = true := by simp [plain, hfn]; simpa using hb
    refine ⟨c.args.map a.eval, ?_, evs_array hg hf has⟩
    simp [execOp, ho, resolve, hcal, Act.eval, Deferred.ofValue, invoke, run_callFunc hp]
  · split at hc <;> simp at hc
  · simp at hc
  · repeat' split at hc
    all_goals simp at hc

theorem callv_exec {c : Call} {x : Opd} {as : List Opd} {f : Nat} {first cap : List V} (hf : FrR Φ Z w fr a) (hg : GlobOK G Z w) (ho : o.op = .call c) (hc : compCall P c = some (.callv x as)) (hx : ev G fr x = .fn (.func f) first cap) (hp : plain P f = true) :
    ∃ rargs, (execOp a.eval o).run P w = .ok (.enter f rargs) w ∧ VRs Φ Z w (first ++ evs G fr as ++ cap) rargs := by
  unfold compCall at hc
  split at hc
  · split at hc <;> try (simp at hc; done)
    split at hc <;> simp at hc
  · rename_i y _ hcal
    split at hc <;> simp at hc
    obtain ⟨rfl, rfl⟩ := hc
    rename_i y' as' hy has
    have hv := ev_sound (x := y) hg hf (by assumption)
    rw [hx] at hv
    generalize hyv : a.eval y = yv at hv
    cases hv with
    | fn _ _ _ rf rc h1 h2 h3 h4 =>
      refine ⟨rf ++ c.args.map a.eval ++ rc, ?_, ?_⟩
      · simp [execOp, ho, resolve, hcal, hyv, Deferred.ofValue, invoke, run_callFunc hp]
      · exact VRs.append (VRs.append ⟨h1, h3⟩ (evs_array hg hf (by assumption))) ⟨h2, h4⟩
  · simp at hc
  · repeat' split at hc
    all_goals simp at hc

end

/-- What each kind of operation is to do. -/
structure OpOK (P : Program) (G : Nat → Option (List V)) (o : Oper) (m : MOp) : Prop where
  rd : m.kind = 0 → ∀ {B Φ Z H w a fr q} {K : V → List Blk → Prop}, Rel G B Φ Z H w → FrR Φ Z w fr a → stepM P G q m fr H K → Reads P o a w Φ Z (K · H)
  mkr : m.kind = 1 → ∀ {B Φ Z H w a fr} {C : (Nat → V) → Blk → Prop}, Rel G B Φ Z H w → FrR Φ Z w fr a → mkM G m fr C → Makes P G B o a w Φ Z C
  wr : 2 ≤ m.kind → ∀ {B Φ Z H w a fr q} {K : V → List Blk → Prop}, Rel G B Φ Z H w → FrR Φ Z w fr a → stepM P G q m fr H K → Comes' P G B o a w Φ Z K
  qt : m.kind = 2 → ∀ {B Φ Z H w a fr} {next : Act → World → Prop} {Q : Exit → Act → World → Prop} {r : V}, Rel G B Φ Z H w → FrR Φ Z w fr a → stepM P G true m fr H (fun v H' => v = r ∧ H' = H) → 
    (∀ rv Z' w', VR Φ Z' w' r rv → Rel G B Φ Z' H w' → Ev B Φ Z w Φ Z' w' → next (a.put o.dst rv) w') → o.wp P a w next Q

theorem OpOK.ofR {o : Oper} {m : MOp} (hk : m.kind = 0) (h : ∀ {B Φ Z H w a fr q} {K : V → List Blk → Prop}, Rel G B Φ Z H w → FrR Φ Z w fr a → stepM P G q m fr H K → Reads P o a w Φ Z (K · H)) : OpOK P G o m :=
  ⟨fun _ => h, fun h' => by omega, fun h' => by omega, fun h' => by omega⟩
theorem OpOK.ofM {o : Oper} {m : MOp} (hk : m.kind = 1) (h : ∀ {B Φ Z H w a fr} {C : (Nat → V) → Blk → Prop}, Rel G B Φ Z H w → FrR Φ Z w fr a → mkM G m fr C → Makes P G B o a w Φ Z C) : OpOK P G o m :=
  ⟨fun h' => by omega, fun _ => h, fun h' => by omega, fun h' => by omega⟩
theorem OpOK.ofW {o : Oper} {m : MOp} (hk : m.kind = 3) (h : ∀ {B Φ Z H w a fr q} {K : V → List Blk → Prop}, Rel G B Φ Z H w → FrR Φ Z w fr a → stepM P G q m fr H K → Comes' P G B o a w Φ Z K) : OpOK P G o m :=
  ⟨fun h' => by omega, fun h' => by omega, fun _ => h, fun h' => by omega⟩
theorem OpOK.no {o : Oper} {m : MOp} (hk : m.kind = 0 ∨ m.kind = 3) (h : ∀ {H fr q} {K : V → List Blk → Prop}, ¬ stepM P G q m fr H K) : OpOK P G o m :=
  ⟨fun _ {_ _ _ _ _ _ _ _ _} _ _ hh => (h hh).elim, fun h' => by omega, fun _ {_ _ _ _ _ _ _ _ _} _ _ hh => (h hh).elim, fun h' => by omega⟩

theorem compBuiltin_ok {o : Oper} {m : MOp} {c : Call} {b : Builtin} (ho : o.op = .call c) (hc : c.callee = .builtin b) (h : compCall P c = some m) : OpOK P G o m := by
  have hbad : OpOK P G o .bad := .no (.inl rfl) (fun hh => hh)
  unfold compCall at h
  rw [hc] at h
  simp only at h
  have l1 : ∀ {α : Type} {x : Array α} {a : α}, x.toList = [a] → x = #[a] := fun h => Array.ext' (by simpa using h)
  have l2 : ∀ {α : Type} {x : Array α} {a b : α}, x.toList = [a, b] → x = #[a, b] := fun h => Array.ext' (by simpa using h)
  split at h
  · -- len
    rename_i t x hat harg
    split at h <;> simp at h <;> subst h
    · exact .ofR rfl fun hr hf hs => len_sound hr hf ho hc (l1 hat) (l1 harg) (by assumption) (.inl ⟨rfl, rfl⟩) (by assumption) hs
    · exact .ofR rfl fun hr hf hs => len_sound hr hf ho hc (l1 hat) (l1 harg) (by assumption) (.inr (.inl ⟨rfl, _, rfl⟩)) (by assumption) hs
    · exact .ofR rfl fun hr hf hs => len_sound hr hf ho hc (l1 hat) (l1 harg) (by assumption) (.inr (.inr ⟨rfl, _, _, rfl⟩)) (by assumption) hs
    · exact .ofR rfl fun hr hf hs => lenC_sound hr ho hc (l1 hat) (l1 harg) (by assumption) hs
  · split at h <;> simp at h
    subst h
    exact .no (.inl rfl) (fun hh => hh)
  · -- min
    rename_i t u x y hat harg
    split at h <;> simp at h
    subst h
    exact .ofR rfl fun hr hf hs => minK_sound (t := t) (u := u) (ty := o.type) (lt := true) hr hf ho hc (l2 harg) (by assumption) (by assumption) hs
  · -- max
    rename_i t u x y hat harg
    split at h <;> simp at h
    subst h
    exact .ofR rfl fun hr hf hs => minK_sound (t := t) (u := u) (ty := o.type) (lt := false) hr hf ho hc (l2 harg) (by assumption) (by assumption) hs
  · -- append
    rename_i t u x y hat harg
    split at h <;> try (simp at h; done)
    rename_i e d a b ht hu hx hy
    split at h <;> try (simp at h; done)
    rename_i z sz by_ hz hb
    split at h <;> try (simp at h; done)
    rename_i h0
    simp at h0
    split at h <;> simp at h <;> subst h
    · exact .no (.inr rfl) (fun hh => hh)
    · rename_i hd
      exact .ofW rfl fun hr hf hs => app_sound hr hf ho hc (l2 hat) (l2 harg) ht hu (fun k hk => hd k hk) hz hb h0.1 h0.2 hx hy hs
  · -- copy
    rename_i t u x y hat harg
    split at h <;> try (simp at h; done)
    split at h <;> try (simp at h; done)
    split at h <;> simp at h
    subst h
    exact .ofW rfl fun hr hf hs => cpy_sound hr hf ho hc (l2 hat) (l2 harg) (by assumption) (by assumption) (by assumption) (by assumption) hs
  · -- clear
    rename_i t x hat harg
    split at h <;> try (simp at h; done)
    split at h <;> try (simp at h; done)
    split at h <;> simp at h
    subst h
    exact .ofW rfl fun hr hf hs => clr_sound hr hf ho hc (l1 hat) (l1 harg) (by assumption) (by assumption) (by assumption) hs
  · split at h <;> simp at h
    subst h
    exact .no (.inr rfl) (fun hh => hh)
  · simp at h
    subst h
    exact hbad

theorem cvs_sound {B : Nat} {Φ : Nat → Option Pl} {Z : Nat → Prop} {H : List Blk} {w : World} {a : Act} {fr : Fr} {K : V → List Blk → Prop} {o : Oper} {q : Bool} {s d : TypeId} {x : Operand} {x' : Opd} (hrel : Rel G B Φ Z H w) (hf : FrR Φ Z w fr a)
    (ho : o.op = .convert s d x) (hs : P.underlying s = some .string) (hd : P.underlying d = some .string) (hx : opd x = some x') (h : stepM P G q (.slS x' none none) fr H K) : Reads P o a w Φ Z (K · H) := by
  have hv := ev_sound (x := x) hrel.glob hf hx
  simp only [stepM, slSK] at h
  split at h
  · rename_i l hl
    rw [hl] at hv
    have hs' := hv.str_inv
    simp [bnd] at h
    exact .here (rv := .string ⟨l.toArray⟩) (by simp [execOp, ho, hs', convert, run_underlying hs, run_underlying hd]) hrel h (.str _)
  · exact h.elim

theorem compOp_ok {o : Oper} {m : MOp} (h : compOp P o.op = some m) : OpOK P G o m := by
  have hbad : ∀ {m' : MOp}, m' = .bad → OpOK P G o m' := fun e => by subst e; exact .no (.inl rfl) (fun hh => hh)
  cases hop : o.op <;> rw [hop] at h <;> simp only [compOp] at h
  case move x =>
    simp only [Option.map_eq_some_iff] at h
    obtain ⟨y, hy, rfl⟩ := h
    exact .ofR rfl fun hr hf hs => mv_sound hr hf (.inl hop) hy hs
  case assign x =>
    simp only [Option.map_eq_some_iff] at h
    obtain ⟨y, hy, rfl⟩ := h
    exact .ofR rfl fun hr hf hs => mv_sound hr hf (.inr hop) hy hs
  case pick =>
    split at h <;> simp at h
    subst h
    exact .ofR rfl fun hr hf hs => pick_sound hr hf hop (by assumption) (by assumption) (by assumption) hs
  case alloc =>
    split at h <;> try (simp at h; done)
    split at h <;> simp at h
    subst h
    exact .ofM rfl fun hr hf hs => new_sound hr hop (by assumption) hs
  case box =>
    split at h <;> try (simp at h; done)
    split at h <;> simp at h
    subst h
    exact .ofM rfl fun hr hf hs => box_sound hr hf hop (by assumption) hs.1 hs.2.1 hs.2.2
  case build =>
    split at h <;> try (simp at h; done)
    · split at h <;> try (simp at h; done)
      simp only [Option.map_eq_some_iff] at h
      obtain ⟨p', hp', rfl⟩ := h
      exact .ofR rfl fun hr hf hs => build_sound hr hf hop (by assumption) (.inl ⟨_, by assumption, by assumption, hp'⟩) hs
    · split at h <;> try (simp at h; done)
      simp only [Option.map_eq_some_iff] at h
      obtain ⟨p', hp', rfl⟩ := h
      exact .ofR rfl fun hr hf hs => build_sound hr hf hop (by assumption) (.inr ⟨_, _, _, by assumption, by assumption, hp'⟩) hs
  case buildSlice =>
    split at h <;> try (simp at h; done)
    split at h <;> try (simp at h; done)
    split at h <;> try (simp at h; done)
    simp only [Option.map_eq_some_iff] at h
    obtain ⟨p', hp', rfl⟩ := h
    rename_i hc
    simp at hc
    exact .ofM rfl fun hr hf hs => bslice_sound hr hf hop (by assumption) (by assumption) (by omega) hp' hs
  case load =>
    split at h <;> simp at h
    subst h
    exact .ofR rfl fun hr hf hs => ld_sound hr hf hop (by assumption) (by assumption) hs
  case store =>
    split at h <;> simp at h
    subst h
    exact .ofW rfl fun hr hf hs => st_sound hr hf hop (by assumption) (by assumption) (by assumption) hs
  case nilCheck =>
    simp only [Option.map_eq_some_iff] at h
    obtain ⟨y, hy, rfl⟩ := h
    exact .ofR rfl fun hr hf hs => nchk_sound hr hf hop hy hs
  case binOp =>
    split at h <;> try (simp at h; done)
    split at h
    · simp at h; subst h
      exact .ofR rfl fun hr hf hs => bin_sound hr hf hop (by assumption) (by assumption) hs
    · split at h
      · split at h <;> simp at h <;> subst h
        · exact .ofR rfl fun hr hf hs => eqT_sound hr hf hop (.inl ⟨rfl, rfl⟩) (by assumption) (by assumption) (by assumption) (by assumption) hs
        · exact .no (.inl rfl) (fun hh => hh)
      · split at h <;> simp at h <;> subst h
        · exact .ofR rfl fun hr hf hs => eqT_sound hr hf hop (.inr ⟨rfl, rfl⟩) (by assumption) (by assumption) (by assumption) (by assumption) hs
        · exact .no (.inl rfl) (fun hh => hh)
      · simp at h; subst h
        exact .ofR rfl fun hr hf hs => eqB_sound hr hf hop (.inl ⟨rfl, rfl⟩) (by assumption) (by assumption) (by assumption) hs
      · simp at h; subst h
        exact .ofR rfl fun hr hf hs => eqB_sound hr hf hop (.inr ⟨rfl, rfl⟩) (by assumption) (by assumption) (by assumption) hs
      · split at h <;> simp at h <;> subst h
        · exact .ofR rfl fun hr hf hs => nilq_sound hr hf hop (.inl ⟨rfl, rfl⟩) (by assumption) (by assumption) hs
        · exact .no (.inl rfl) (fun hh => hh)
      · split at h <;> simp at h <;> subst h
        · exact .ofR rfl fun hr hf hs => nilq_sound hr hf hop (.inr ⟨rfl, rfl⟩) (by assumption) (by assumption) hs
        · exact .no (.inl rfl) (fun hh => hh)
      · simp at h; subst h
        exact .no (.inl rfl) (fun hh => hh)
  case unOp =>
    simp only [Option.map_eq_some_iff] at h
    obtain ⟨y, hy, rfl⟩ := h
    exact .ofR rfl fun hr hf hs => un_sound hr hf hop hy hs
  case convert =>
    split at h
    · simp at h; subst h
      refine .ofR rfl fun {B Φ Z H w a fr q K} hr hf hs => ?_
      rename_i x' _ _ _ _
      simp only [stepM, cviK] at hs
      split at hs
      · exact cvi_sound hr hf hop (by assumption) (by assumption) (by assumption) (by assumption) hs
      · exact hs.elim
    · split at h <;> simp at h
      subst h
      exact .ofR rfl fun hr hf hs => b2s_sound hr hf hop (by assumption) (by assumption) (by assumption) (by assumption) hs.1 hs.2
    · split at h <;> simp at h
      subst h
      refine .ofM rfl fun {B Φ Z H w a fr C} hr hf hs => ?_
      simp only [mkM] at hs
      split at hs
      · exact s2b_sound hr hf hop (by assumption) (by assumption) (by assumption) (by assumption) (by assumption) hs
      · exact hs.elim
    · simp at h; subst h
      rename_i h1 h2 h3
      exact .ofR rfl fun hr hf hs => cvs_sound hr hf hop h1 h2 h3 hs
    · simp at h
  case makeFunc =>
    split at h <;> simp at h
    subst h
    exact .ofR rfl fun hr hf hs => mkf_sound hr hf hop (by assumption) (by assumption) hs
  case makeSlice =>
    split at h <;> try (simp at h; done)
    split at h <;> try (simp at h; done)
    split at h <;> simp at h
    subst h
    exact .ofM rfl fun hr hf hs => mks_sound hr hf hop (by assumption) (by assumption) (by assumption) (by assumption) (by assumption) hs
  case slice =>
    split at h
    · simp at h; subst h
      rename_i hm
      rcases opdO_some hm with ⟨rfl, _⟩ | ⟨_, _, _, h', _⟩
      · exact .ofR rfl fun hr hf hs => slS_sound hr hf hop (by assumption) (by assumption) (by assumption) (by assumption) hs
      · cases h'
    · split at h <;> try (simp at h; done)
      split at h <;> simp at h
      subst h
      exact .ofR rfl fun hr hf hs => sl_sound hr hf hop (by assumption) (by assumption) (by assumption) (by assumption) (by assumption) (by assumption) hs
    · split at h <;> try (simp at h; done)
      split at h <;> simp at h
      subst h
      exact .ofR rfl fun hr hf hs => slA_sound hr hf hop (by assumption) (by assumption) (by assumption) (by assumption) (by assumption) (by assumption) hs
    · simp at h
  case fieldAddr =>
    split at h <;> try (simp at h; done)
    split at h <;> try (simp at h; done)
    split at h <;> try (simp at h; done)
    split at h <;> simp at h
    subst h
    exact .ofR rfl fun hr hf hs => fa_sound hr hf hop (by assumption) (by assumption) (by assumption) (by assumption) (by assumption) hs
  case field =>
    split at h <;> try (simp at h; done)
    split at h <;> try (simp at h; done)
    split at h <;> simp at h
    subst h
    exact .ofR rfl fun hr hf hs => fld_sound hr hf hop (by assumption) (by assumption) (by assumption) (by assumption) hs
  case indexAddr =>
    split at h
    · split at h <;> try (simp at h; done)
      split at h <;> simp at h
      subst h
      exact .ofR rfl fun hr hf hs => ia_sound hr hf hop (by assumption) (by assumption) (by assumption) (by assumption) hs
    · split at h <;> try (simp at h; done)
      split at h <;> simp at h
      subst h
      exact .ofR rfl fun hr hf hs => iaA_sound hr hf hop (by assumption) (by assumption) (by assumption) (by assumption) hs
    · simp at h
  case index =>
    split at h
    · simp at h; subst h
      exact .ofR rfl fun hr hf hs => ixS_sound hr hf hop (by assumption) (by assumption) (by assumption) hs
    · split at h <;> try (simp at h; done)
      · split at h <;> simp at h
        subst h
        exact .ofR rfl fun hr hf hs => ixA_sound hr hf hop (by assumption) (.inl ⟨rfl, by assumption, by assumption⟩) (by assumption) (by assumption) hs
      · simp at h; subst h
        exact .ofR rfl fun hr hf hs => ixA_sound hr hf hop (by assumption) (.inr ⟨rfl, rfl, by assumption⟩) (by assumption) (by assumption) hs
    · simp at h
  case extract =>
    simp only [Option.map_eq_some_iff] at h
    obtain ⟨y, hy, rfl⟩ := h
    exact .ofR rfl fun hr hf hs => ext_sound hr hf hop hy hs
  case lookup =>
    split at h <;> try (simp at h; done)
    split at h <;> simp at h
    subst h
    exact .no (.inl rfl) (fun hh => hh)
  case mapUpdate =>
    split at h <;> simp at h
    subst h
    exact .no (.inr rfl) (fun hh => hh)
  case insert =>
    split at h <;> simp at h
    subst h
    exact .no (.inr rfl) (fun hh => hh)
  case makeMap t r =>
    cases r with
    | none => simp at h; subst h; exact .ofM rfl fun hr hf hs => mkm_sound hop hs
    | some x => simp at h; exact hbad h.symm
  case call c =>
    cases hcal : c.callee with
    | builtin b => exact compBuiltin_ok hop hcal h
    | invoke _ _ =>
      simp [compCall, hcal] at h
      exact hbad h.symm
    | value x =>
      have hm : (∃ f as, m = .call f as) ∨ (∃ y as, m = .callv y as) ∨ m = .bad := by
        unfold compCall at h
        rw [hcal] at h
        simp only at h
        split at h
        · split at h <;> try (simp at h; done)
          split at h <;> simp at h <;> subst h
          · exact .inl ⟨_, _, rfl⟩
          · exact .inr (.inr rfl)
        · rename_i hx
          cases hx
          split at h <;> simp at h
          subst h
          exact .inr (.inl ⟨_, _, rfl⟩)
        · rename_i hx; cases hx
        · rename_i hx; cases hx
      rcases hm with ⟨f, as, rfl⟩ | ⟨y, as, rfl⟩ | rfl
      · refine ⟨fun hk => (by cases hk), fun hk => (by cases hk), fun _ {B Φ Z H w a fr q K} hr hf hs => ?_, fun _ {B Φ Z H w a fr next Q r} hr hf hs hn => ?_⟩
        · obtain ⟨rargs, h1, h2⟩ := call_exec hf hr.glob hop h
          exact call_comes hr h1 h2 hs
        · obtain ⟨rargs, h1, h2⟩ := call_exec hf hr.glob hop h
          simp only [stepM, callK, if_true] at hs
          obtain ⟨r', h3, rfl, _⟩ := hs
          have := h3 []
          rw [List.append_nil] at this
          exact call_quiet hr h1 h2 this hn
      · refine ⟨fun hk => (by cases hk), fun hk => (by cases hk), fun _ {B Φ Z H w a fr q K} hr hf hs => ?_, fun _ {B Φ Z H w a fr next Q r} hr hf hs hn => ?_⟩
        · simp only [stepM, callvK] at hs
          split at hs
          · rename_i f first cap hx
            obtain ⟨rargs, h1, h2⟩ := callv_exec hf hr.glob hop h hx hs.1
            exact call_comes hr h1 h2 hs.2
          · exact hs.elim
        · simp only [stepM, callvK] at hs
          split at hs
          · rename_i f first cap hx
            obtain ⟨rargs, h1, h2⟩ := callv_exec hf hr.glob hop h hx hs.1
            obtain ⟨_, hs⟩ := hs
            simp only [callK, if_true] at hs
            obtain ⟨r', h3, rfl, _⟩ := hs
            have := h3 []
            rw [List.append_nil] at this
            exact call_quiet hr h1 h2 this hn
          · exact hs.elim
      · exact hbad rfl
  all_goals first
    | (simp at h; exact hbad h.symm)
    | (simp at h; done)

end
end Go.MW
