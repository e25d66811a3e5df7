import Derived.Deep.LoopGhost
import Derived.Scope
import Derived.ScopeJumps
import Derived.Orders
import Derived.Test.YtoopcfgmffpogaaMwB2
/- Every operation that 'comp' takes does what 'stepM' says. -/
namespace Go.MW
open Go Go.RowKit
set_option linter.unusedVariables false
set_option linter.unusedSimpArgs false

section
variable {P : Program} {G : Nat → Option (List V)}

/-- Arguments for a call. -/
theorem VRs.append {Φ : Nat → Option Pl} {Z : Nat → Prop} {w : World} {a b : List V} {x y : Array Value} (h : VRs Φ Z w a x) (k : VRs Φ Z w b y) : VRs Φ Z w (a ++ b) (x ++ y) := by
  refine ⟨by simp [h.1, k.1], fun i hi => ?_⟩
  by_cases hia : i < a.length
  · have := h.2 i hia
    rw [getD_left hia]
    simpa [Array.getD_eq_getD_getElem?, Array.getElem?_append_left (show i < x.size by rw [h.1]; exact hia)] using this
  · have := k.2 (i - a.length) (by simp at hi; omega)
    rw [getD_right (by omega)]
    simpa [Array.getD_eq_getD_getElem?, Array.getElem?_append_right (show x.size ≤ i by rw [h.1]; omega), h.1] using this

def plain (P : Program) (f : Nat) : Bool := (P.funcs[f]?).any fun fn => fn.body.isSome && fn.name != "runtime.NumGoroutine"

theorem run_callFunc {f : Nat} (h : plain P f = true) (args : Array Value) (w : World) : (callFunc f args).run P w = .ok (.enter f args) w := by
  unfold plain at h
  cases hf : P.funcs[f]? with
  | none => simp [hf] at h
  | some fn =>
    simp [hf] at h
    obtain ⟨h1, h2⟩ := h
    have h3 : fn.body ≠ none := by intro hb; simp [hb] at h1
    simp [callFunc, hf, h2, h3]

section
variable {B : Bd} {Φ : Nat → Option Pl} {Z : Nat → Prop} {H : List Blk} {w : World} {a : Act} {fr : Fr} {K : V → List Blk → Prop} {o : Oper} {q : Bool}

/-- A call of a function that 'callK' knows. -/
theorem call_comes {f : Nat} {args : List V} {rargs : Array Value} (hrel : Rel G B Φ Z H w) (hex : (execOp a.eval o).run P w = .ok (.enter f rargs) w) (ha : VRs Φ Z w args rargs) (h : callK P G q f args H K) : Comes' P G B o a w Φ Z K := by
  intro next Q hn
  unfold Oper.wp
  rw [hex, Oper.upon_enter]
  unfold callK at h
  cases q with
  | true =>
    simp only [if_true] at h
    obtain ⟨r, hs, hK⟩ := h
    have := hs []
    rw [List.append_nil] at this
    refine Calls.mono (this B Φ Z w rargs hrel ha) ?_
    rintro e w' ⟨rv, Z', rfl, hv, hr, he⟩
    exact hn _ _ _ _ _ _ hK hv hr he
  | false =>
    simp only [Bool.false_eq_true, if_false] at h
    obtain ⟨r, H', hs, hK⟩ := h
    refine Calls.mono (hs B Φ Z w rargs hrel ha) ?_
    rintro e w' ⟨rv, Φ', Z', rfl, hv, hr, he⟩
    exact hn _ _ _ _ _ _ hK hv hr he

/-- A quiet call, where there are more blocks behind. -/
theorem call_quiet {f : Nat} {args : List V} {rargs : Array Value} {r : V} (hrel : Rel G B Φ Z H w) (hex : (execOp a.eval o).run P w = .ok (.enter f rargs) w) (ha : VRs Φ Z w args rargs) (h : QSim P G f args H r)
    {next : Act → World → Prop} {Q : Exit → Act → World → Prop} (hn : ∀ rv Z' w', VR Φ Z' w' r rv → Rel G B Φ Z' H w' → Ev B Φ Z w Φ Z' w' → next (a.put o.dst rv) w') : o.wp P a w next Q := by
  unfold Oper.wp
  rw [hex, Oper.upon_enter]
  refine Calls.mono (h B Φ Z w rargs hrel ha) ?_
  rintro e w' ⟨rv, Z', rfl, hv, hr, he⟩
  exact hn _ _ _ hv hr he

theorem evs_array (hg : GlobOK G Z w) (hf : FrR Φ Z w fr a) {xs : Array Operand} {ys : List Opd} (h : opds xs.toList = some ys) : VRs Φ Z w (evs G fr ys) (xs.map a.eval) := by
  have := evs_sound hg hf h
  rwa [show (xs.toList.map a.eval).toArray = xs.map a.eval by rw [← Array.toList_map]] at this

/-- A call's run. -/
theorem call_exec {c : Call} {f : Nat} {as : List Opd} (hf : FrR Φ Z w fr a) (hg : GlobOK G Z w) (ho : o.op = .call c) (hc : compCall P c = some (.call f as)) :
    ∃ rargs, (execOp a.eval o).run P w = .ok (.enter f rargs) w ∧ VRs Φ Z w (evs G fr as) rargs := by
  unfold compCall at hc
  split at hc
  · rename_i g hcal
    split at hc <;> try (simp at hc; done)
    rename_i fn as' hfn has
    split at hc <;> simp at hc
    obtain ⟨rfl, rfl⟩ := hc
    rename_i hb
    have hp : plain P g = true := by simp [plain, hfn]; simpa using hb
    refine ⟨c.args.map a.eval, ?_, evs_array hg hf has⟩
    simp [execOp, ho, resolve, hcal, Act.eval, Deferred.ofValue, invoke, run_callFunc hp]
  · split at hc <;> simp at hc
  · simp at hc
  · repeat' split at hc
    all_goals simp at hc

theorem callv_exec {c : Call} {x : Opd} {as : List Opd} {f : Nat} {first cap : List V} (hf : FrR Φ Z w fr a) (hg : GlobOK G Z w) (ho : o.op = .call c) (hc : compCall P c = some (.callv x as)) (hx : ev G fr x = .fn (.func f) first cap) (hp : plain P f = true) :
    ∃ rargs, (execOp a.eval o).run P w = .ok (.enter f rargs) w ∧ VRs Φ Z w (first ++ evs G fr as ++ cap) rargs := by
  unfold compCall at hc
  split at hc
  · split at hc <;> try (simp at hc; done)
    split at hc <;> simp at hc
  · rename_i y _ hcal
    split at hc <;> simp at hc
    obtain ⟨rfl, rfl⟩ := hc
    rename_i y' as' hy has
    have hv := ev_sound (x := y) hg hf (by assumption)
    rw [hx] at hv
    generalize hyv : a.eval y = yv at hv
    cases hv with
    | fn _ _ _ rf rc h1 h2 h3 h4 =>
      refine ⟨rf ++ c.args.map a.eval ++ rc, ?_, ?_⟩
      · simp [execOp, ho, resolve, hcal, hyv, Deferred.ofValue, invoke, run_callFunc hp]
      · exact VRs.append (VRs.append ⟨h1, h3⟩ (evs_array hg hf (by assumption))) ⟨h2, h4⟩
  · simp at hc
  · repeat' split at hc
    all_goals simp at hc

end

/-- What each kind of operation is to do. -/
structure OpOK (P : Program) (G : Nat → Option (List V)) (o : Oper) (m : MOp) : Prop where
  rd : m.kind = 0 → ∀ {B Φ Z H w a fr q} {K : V → List Blk → Prop}, Rel G B Φ Z H w → FrR Φ Z w fr a → stepM P G q m fr H K → Reads P o a w Φ Z (K · H)
  mkr : m.kind = 1 → ∀ {B Φ Z H w a fr} {C : (Nat → V) → Blk → Prop}, Rel G B Φ Z H w → FrR Φ Z w fr a → mkM G m fr C → Makes P G B o a w Φ Z C
  wr : 2 ≤ m.kind → ∀ {B Φ Z H w a fr q} {K : V → List Blk → Prop}, Rel G B Φ Z H w → FrR Φ Z w fr a → stepM P G q m fr H K → Comes' P G B o a w Φ Z K
  qt : m.kind = 2 → ∀ {B Φ Z H w a fr} {next : Act → World → Prop} {Q : Exit → Act → World → Prop} {r : V}, Rel G B Φ Z H w → FrR Φ Z w fr a → stepM P G true m fr H (fun v H' => v = r ∧ H' = H) → 
    (∀ rv Z' w', VR Φ Z' w' r rv → Rel G B Φ Z' H w' → Ev B Φ Z w Φ Z' w' → next (a.put o.dst rv) w') → o.wp P a w next Q

theorem OpOK.ofR {o : Oper} {m : MOp} (hk : m.kind = 0) (h : ∀ {B Φ Z H w a fr q} {K : V → List Blk → Prop}, Rel G B Φ Z H w → FrR Φ Z w fr a → stepM P G q m fr H K → Reads P o a w Φ Z (K · H)) : OpOK P G o m :=
  ⟨fun _ => h, fun h' => by omega, fun h' => by omega, fun h' => by omega⟩
theorem OpOK.ofM {o : Oper} {m : MOp} (hk : m.kind = 1) (h : ∀ {B Φ Z H w a fr} {C : (Nat → V) → Blk → Prop}, Rel G B Φ Z H w → FrR Φ Z w fr a → mkM G m fr C → Makes P G B o a w Φ Z C) : OpOK P G o m :=
  ⟨fun h' => by omega, fun _ => h, fun h' => by omega, fun h' => by omega⟩
theorem OpOK.ofW {o : Oper} {m : MOp} (hk : m.kind = 3) (h : ∀ {B Φ Z H w a fr q} {K : V → List Blk → Prop}, Rel G B Φ Z H w → FrR Φ Z w fr a → stepM P G q m fr H K → Comes' P G B o a w Φ Z K) : OpOK P G o m :=
  ⟨fun h' => by omega, fun h' => by omega, fun _ => h, fun h' => by omega⟩
theorem OpOK.no {o : Oper} {m : MOp} (hk : m.kind = 0 ∨ m.kind = 3) (h : ∀ {H fr q} {K : V → List Blk → Prop}, ¬ stepM P G q m fr H K) : OpOK P G o m :=
  ⟨fun _ {_ _ _ _ _ _ _ _ _} _ _ hh => (h hh).elim, fun h' => by omega, fun _ {_ _ _ _ _ _ _ _ _} _ _ hh => (h hh).elim, fun h' => by omega⟩

theorem capa_sound {B : Bd} {Φ : Nat → Option Pl} {Z : Nat → Prop} {H : List Blk} {w : World} {a : Act} {fr : Fr} {K : V → List Blk → Prop} {o : Oper} {q : Bool} {t e : TypeId} {x : Operand} {x' : Opd} {c : Call} (hrel : Rel G B Φ Z H w) (hf : FrR Φ Z w fr a) (ho : o.op = .call c) (hc : c.callee = .builtin .cap) (hat : c.argTypes = #[t]) (hargs : c.args = #[x])
    (ht : P.underlying t = some (.slice e)) (hx : opd x = some x') (h : stepM P G q (.capa x') fr H K) : Reads P o a w Φ Z (K · H) := by
  have hv := ev_sound (x := x) hrel.glob hf hx
  have hex : (execOp a.eval o).run P w = ((Builtin.cap_ #[t] o.type #[a.eval x]).run P w).andThen fun v w => .ok (.value v) w := by
    simp [execOp, ho, resolve, hc, hat, hargs, invoke, builtin]
  simp only [stepM] at h
  generalize a.eval x = xv at hv hex
  generalize ev G fr x' = xa at hv h
  unfold capaK at h
  split at h
  · cases hv with
    | nils =>
      refine .here (rv := .int .i64 0) ?_ hrel h (.int _ _)
      rw [hex]
      simp [Builtin.cap_, run_underlying ht, goInt]
  · split at h
    · rename_i rsz xs opn frz hH
      obtain ⟨hxn, hK⟩ := h
      obtain ⟨p', rcap, hp', ok, rfl, hle, hcap⟩ := hs_inv hrel hv hH hxn
      obtain rfl : rcap = _ := hcap
      refine .here (rv := .int .i64 rcap) ?_ hrel hK (.int _ _)
      rw [hex]
      simp [Builtin.cap_, run_underlying ht, goInt]
    · exact h.elim
  · exact h.elim

theorem compBuiltin_ok {o : Oper} {m : MOp} {c : Call} {b : Builtin} (ho : o.op = .call c) (hc : c.callee = .builtin b) (h : compCall P c = some m) : OpOK P G o m := by
  have hbad : OpOK P G o .bad := .no (.inl rfl) (fun hh => hh)
  unfold compCall at h
  rw [hc] at h
  simp only at h
  have l1 : ∀ {α : Type} {x : Array α} {a : α}, x.toList = [a] → x = #[a] := fun h => Array.ext' (by simpa using h)
  have l2 : ∀ {α : Type} {x : Array α} {a b : α}, x.toList = [a, b] → x = #[a, b] := fun h => Array.ext' (by simpa using h)
  split at h
  · -- len
    rename_i t x hat harg
    split at h <;> simp at h <;> subst h
    · exact .ofR rfl fun hr hf hs => len_sound hr hf ho hc (l1 hat) (l1 harg) (by assumption) (.inl ⟨rfl, rfl⟩) (by assumption) hs
    · exact .ofR rfl fun hr hf hs => len_sound hr hf ho hc (l1 hat) (l1 harg) (by assumption) (.inr (.inl ⟨rfl, _, rfl⟩)) (by assumption) hs
    · exact .ofR rfl fun hr hf hs => len_sound hr hf ho hc (l1 hat) (l1 harg) (by assumption) (.inr (.inr ⟨rfl, _, _, rfl⟩)) (by assumption) hs
    · exact .ofR rfl fun hr hf hs => lenC_sound hr ho hc (l1 hat) (l1 harg) (by assumption) hs
  · rename_i t x hat harg
    split at h <;> simp at h
    subst h
    exact .ofR rfl fun hr hf hs => capa_sound hr hf ho hc (l1 hat) (l1 harg) (by assumption) (by assumption) hs
  · -- min
    rename_i t u x y hat harg
    split at h <;> simp at h
    subst h
    exact .ofR rfl fun hr hf hs => minK_sound (t := t) (u := u) (ty := o.type) (lt := true) hr hf ho hc (l2 harg) (by assumption) (by assumption) hs
  · -- max
    rename_i t u x y hat harg
    split at h <;> simp at h
    subst h
    exact .ofR rfl fun hr hf hs => minK_sound (t := t) (u := u) (ty := o.type) (lt := false) hr hf ho hc (l2 harg) (by assumption) (by assumption) hs
  · -- append
    rename_i t u x y hat harg
    split at h <;> try (simp at h; done)
    rename_i e d a b ht hu hx hy
    split at h <;> try (simp at h; done)
    rename_i z sz by_ hz hb
    split at h <;> try (simp at h; done)
    rename_i h0
    simp at h0
    split at h <;> simp at h <;> subst h
    · exact .ofW rfl fun hr hf hs => appZ_sound hr hf ho hc (l2 hat) (l2 harg) ht hu hz hb h0.1 h0.2 hx hy hs
    · rename_i hd
      exact .ofW rfl fun hr hf hs => app_sound hr hf ho hc (l2 hat) (l2 harg) ht hu (fun k hk => hd k hk) hz hb h0.1 h0.2 hx hy hs
  · -- copy
    rename_i t u x y hat harg
    split at h <;> try (simp at h; done)
    split at h <;> try (simp at h; done)
    split at h <;> simp at h
    subst h
    exact .ofW rfl fun hr hf hs => cpy_sound hr hf ho hc (l2 hat) (l2 harg) (by assumption) (by assumption) (by assumption) (by assumption) hs
  · -- clear
    rename_i t x hat harg
    split at h <;> try (simp at h; done)
    split at h <;> try (simp at h; done)
    split at h <;> simp at h
    subst h
    exact .ofW rfl fun hr hf hs => clr_sound hr hf ho hc (l1 hat) (l1 harg) (by assumption) (by assumption) (by assumption) hs
  · rename_i t u m k hat harg
    split at h <;> simp at h
    obtain ⟨ks, hks, rfl⟩ := h
    exact .ofW rfl fun hr hf hs => mdel_sound hr hf ho hc (l2 hat) (l2 harg) (by assumption) hks (by assumption) (by assumption) hs
  · simp at h
    subst h
    exact hbad

theorem cvs_sound {B : Bd} {Φ : Nat → Option Pl} {Z : Nat → Prop} {H : List Blk} {w : World} {a : Act} {fr : Fr} {K : V → List Blk → Prop} {o : Oper} {q : Bool} {s d : TypeId} {x : Operand} {x' : Opd} (hrel : Rel G B Φ Z H w) (hf : FrR Φ Z w fr a)
    (ho : o.op = .convert s d x) (hs : P.underlying s = some .string) (hd : P.underlying d = some .string) (hx : opd x = some x') (h : stepM P G q (.slS x' none none) fr H K) : Reads P o a w Φ Z (K · H) := by
  have hv := ev_sound (x := x) hrel.glob hf hx
  simp only [stepM, slSK] at h
  split at h
  · rename_i l hl
    rw [hl] at hv
    have hs' := hv.str_inv
    simp [bnd] at h
    exact .here (rv := .string ⟨l.toArray⟩) (by simp [execOp, ho, hs', convert, run_underlying hs, run_underlying hd]) hrel h (.str _)
  · exact h.elim

theorem compOp_ok {o : Oper} {m : MOp} (h : compOp P o.op = some m) : OpOK P G o m := by
  have hbad : ∀ {m' : MOp}, m' = .bad → OpOK P G o m' := fun e => by subst e; exact .no (.inl rfl) (fun hh => hh)
  cases hop : o.op <;> rw [hop] at h <;> simp only [compOp] at h
  case move x =>
    simp only [Option.map_eq_some_iff] at h
    obtain ⟨y, hy, rfl⟩ := h
    exact .ofR rfl fun hr hf hs => mv_sound hr hf (.inl hop) hy hs
  case assign x =>
    simp only [Option.map_eq_some_iff] at h
    obtain ⟨y, hy, rfl⟩ := h
    exact .ofR rfl fun hr hf hs => mv_sound hr hf (.inr hop) hy hs
  case pick =>
    split at h <;> simp at h
    subst h
    exact .ofR rfl fun hr hf hs => pick_sound hr hf hop (by assumption) (by assumption) (by assumption) hs
  case alloc =>
    split at h <;> try (simp at h; done)
    split at h <;> simp at h
    subst h
    exact .ofM rfl fun hr hf hs => new_sound hr hop (by assumption) hs
  case box =>
    split at h <;> try (simp at h; done)
    split at h <;> simp at h
    subst h
    exact .ofM rfl fun hr hf hs => box_sound hr hf hop (by assumption) hs.1 hs.2.1 hs.2.2
  case build =>
    split at h <;> try (simp at h; done)
    · split at h <;> try (simp at h; done)
      simp only [Option.map_eq_some_iff] at h
      obtain ⟨p', hp', rfl⟩ := h
      exact .ofR rfl fun hr hf hs => build_sound hr hf hop (by assumption) (.inl ⟨_, by assumption, by assumption, hp'⟩) hs
    · split at h <;> try (simp at h; done)
      simp only [Option.map_eq_some_iff] at h
      obtain ⟨p', hp', rfl⟩ := h
      exact .ofR rfl fun hr hf hs => build_sound hr hf hop (by assumption) (.inr ⟨_, _, _, by assumption, by assumption, hp'⟩) hs
  case buildSlice =>
    split at h <;> try (simp at h; done)
    split at h <;> try (simp at h; done)
    split at h <;> try (simp at h; done)
    simp only [Option.map_eq_some_iff] at h
    obtain ⟨p', hp', rfl⟩ := h
    rename_i hc
    simp at hc
    exact .ofM rfl fun hr hf hs => bslice_sound hr hf hop (by assumption) (by assumption) (by omega) hp' hs
  case load =>
    split at h <;> simp at h
    subst h
    exact .ofR rfl fun hr hf hs => ld_sound hr hf hop (by assumption) (by assumption) hs
  case store =>
    split at h <;> simp at h
    subst h
    exact .ofW rfl fun hr hf hs => st_sound hr hf hop (by assumption) (by assumption) (by assumption) hs
  case nilCheck =>
    simp only [Option.map_eq_some_iff] at h
    obtain ⟨y, hy, rfl⟩ := h
    exact .ofR rfl fun hr hf hs => nchk_sound hr hf hop hy hs
  case binOp =>
    split at h <;> try (simp at h; done)
    split at h
    · simp at h; subst h
      exact .ofR rfl fun hr hf hs => bin_sound hr hf hop (by assumption) (by assumption) hs
    · split at h
      · split at h <;> simp at h <;> subst h
        · exact .ofR rfl fun hr hf hs => eqT_sound hr hf hop (.inl ⟨rfl, rfl⟩) (by assumption) (by assumption) (by assumption) (by assumption) hs
        · exact .no (.inl rfl) (fun hh => hh)
      · split at h <;> simp at h <;> subst h
        · exact .ofR rfl fun hr hf hs => eqT_sound hr hf hop (.inr ⟨rfl, rfl⟩) (by assumption) (by assumption) (by assumption) (by assumption) hs
        · exact .no (.inl rfl) (fun hh => hh)
      · split at h <;> simp at h <;> subst h
        · rename_i hg hfl
          exact .ofR rfl fun hr hf hs => eqA_sound hr hf hop (.inl ⟨rfl, rfl⟩) (by assumption) (by simpa using hg) hfl (by assumption) (by assumption) hs
        · exact .no (.inl rfl) (fun hh => hh)
      · split at h <;> simp at h <;> subst h
        · rename_i hg hfl
          exact .ofR rfl fun hr hf hs => eqA_sound hr hf hop (.inr ⟨rfl, rfl⟩) (by assumption) (by simpa using hg) hfl (by assumption) (by assumption) hs
        · exact .no (.inl rfl) (fun hh => hh)
      · simp at h; subst h
        exact .ofR rfl fun hr hf hs => eqB_sound hr hf hop (.inl ⟨rfl, rfl⟩) (by assumption) (by assumption) (by assumption) hs
      · simp at h; subst h
        exact .ofR rfl fun hr hf hs => eqB_sound hr hf hop (.inr ⟨rfl, rfl⟩) (by assumption) (by assumption) (by assumption) hs
      · split at h <;> simp at h <;> subst h
        · exact .ofR rfl fun hr hf hs => nilq_sound hr hf hop (.inl ⟨rfl, rfl⟩) (by assumption) (by assumption) hs
        · exact .no (.inl rfl) (fun hh => hh)
      · split at h <;> simp at h <;> subst h
        · exact .ofR rfl fun hr hf hs => nilq_sound hr hf hop (.inr ⟨rfl, rfl⟩) (by assumption) (by assumption) hs
        · exact .no (.inl rfl) (fun hh => hh)
      · simp at h; subst h
        exact .no (.inl rfl) (fun hh => hh)
  case unOp =>
    simp only [Option.map_eq_some_iff] at h
    obtain ⟨y, hy, rfl⟩ := h
    exact .ofR rfl fun hr hf hs => un_sound hr hf hop hy hs
  case convert =>
    split at h
    · simp at h; subst h
      refine .ofR rfl fun {B Φ Z H w a fr q K} hr hf hs => ?_
      rename_i x' _ _ _ _
      simp only [stepM, cviK] at hs
      split at hs
      · exact cvi_sound hr hf hop (by assumption) (by assumption) (by assumption) (by assumption) hs
      · exact hs.elim
    · split at h <;> simp at h
      subst h
      exact .ofR rfl fun hr hf hs => b2s_sound hr hf hop (by assumption) (by assumption) (by assumption) (by assumption) hs.1 hs.2
    · split at h <;> simp at h
      subst h
      refine .ofM rfl fun {B Φ Z H w a fr C} hr hf hs => ?_
      simp only [mkM] at hs
      split at hs
      · exact s2b_sound hr hf hop (by assumption) (by assumption) (by assumption) (by assumption) (by assumption) hs
      · exact hs.elim
    · simp at h; subst h
      rename_i h1 h2 h3
      exact .ofR rfl fun hr hf hs => cvs_sound hr hf hop h1 h2 h3 hs
    · simp at h
  case makeFunc =>
    split at h <;> simp at h
    subst h
    exact .ofR rfl fun hr hf hs => mkf_sound hr hf hop (by assumption) (by assumption) hs
  case makeSlice =>
    split at h <;> try (simp at h; done)
    split at h <;> try (simp at h; done)
    split at h <;> simp at h
    subst h
    exact .ofM rfl fun hr hf hs => mks_sound hr hf hop (by assumption) (by assumption) (by assumption) (by assumption) (by assumption) hs
  case slice =>
    split at h
    · simp at h; subst h
      rename_i hm
      rcases opdO_some hm with ⟨rfl, _⟩ | ⟨_, _, _, h', _⟩
      · exact .ofR rfl fun hr hf hs => slS_sound hr hf hop (by assumption) (by assumption) (by assumption) (by assumption) hs
      · cases h'
    · split at h <;> try (simp at h; done)
      split at h <;> simp at h
      subst h
      exact .ofR rfl fun hr hf hs => sl_sound hr hf hop (by assumption) (by assumption) (by assumption) (by assumption) (by assumption) (by assumption) hs
    · split at h <;> try (simp at h; done)
      split at h <;> simp at h
      subst h
      exact .ofR rfl fun hr hf hs => slA_sound hr hf hop (by assumption) (by assumption) (by assumption) (by assumption) (by assumption) (by assumption) hs
    · simp at h
  case fieldAddr =>
    split at h <;> try (simp at h; done)
    split at h <;> try (simp at h; done)
    split at h <;> try (simp at h; done)
    split at h <;> simp at h
    subst h
    exact .ofR rfl fun hr hf hs => fa_sound hr hf hop (by assumption) (by assumption) (by assumption) (by assumption) (by assumption) hs
  case field =>
    split at h <;> try (simp at h; done)
    split at h <;> try (simp at h; done)
    split at h <;> simp at h
    subst h
    exact .ofR rfl fun hr hf hs => fld_sound hr hf hop (by assumption) (by assumption) (by assumption) (by assumption) hs
  case indexAddr =>
    split at h
    · split at h <;> try (simp at h; done)
      split at h <;> simp at h
      subst h
      exact .ofR rfl fun hr hf hs => ia_sound hr hf hop (by assumption) (by assumption) (by assumption) (by assumption) hs
    · split at h <;> try (simp at h; done)
      split at h <;> simp at h
      subst h
      exact .ofR rfl fun hr hf hs => iaA_sound hr hf hop (by assumption) (by assumption) (by assumption) (by assumption) hs
    · simp at h
  case index =>
    split at h
    · simp at h; subst h
      exact .ofR rfl fun hr hf hs => ixS_sound hr hf hop (by assumption) (by assumption) (by assumption) hs
    · split at h <;> try (simp at h; done)
      · split at h <;> simp at h
        subst h
        exact .ofR rfl fun hr hf hs => ixA_sound hr hf hop (by assumption) (.inl ⟨rfl, by assumption, by assumption⟩) (by assumption) (by assumption) hs
      · simp at h; subst h
        exact .ofR rfl fun hr hf hs => ixA_sound hr hf hop (by assumption) (.inr ⟨rfl, rfl, by assumption⟩) (by assumption) (by assumption) hs
    · simp at h
  case extract =>
    simp only [Option.map_eq_some_iff] at h
    obtain ⟨y, hy, rfl⟩ := h
    exact .ofR rfl fun hr hf hs => ext_sound hr hf hop hy hs
  case lookup =>
    split at h <;> try (simp at h; done)
    split at h <;> simp at h
    subst h
    exact .ofR rfl fun hr hf hs => look_sound hr hf hop (by assumption) (by assumption) (by assumption) (by assumption) (by assumption) hs
  case mapUpdate =>
    split at h <;> simp at h
    obtain ⟨ks, hks, rfl⟩ := h
    exact .ofW rfl fun hr hf hs => mset_sound hr hf (.inl hop) (by assumption) hks (by assumption) (by assumption) (by assumption) hs
  case insert =>
    split at h <;> simp at h
    obtain ⟨ks, hks, rfl⟩ := h
    exact .ofW rfl fun hr hf hs => mset_sound hr hf (.inr hop) (by assumption) hks (by assumption) (by assumption) (by assumption) hs
  case range =>
    split at h <;> simp at h <;> subst h
    · exact .ofW rfl fun hr hf hs => rng_sound hr hf hop (by assumption) (by assumption) hs
    · exact .no (.inl rfl) (fun hh => hh)
  case next =>
    split at h <;> simp at h <;> subst h
    · exact .ofW rfl fun hr hf hs => nxt_sound hr hf hop (by assumption) hs
    · exact .no (.inl rfl) (fun hh => hh)
  case entry =>
    split at h <;> simp at h <;> subst h
    · exact .ofR rfl fun hr hf hs => ent_sound hr hf hop (by assumption) hs
    · exact .no (.inl rfl) (fun hh => hh)
  case makeMap t r =>
    cases r with
    | none => simp at h; subst h; exact .ofM rfl fun hr hf hs => mkm_sound hop hs
    | some x => simp at h; exact hbad h.symm
  case call c =>
    cases hcal : c.callee with
    | builtin b => exact compBuiltin_ok hop hcal h
    | invoke _ _ =>
      simp [compCall, hcal] at h
      exact hbad h.symm
    | value x =>
      have hm : (∃ f as, m = .call f as) ∨ (∃ y as, m = .callv y as) ∨ m = .bad := by
        unfold compCall at h
        rw [hcal] at h
        simp only at h
        split at h
        · split at h <;> try (simp at h; done)
          split at h <;> simp at h <;> subst h
          · exact .inl ⟨_, _, rfl⟩
          · exact .inr (.inr rfl)
        · rename_i hx
          cases hx
          split at h <;> simp at h
          subst h
          exact .inr (.inl ⟨_, _, rfl⟩)
        · rename_i hx; cases hx
        · rename_i hx; cases hx
      rcases hm with ⟨f, as, rfl⟩ | ⟨y, as, rfl⟩ | rfl
      · refine ⟨fun hk => (by cases hk), fun hk => (by cases hk), fun _ {B Φ Z H w a fr q K} hr hf hs => ?_, fun _ {B Φ Z H w a fr next Q r} hr hf hs hn => ?_⟩
        · obtain ⟨rargs, h1, h2⟩ := call_exec hf hr.glob hop h
          exact call_comes hr h1 h2 hs
        · obtain ⟨rargs, h1, h2⟩ := call_exec hf hr.glob hop h
          simp only [stepM, callK, if_true] at hs
          obtain ⟨r', h3, rfl, _⟩ := hs
          have := h3 []
          rw [List.append_nil] at this
          exact call_quiet hr h1 h2 this hn
      · refine ⟨fun hk => (by cases hk), fun hk => (by cases hk), fun _ {B Φ Z H w a fr q K} hr hf hs => ?_, fun _ {B Φ Z H w a fr next Q r} hr hf hs hn => ?_⟩
        · simp only [stepM, callvK] at hs
          split at hs
          · rename_i f first cap hx
            obtain ⟨rargs, h1, h2⟩ := callv_exec hf hr.glob hop h hx hs.1
            exact call_comes hr h1 h2 hs.2
          · exact hs.elim
        · simp only [stepM, callvK] at hs
          split at hs
          · rename_i f first cap hx
            obtain ⟨rargs, h1, h2⟩ := callv_exec hf hr.glob hop h hx hs.1
            obtain ⟨_, hs⟩ := hs
            simp only [callK, if_true] at hs
            obtain ⟨r', h3, rfl, _⟩ := hs
            have := h3 []
            rw [List.append_nil] at this
            exact call_quiet hr h1 h2 this hn
          · exact hs.elim
      · exact hbad rfl
  all_goals first
    | (simp at h; exact hbad h.symm)
    | (simp at h; done)

end
end Go.MW

/- Regions in text order, and code: 'mwp' is sound. -/
namespace Go.MW
open Go Go.RowKit
set_option linter.unusedVariables false
set_option linter.unusedSimpArgs false

/-- A state of the small code, and the frame and the world that stand to it. -/
def At (G : Nat → Option (List V)) (B : Bd) (nt : Nat) (Φ0 : Nat → Option Pl) (Z0 : Nat → Prop) (w0 : World) (st : St) (a : Act) (w : World) : Prop :=
  ∃ Φ Z, Rel G B Φ Z st.H w ∧ FrR Φ Z w st.fr a ∧ Ev B Φ0 Z0 w0 Φ Z w ∧ a.tmps.size = nt ∧ a.defers = []

def Lift (G : Nat → Option (List V)) (B : Bd) (nt : Nat) (Φ0 : Nat → Option Pl) (Z0 : Nat → Prop) (w0 : World) (M : Exit → St → Prop) (e : Exit) (a : Act) (w : World) : Prop := ∃ st, M e st ∧ At G B nt Φ0 Z0 w0 st a w

section
variable {P : Program} {G : Nat → Option (List V)} {B : Bd} {nt : Nat} {Φ0 : Nat → Option Pl} {Z0 : Nat → Prop} {w0 : World}

theorem FrR.ev {Φ Φ' : Nat → Option Pl} {Z Z' : Nat → Prop} {w w' : World} {fr : Fr} {a : Act} (h : FrR Φ Z w fr a) (e : Ev B Φ Z w Φ' Z' w') : FrR Φ' Z' w' fr a := fun i => (h i).ev e

theorem FrR.put {Φ : Nat → Option Pl} {Z : Nat → Prop} {w : World} {fr : Fr} {a : Act} {d : Option Nat} {v : V} {rv : Value} (h : FrR Φ Z w fr a) (hv : VR Φ Z w v rv) (hd : ∀ t, d = some t → t < a.tmps.size) : FrR Φ Z w (put d v fr) (a.put d rv) := by
  intro i
  cases d with
  | none => exact h i
  | some t =>
    have ht := hd t rfl
    simp only [MW.put, get_cons, Act.put]
    by_cases hi : t = i
    · subst hi
      simpa [Array.getD, ht] using hv
    · rw [if_neg hi]
      have := h i
      simpa [Array.getD_eq_getD_getElem?, Array.getElem?_setIfInBounds_ne hi] using this

theorem put_size (a : Act) (d : Option Nat) (v : Value) : (a.put d v).tmps.size = a.tmps.size := by cases d <;> simp [Act.put]
theorem put_defers' (a : Act) (d : Option Nat) (v : Value) : (a.put d v).defers = a.defers := by cases d <;> rfl

theorem dstOK_spec {d : Option Nat} (h : dstOK nt d = true) : ∀ t, d = some t → t < nt := by
  rintro t rfl
  simpa [dstOK] using h

/-- A guard, in text and in the run. -/
theorem guard_sound {ops : Array Oper} {o : Oper} {g : Option (Nat × Bool)} {Φ : Nat → Option Pl} {Z : Nat → Prop} {w : World} {fr : Fr} {a : Act} {p q : Prop} (hf : FrR Φ Z w fr a) (hs : a.tmps.size = nt) (hg : compGuard ops.toList nt o.guard = some g) (h : gdK fr g p q) :
    (Region.wanted o (yielded ops a.tmps) = true ∧ p) ∨ (Region.wanted o (yielded ops a.tmps) = false ∧ q) := by
  unfold Region.wanted
  cases hog : o.guard with
  | none =>
    rw [hog] at hg
    simp [compGuard] at hg
    subst hg
    exact .inl ⟨rfl, h⟩
  | some jw =>
    obtain ⟨j, want⟩ := jw
    rw [hog] at hg
    simp only [compGuard] at hg
    split at hg <;> try (simp at hg; done)
    rename_i d hd
    by_cases hdn : d < nt
    case neg => rw [if_neg hdn] at hg; cases hg
    rw [if_pos hdn] at hg
    obtain rfl := Option.some.inj hg
    simp only [gdK] at h
    split at h
    · rename_i b hb
      have hv := hf d
      rw [hb] at hv
      have hv' := hv.bool_inv
      have hy : yielded ops a.tmps j = some b := by
        unfold yielded
        have : (ops[j]?).bind (·.dst) = some d := by simpa using hd
        rw [this]
        have : a.tmps[d]? = some (.bool b) := by
          have hlt : d < a.tmps.size := by rw [hs]; exact hdn
          rw [Array.getElem?_eq_getElem hlt]
          rw [← hv']
          simp [Array.getD, hlt]
        simp [this]
      simp only [hy]
      rcases hbw : (b == want) with _ | _
      · right
        refine ⟨?_, h.2 hbw⟩
        simpa using hbw
      · left
        refine ⟨?_, h.1 hbw⟩
        simpa using hbw
    · rename_i hb
      have hv := hf d
      rw [hb] at hv
      have hv' : a.tmps.getD d undef = .tuple #[] := by
        generalize a.tmps.getD d undef = r at hv ⊢
        cases hv with
        | tup cs rs hl _ =>
          have : rs = #[] := Array.eq_empty_of_size_eq_zero (by simpa using hl)
          rw [this]
      have hy : yielded ops a.tmps j = none := by
        unfold yielded
        have : (ops[j]?).bind (·.dst) = some d := by simpa using hd
        rw [this]
        have : a.tmps[d]? = some (.tuple #[]) := by
          have hlt : d < a.tmps.size := by rw [hs]; exact hdn
          rw [Array.getElem?_eq_getElem hlt]
          rw [← hv']
          simp [Array.getD, hlt]
        simp [this]
      exact .inr ⟨by simp [hy], h⟩
    · exact h.elim

theorem stepM_comes {o : Oper} {m : MOp} {Φ : Nat → Option Pl} {Z : Nat → Prop} {H : List Blk} {w : World} {a : Act} {fr : Fr} {q : Bool} {K : V → List Blk → Prop} (ok : OpOK P G o m) (hrel : Rel G B Φ Z H w) (hf : FrR Φ Z w fr a) (h : stepM P G q m fr H K) : Comes' P G B o a w Φ Z K := by
  rcases hk : m.kind with _ | _ | k
  · exact (ok.rd hk hrel hf h).comes hrel
  · refine Makes.comes (ok.mkr hk hrel hf ?_) hrel
    cases m <;> simp [MOp.kind] at hk <;> exact h
  · exact ok.wr (by omega) hrel hf h

theorem mops_seq {ops : Array Oper} {M : Exit → St → Prop} : ∀ (l : List Oper) (i : Nat) (ms : List MO), ops.toList.drop i = l → compOps P nt ops.toList l = some ms → ∀ (st : St) (a : Act) (w : World), mops P G ms (M .normal) st → At G B nt Φ0 Z0 w0 st a w →
    wpOps P ops (Lift G B nt Φ0 Z0 w0 M) (List.range' i l.length) a w
  | [], i, ms, _, hc, st, a, w, h, hat => by
    simp [compOps] at hc
    subst hc
    simp only [List.length_nil, List.range'_zero, wpOps]
    exact ⟨st, h, hat⟩
  | o :: l, i, ms, hd, hc, st, a, w, h, hat => by
    simp only [compOps] at hc
    split at hc <;> try (simp at hc; done)
    rename_i m g ms' hm hg hms
    split at hc <;> simp at hc
    rename_i hdst
    subst hc
    obtain ⟨Φ, Z, hrel, hf, hev, hsz, hdf⟩ := hat
    have ho : ops[i]? = some o := by
      have := congrArg (·[0]?) hd
      simpa using this
    have hd' : ops.toList.drop (i + 1) = l := by
      rw [← List.drop_drop, hd]; rfl
    have ih := mops_seq (M := M) l (i + 1) ms' hd' hms
    simp only [mops] at h
    simp only [List.length_cons, List.range'_succ, wpOps, ho]
    rcases guard_sound (ops := ops) (o := o) hf hsz hg h with ⟨hw, h⟩ | ⟨hw, h⟩
    · rw [hw, if_pos rfl]
      refine .inl ?_
      refine stepM_comes (compOp_ok hm) hrel hf h _ _ ?_
      intro rv v H' Φ' Z' w' hk hv hr' hev'
      refine ih _ _ _ hk ⟨Φ', Z', hr', (hf.ev hev').put hv (fun t ht => by rw [hsz]; exact dstOK_spec hdst t ht), hev.trans hev', by rw [put_size]; exact hsz, by rw [put_defers']; exact hdf⟩
    · rw [hw]
      simp only [Bool.false_eq_true, if_false]
      exact ih _ _ _ h ⟨Φ, Z, hrel, hf.put (.tup [] #[] rfl (fun i hi => absurd hi (Nat.not_lt_zero _))) (fun t ht => by rw [hsz]; exact dstOK_spec hdst t ht), hev, by rw [put_size]; exact hsz, by rw [put_defers']; exact hdf⟩

/-- A region whose order is drawn. -/
def Drawn (P : Program) (G : Nat → Option (List V)) : Prop :=
  ∀ {B : Bd} {nt : Nat} {Φ0 : Nat → Option Pl} {Z0 : Nat → Prop} {w0 : World} {id : Nat} {ops : Array Oper} {ms : List MO} {M : Exit → St → Prop} {st : St} {a : Act} {w : World},
    comp P nt (.region id ops true) = some (.reg true ms) → mops P G ms (M .normal) st → At G B nt Φ0 Z0 w0 st a w → (Code.region id ops true).wp P (Lift G B nt Φ0 Z0 w0 M) a w

theorem findL_sound : ∀ (c : Code) (mc : MC), comp P nt c = some mc → ∀ (l : Nat), (∀ mr, findL mc l = some mr → ∃ r, findLabel c l = some r ∧ comp P nt r = some mr) ∧ (findL mc l = none → findLabel c l = none)
  | .skip, mc, hc, l => by simp [comp] at hc; subst hc; simp [findL, findLabel]
  | .region id ops draw, mc, hc, l => by
    have : ∃ d ms, mc = .reg d ms := by
      simp only [comp] at hc
      split at hc
      · obtain ⟨ms, _, e⟩ := Option.map_eq_some_iff.1 hc
        exact ⟨_, _, e.symm⟩
      · obtain ⟨ms, _, e⟩ := Option.map_eq_some_iff.1 hc
        exact ⟨_, _, e.symm⟩
    obtain ⟨d, ms, rfl⟩ := this
    simp [findL, findLabel]
  | .seq x y, mc, hc, l => by
    simp only [comp] at hc
    split at hc <;> simp at hc
    rename_i mx my hx hy
    subst hc
    obtain ⟨x1, x2⟩ := findL_sound x mx hx l
    obtain ⟨y1, y2⟩ := findL_sound y my hy l
    simp only [findL, findLabel]
    cases hf : findL mx l with
    | some mr =>
      obtain ⟨r, h1, h2⟩ := x1 mr hf
      simp only [h1]
      refine ⟨fun mr' h => ?_, fun h => by cases h⟩
      obtain rfl := Option.some.inj h
      exact ⟨_, rfl, by simp [comp, h2, hy]⟩
    | none =>
      simp only [x2 hf]
      exact ⟨y1, y2⟩
  | .cond c x y, mc, hc, l => by
    simp only [comp] at hc
    split at hc <;> simp at hc
    subst hc
    simp [findL, findLabel]
  | .block id c, mc, hc, l => by
    simp only [comp, Option.map_eq_some_iff] at hc
    obtain ⟨mx, hx, rfl⟩ := hc
    simp [findL, findLabel]
  | .loop c, mc, hc, l => by
    simp only [comp, Option.map_eq_some_iff] at hc
    obtain ⟨mx, hx, rfl⟩ := hc
    simp [findL, findLabel]
  | .exit id, mc, hc, l => by simp [comp] at hc; subst hc; simp [findL, findLabel]
  | .scope c, mc, hc, l => by
    have : (∃ x, mc = .scope x) ∨ ∃ l x r, mc = .scopeL l x r := by
      simp only [comp] at hc
      split at hc
      · unfold mkScope at hc
        split at hc
        · exact .inl ⟨_, (Option.some.inj hc).symm⟩
        · split at hc
          · exact .inr ⟨_, _, _, (Option.some.inj hc).symm⟩
          · cases hc
      · cases hc
    rcases this with ⟨x, rfl⟩ | ⟨l, x, r, rfl⟩ <;> simp [findL, findLabel]
  | .label l', mc, hc, l => by
    simp [comp] at hc
    subst hc
    by_cases hl : (l' == l) = true
    · simp only [findL, findLabel, hl, if_true]
      refine ⟨fun mr h => ?_, fun h => by cases h⟩
      obtain rfl := Option.some.inj h
      exact ⟨_, rfl, rfl⟩
    · simp only [findL, findLabel, if_neg hl]
      exact ⟨fun mr h => (by cases h), fun _ => trivial⟩
  | .goto l', mc, hc, l => by simp [comp] at hc; subst hc; simp [findL, findLabel]
  | .ret, mc, hc, l => by simp [comp] at hc; subst hc; simp [findL, findLabel]
  | .rangeFunc .., mc, hc, l => by simp [comp] at hc; subst hc; simp [findL, findLabel]
  | .refuse _, mc, hc, l => by simp [comp] at hc; subst hc; simp [findL, findLabel]

theorem findLabel_size : ∀ (c : Code) (l : Nat) (r : Code), findLabel c l = some r → SizeOf.sizeOf r ≤ SizeOf.sizeOf c
  | .seq a b, l, r, h => by
    simp only [findLabel] at h
    split at h
    · rename_i rest hr
      obtain rfl := Option.some.inj h
      have := findLabel_size a l rest hr
      simp only [Code.seq.sizeOf_spec]
      omega
    · have := findLabel_size b l r h
      simp only [Code.seq.sizeOf_spec]
      omega
  | .label l', l, r, h => by
    simp only [findLabel] at h
    split at h
    · obtain rfl := Option.some.inj h
      simp
    · cases h
  | .skip, _, _, h | .region .., _, _, h | .cond .., _, _, h | .block .., _, _, h | .loop _, _, _, h | .exit _, _, _, h | .scope _, _, _, h | .goto _, _, _, h | .ret, _, _, h | .rangeFunc .., _, _, h | .refuse _, _, _, h => by simp [findLabel] at h

theorem exists_least {p : Nat → Prop} : ∀ n, p n → ∃ m, p m ∧ ∀ k, p k → m ≤ k := by
  intro n
  induction n using Nat.strongRecOn with
  | _ n ih =>
    intro hn
    by_cases h : ∃ k, k < n ∧ p k
    · obtain ⟨k, h1, h2⟩ := h
      exact ih k h1 h2
    · exact ⟨n, hn, fun k hk => Nat.le_of_not_lt fun h' => h ⟨k, h', hk⟩⟩
open Classical in
/-- The least number that an invariant bears. -/
noncomputable def leastN (p : Nat → Prop) : Nat := if h : ∃ m, p m ∧ ∀ k, p k → m ≤ k then Classical.choose h else 0
theorem leastN_spec {p : Nat → Prop} {n : Nat} (h : p n) : p (leastN p) ∧ leastN p ≤ n := by
  have h' := exists_least n h
  unfold leastN
  rw [dif_pos h']
  exact ⟨(Classical.choose_spec h').1, (Classical.choose_spec h').2 n h⟩

theorem mwp_sound (hD : Drawn P G) : ∀ (c : Code) (mc : MC), comp P nt c = some mc → ∀ (M : Exit → St → Prop) (st : St) (a : Act) (w : World), mwp P G mc M st → At G B nt Φ0 Z0 w0 st a w → c.wp P (Lift G B nt Φ0 Z0 w0 M) a w
  | .skip, mc, hc, M, st, a, w, h, hat => by
    simp [comp] at hc
    subst hc
    exact wp_skip ⟨st, h, hat⟩
  | .region id ops draw, mc, hc, M, st, a, w, h, hat => by
    cases draw with
    | false =>
      simp only [comp, Bool.false_eq_true, if_false, Option.map_eq_some_iff] at hc
      obtain ⟨ms, hms, rfl⟩ := hc
      refine wp_region ?_
      have := mops_seq (P := P) (G := G) (B := B) (Φ0 := Φ0) (Z0 := Z0) (w0 := w0) (ops := ops) (M := M) ops.toList 0 ms rfl hms st a w h hat
      rw [List.range_eq_range']
      simpa using this
    | true =>
      have hc' := hc
      simp only [comp, if_true] at hc
      obtain ⟨ms, _, rfl⟩ := Option.map_eq_some_iff.1 hc
      exact hD hc' h hat
  | .seq x y, mc, hc, M, st, a, w, h, hat => by
    simp only [comp] at hc
    split at hc <;> simp at hc
    rename_i mx my hx hy
    subst hc
    refine wp_seq ?_
    refine wp_mono (mwp_sound hD x mx hx _ st a w h hat) ?_
    rintro e a' w' ⟨st', hM, hat'⟩
    cases e with
    | normal => exact mwp_sound hD y my hy M st' a' w' hM hat'
    | exit id => exact ⟨st', hM, hat'⟩
    | goto l => exact ⟨st', hM, hat'⟩
    | ret => exact ⟨st', hM, hat'⟩
    | panic ch => exact ⟨st', hM, hat'⟩
    | outgrown => exact ⟨st', hM, hat'⟩
  | .cond c x y, mc, hc, M, st, a, w, h, hat => by
    simp only [comp] at hc
    split at hc <;> simp at hc
    rename_i c' mx my hc' hx hy
    subst hc
    have h0 := hat
    obtain ⟨Φ, Z, hrel, hf, hev, hsz, hdf⟩ := hat
    simp only [mwp, condK] at h
    split at h
    · rename_i b hb
      have hv := ev_sound (x := c) hrel.glob hf hc'
      rw [hb] at hv
      have hv' := hv.bool_inv
      exact wp_cond_split hv' (fun ht => mwp_sound hD x mx hx M st a w (h.1 ht) h0) (fun ht => mwp_sound hD y my hy M st a w (h.2 ht) h0)
    · exact h.elim
  | .block id c, mc, hc, M, st, a, w, h, hat => by
    simp only [comp, Option.map_eq_some_iff] at hc
    obtain ⟨mx, hx, rfl⟩ := hc
    refine wp_block ?_
    refine wp_mono (mwp_sound hD c mx hx _ st a w h hat) ?_
    rintro e a' w' ⟨st', hM, hat'⟩
    cases e with
    | exit id' =>
      simp only [blockK] at hM
      simp only [Exit.inBlock]
      split
      · rename_i he
        rw [if_pos he] at hM
        exact ⟨st', hM, hat'⟩
      · rename_i he
        rw [if_neg he] at hM
        exact ⟨st', hM, hat'⟩
    | normal => exact ⟨st', hM, hat'⟩
    | goto l => exact ⟨st', hM, hat'⟩
    | ret => exact ⟨st', hM, hat'⟩
    | panic ch => exact ⟨st', hM, hat'⟩
    | outgrown => exact ⟨st', hM, hat'⟩
  | .loop c, mc, hc, M, st, a, w, h, hat => by
    simp only [comp, Option.map_eq_some_iff] at hc
    obtain ⟨mx, hx, rfl⟩ := hc
    obtain ⟨I, ⟨n, hI⟩, hround⟩ := h
    refine wp_loop_ghost (fun n a w => ∃ st, I n st ∧ At G B nt Φ0 Z0 w0 st a w) n ⟨st, hI, hat⟩ ?_
    rintro n a w ⟨st, hI, hat⟩
    refine wp_mono (mwp_sound hD c mx hx _ st a w (hround n st hI) hat) ?_
    rintro e a' w' ⟨st', hM, hat'⟩
    cases e with
    | normal =>
      obtain ⟨n', hlt, hI'⟩ := hM
      exact ⟨n', hlt, st', hI', hat'⟩
    | exit id => exact ⟨st', hM, hat'⟩
    | goto l => exact ⟨st', hM, hat'⟩
    | ret => exact ⟨st', hM, hat'⟩
    | panic ch => exact ⟨st', hM, hat'⟩
    | outgrown => exact ⟨st', hM, hat'⟩
  | .exit id, mc, hc, M, st, a, w, h, hat => by
    simp [comp] at hc
    subst hc
    exact wp_exit ⟨st, h, hat⟩
  | .scope c, mc, hc, M, st, a, w, h, hat => by
    simp only [comp] at hc
    split at hc
    case h_2 => cases hc
    rename_i mx hx
    unfold mkScope at hc
    split at hc
    · obtain rfl := Option.some.inj hc
      refine wp_scope_straight ?_
      refine wp_mono (mwp_sound hD c mx hx _ st a w h hat) ?_
      rintro e a' w' ⟨st', hM, hat'⟩
      cases e with
      | goto l => exact hM.elim
      | exit id => exact ⟨st', hM, hat'⟩
      | normal => exact ⟨st', hM, hat'⟩
      | ret => exact ⟨st', hM, hat'⟩
      | panic ch => exact ⟨st', hM, hat'⟩
      | outgrown => exact ⟨st', hM, hat'⟩
    · rename_i l hl
      split at hc
      case h_2 => cases hc
      rename_i mr hr
      obtain rfl := Option.some.inj hc
      obtain ⟨r, hfr, hcr⟩ := (findL_sound c mx hx l).1 mr hr
      obtain ⟨I, hfirst, hround⟩ := h
      have hsmall : SizeOf.sizeOf r < SizeOf.sizeOf (Code.scope c) := by
        have := findLabel_size c l r hfr
        simp only [Code.scope.sizeOf_spec]
        omega
      let J : Act → World → Prop := fun a w => ∃ n st, I n st ∧ At G B nt Φ0 Z0 w0 st a w
      let μ : Act → World → Nat := fun a w => leastN fun n => ∃ st, I n st ∧ At G B nt Φ0 Z0 w0 st a w
      refine wp_scope_jumps l J μ hfr ?_ ?_
      · refine wp_mono (mwp_sound hD c mx hx _ st a w hfirst hat) ?_
        rintro e a' w' ⟨st', hM, hat'⟩
        cases e with
        | goto l' =>
          obtain ⟨rfl, n, hI⟩ := hM
          exact ⟨rfl, n, st', hI, hat'⟩
        | exit id => exact ⟨st', hM, hat'⟩
        | normal => exact ⟨st', hM, hat'⟩
        | ret => exact ⟨st', hM, hat'⟩
        | panic ch => exact ⟨st', hM, hat'⟩
        | outgrown => exact ⟨st', hM, hat'⟩
      · rintro a w ⟨n, st, hI, hat⟩
        obtain ⟨⟨st1, hI1, hat1⟩, _⟩ := leastN_spec (p := fun n => ∃ st, I n st ∧ At G B nt Φ0 Z0 w0 st a w) (n := n) ⟨st, hI, hat⟩
        refine wp_mono (mwp_sound hD r mr hcr _ st1 a w (hround _ st1 hI1) hat1) ?_
        rintro e a' w' ⟨st', hM, hat'⟩
        cases e with
        | goto l' =>
          obtain ⟨rfl, n', hlt, hI'⟩ := hM
          refine ⟨rfl, ⟨n', st', hI', hat'⟩, ?_⟩
          exact Nat.lt_of_le_of_lt (leastN_spec (p := fun n => ∃ st, I n st ∧ At G B nt Φ0 Z0 w0 st a' w') (n := n') ⟨st', hI', hat'⟩).2 hlt
        | exit id => exact ⟨st', hM, hat'⟩
        | normal => exact ⟨st', hM, hat'⟩
        | ret => exact ⟨st', hM, hat'⟩
        | panic ch => exact ⟨st', hM, hat'⟩
        | outgrown => exact ⟨st', hM, hat'⟩
  | .label l, mc, hc, M, st, a, w, h, hat => by
    simp [comp] at hc
    subst hc
    exact wp_label ⟨st, h, hat⟩
  | .goto l, mc, hc, M, st, a, w, h, hat => by
    simp [comp] at hc
    subst hc
    exact wp_goto ⟨st, h, hat⟩
  | .ret, mc, hc, M, st, a, w, h, hat => by
    simp [comp] at hc
    subst hc
    exact wp_ret ⟨st, h, hat⟩
  | .rangeFunc .., mc, hc, M, st, a, w, h, hat => by
    simp [comp] at hc
    subst hc
    exact h.elim
  | .refuse _, mc, hc, M, st, a, w, h, hat => by
    simp [comp] at hc
    subst hc
    exact h.elim
termination_by c => SizeOf.sizeOf c

end
end Go.MW

/- Each operation of the small code comes to one value, whatever stands behind the heap. -/
namespace Go.MW
open Go Go.RowKit
set_option linter.unusedVariables false
set_option linter.unusedSimpArgs false

/-- It comes to one value, the same one on a heap with more blocks behind. -/
def Det {α : Type} (f : List Blk → (α → Prop) → Prop) : Prop := ∀ H K, f H K → ∃ v, K v ∧ ∀ T K', K' v → f (H ++ T) K'

theorem Det.same {α : Type} {f : List Blk → (α → Prop) → Prop} (h : Det f) {H : List Blk} {K : α → Prop} (hf : f H K) : ∃ v, K v ∧ ∀ K', K' v → f H K' := by
  obtain ⟨v, h1, h2⟩ := h H K hf
  exact ⟨v, h1, fun K' hk => by simpa using h2 [] K' hk⟩

theorem getB_app {H T : List Blk} {b : Nat} {sz : Nat} {xs : List V} {opn frz : Bool} (h : getB H b = .row sz xs opn frz) : getB (H ++ T) b = .row sz xs opn frz := by
  have hlt : b < H.length := by
    rcases Nat.lt_or_ge b H.length with h' | h'
    · exact h'
    · simp [getB, List.getD_eq_getElem?_getD, List.getElem?_eq_none h'] at h
  simp only [getB, List.getD_eq_getElem?_getD] at h ⊢
  rw [List.getElem?_append_left hlt]
  exact h

theorem getB_app' {H T : List Blk} {b : Nat} (h : b < H.length) : getB (H ++ T) b = getB H b := by
  simp only [getB, List.getD_eq_getElem?_getD]
  rw [List.getElem?_append_left h]

section
variable {P : Program} {G : Nat → Option (List V)}

theorem nchkK_det (x : V) : Det fun _ => nchkK x := by
  intro H K h
  cases x <;> simp only [nchkK] at h ⊢ <;> first | exact h.elim | exact ⟨_, h, fun _ _ hk => hk⟩ | skip
  rename_i f _ _
  cases f <;> simp only at h ⊢ <;> first | exact h.elim | exact ⟨_, h, fun _ _ hk => hk⟩

theorem binK_det (op : BinOp) (x y : V) : Det fun _ => binK op x y := by
  intro H K h
  cases x <;> cases y <;> cases op <;> simp only [binK] at h ⊢ <;> first | exact h.elim | exact ⟨_, h, fun _ _ hk => hk⟩ | exact ⟨_, h.2, fun _ _ hk => ⟨h.1, hk⟩⟩ | exact ⟨_, h.2.2, fun _ _ hk => ⟨h.1, h.2.1, hk⟩⟩ | exact ⟨_, h.2.2.2, fun _ _ hk => ⟨h.1, h.2.1, h.2.2.1, hk⟩⟩ | exact ⟨_, h.2.2.2.2, fun _ _ hk => ⟨h.1, h.2.1, h.2.2.1, h.2.2.2.1, hk⟩⟩

theorem unK_det (op : UnOp) (x : V) : Det fun _ => unK op x := by
  intro H K h
  cases op <;> cases x <;> simp only [unK] at h ⊢ <;> first | exact h.elim | exact ⟨_, h, fun _ _ hk => hk⟩ | exact ⟨_, h.2, fun _ _ hk => ⟨h.1, hk⟩⟩ | exact ⟨_, h.2.2, fun _ _ hk => ⟨h.1, h.2.1, hk⟩⟩ | exact ⟨_, h.2.2.2, fun _ _ hk => ⟨h.1, h.2.1, h.2.2.1, hk⟩⟩ | exact ⟨_, h.2.2.2.2, fun _ _ hk => ⟨h.1, h.2.1, h.2.2.1, h.2.2.2.1, hk⟩⟩

theorem faK_det (off : Nat) (x : V) : Det fun _ => faK off x := by
  intro H K h
  cases x <;> simp only [faK] at h ⊢ <;> first | exact h.elim | exact ⟨_, h, fun _ _ hk => hk⟩ | exact ⟨_, h.2, fun _ _ hk => ⟨h.1, hk⟩⟩ | exact ⟨_, h.2.2, fun _ _ hk => ⟨h.1, h.2.1, hk⟩⟩ | exact ⟨_, h.2.2.2, fun _ _ hk => ⟨h.1, h.2.1, h.2.2.1, hk⟩⟩ | exact ⟨_, h.2.2.2.2, fun _ _ hk => ⟨h.1, h.2.1, h.2.2.1, h.2.2.2.1, hk⟩⟩

theorem iaAK_det (n sz : Nat) (x i : V) : Det fun _ => iaAK n sz x i := by
  intro H K h
  cases x <;> cases i <;> simp only [iaAK] at h ⊢ <;> first | exact h.elim | exact ⟨_, h, fun _ _ hk => hk⟩ | exact ⟨_, h.2, fun _ _ hk => ⟨h.1, hk⟩⟩ | exact ⟨_, h.2.2, fun _ _ hk => ⟨h.1, h.2.1, hk⟩⟩ | exact ⟨_, h.2.2.2, fun _ _ hk => ⟨h.1, h.2.1, h.2.2.1, hk⟩⟩ | exact ⟨_, h.2.2.2.2, fun _ _ hk => ⟨h.1, h.2.1, h.2.2.1, h.2.2.2.1, hk⟩⟩

theorem ixAK_det (n sz : Nat) (agg : Bool) (x i : V) : Det fun _ => ixAK n sz agg x i := by
  intro H K h
  cases x <;> cases i <;> simp only [ixAK] at h ⊢ <;> first | exact h.elim | exact ⟨_, h, fun _ _ hk => hk⟩ | exact ⟨_, h.2, fun _ _ hk => ⟨h.1, hk⟩⟩ | exact ⟨_, h.2.2, fun _ _ hk => ⟨h.1, h.2.1, hk⟩⟩ | exact ⟨_, h.2.2.2, fun _ _ hk => ⟨h.1, h.2.1, h.2.2.1, hk⟩⟩ | exact ⟨_, h.2.2.2.2, fun _ _ hk => ⟨h.1, h.2.1, h.2.2.1, h.2.2.2.1, hk⟩⟩

theorem ixSK_det (x i : V) : Det fun _ => ixSK x i := by
  intro H K h
  cases x <;> cases i <;> simp only [ixSK] at h ⊢ <;> first | exact h.elim | exact ⟨_, h, fun _ _ hk => hk⟩ | exact ⟨_, h.2, fun _ _ hk => ⟨h.1, hk⟩⟩ | exact ⟨_, h.2.2, fun _ _ hk => ⟨h.1, h.2.1, hk⟩⟩ | exact ⟨_, h.2.2.2, fun _ _ hk => ⟨h.1, h.2.1, h.2.2.1, hk⟩⟩ | exact ⟨_, h.2.2.2.2, fun _ _ hk => ⟨h.1, h.2.1, h.2.2.1, h.2.2.2.1, hk⟩⟩

theorem extK_det (x : V) (i : Nat) : Det fun _ => (fun K => extK x i K) := by
  intro H K h
  cases x <;> simp only [extK] at h ⊢ <;> first | exact h.elim | exact ⟨_, h, fun _ _ hk => hk⟩ | exact ⟨_, h.2, fun _ _ hk => ⟨h.1, hk⟩⟩ | exact ⟨_, h.2.2, fun _ _ hk => ⟨h.1, h.2.1, hk⟩⟩ | exact ⟨_, h.2.2.2, fun _ _ hk => ⟨h.1, h.2.1, h.2.2.1, hk⟩⟩ | exact ⟨_, h.2.2.2.2, fun _ _ hk => ⟨h.1, h.2.1, h.2.2.1, h.2.2.2.1, hk⟩⟩

theorem pickK_det (c a b : V) : Det fun _ => pickK c a b := by
  intro H K h
  cases c <;> simp only [pickK] at h ⊢ <;> first | exact h.elim | exact ⟨_, h, fun _ _ hk => hk⟩ | exact ⟨_, h.2, fun _ _ hk => ⟨h.1, hk⟩⟩ | exact ⟨_, h.2.2, fun _ _ hk => ⟨h.1, h.2.1, hk⟩⟩ | exact ⟨_, h.2.2.2, fun _ _ hk => ⟨h.1, h.2.1, h.2.2.1, hk⟩⟩ | exact ⟨_, h.2.2.2.2, fun _ _ hk => ⟨h.1, h.2.1, h.2.2.1, h.2.2.2.1, hk⟩⟩

theorem minK_det (lt : Bool) (x y : V) : Det fun _ => minK lt x y := by
  intro H K h
  cases x <;> cases y <;> simp only [minK] at h ⊢ <;> first | exact h.elim | exact ⟨_, h, fun _ _ hk => hk⟩ | exact ⟨_, h.2, fun _ _ hk => ⟨h.1, hk⟩⟩ | exact ⟨_, h.2.2, fun _ _ hk => ⟨h.1, h.2.1, hk⟩⟩ | exact ⟨_, h.2.2.2, fun _ _ hk => ⟨h.1, h.2.1, h.2.2.1, hk⟩⟩ | exact ⟨_, h.2.2.2.2, fun _ _ hk => ⟨h.1, h.2.1, h.2.2.1, h.2.2.2.1, hk⟩⟩

theorem fldK_det (agg : Option Nat) (off : Nat) (x : V) : Det fun _ => fldK agg off x := by
  intro H K h
  cases x <;> cases agg <;> simp only [fldK] at h ⊢ <;> first | exact h.elim | exact ⟨_, h, fun _ _ hk => hk⟩ | exact ⟨_, h.2, fun _ _ hk => ⟨h.1, hk⟩⟩ | exact ⟨_, h.2.2, fun _ _ hk => ⟨h.1, h.2.1, hk⟩⟩ | exact ⟨_, h.2.2.2, fun _ _ hk => ⟨h.1, h.2.1, h.2.2.1, hk⟩⟩ | exact ⟨_, h.2.2.2.2, fun _ _ hk => ⟨h.1, h.2.1, h.2.2.1, h.2.2.2.1, hk⟩⟩

theorem nilqK_det (neg : Bool) (x : V) : Det fun _ => nilqK neg x := by
  intro H K h
  cases x <;> simp only [nilqK] at h ⊢ <;> first | exact h.elim | exact ⟨_, h, fun _ _ hk => hk⟩

theorem bnd_det (d : Nat) (x : Option V) : Det fun _ => bnd d x := by
  intro H K h
  rcases x with _ | x
  · exact ⟨_, h, fun _ _ hk => hk⟩
  · cases x <;> simp only [bnd] at h ⊢ <;> first | exact h.elim | exact ⟨_, h, fun _ _ hk => hk⟩ | exact ⟨_, h.2, fun _ _ hk => ⟨h.1, hk⟩⟩ | exact ⟨_, h.2.2, fun _ _ hk => ⟨h.1, h.2.1, hk⟩⟩ | exact ⟨_, h.2.2.2, fun _ _ hk => ⟨h.1, h.2.1, h.2.2.1, hk⟩⟩ | exact ⟨_, h.2.2.2.2, fun _ _ hk => ⟨h.1, h.2.1, h.2.2.1, h.2.2.2.1, hk⟩⟩

/-- One behind another. -/
theorem Det.bind {α β : Type} {f : List Blk → (α → Prop) → Prop} {g : α → List Blk → (β → Prop) → Prop} {C : α → Prop} (hf : Det f) (hg : ∀ a, Det (g a)) : Det fun H K => f H fun a => C a ∧ g a H K := by
  intro H K h
  obtain ⟨a, h1, h2⟩ := hf H _ h
  obtain ⟨b, h3, h4⟩ := hg a H K h1.2
  exact ⟨b, h3, fun T K' hk => h2 T _ ⟨h1.1, h4 T K' hk⟩⟩

theorem Det.ret {α : Type} (v : α) : Det fun (_ : List Blk) (K : α → Prop) => K v := fun H K h => ⟨v, h, fun _ _ hk => hk⟩

theorem Det.and {α : Type} {C : Prop} {f : List Blk → (α → Prop) → Prop} (hf : Det f) : Det fun H K => C ∧ f H K := by
  intro H K h
  obtain ⟨b, h3, h4⟩ := hf H K h.2
  exact ⟨b, h3, fun T K' hk => ⟨h.1, h4 T K' hk⟩⟩

theorem Det.ite {α : Type} {c : Prop} [Decidable c] {f g : List Blk → (α → Prop) → Prop} (hf : Det f) (hg : Det g) : Det fun H K => if c then f H K else g H K := by
  by_cases h : c
  · simp only [if_pos h]; exact hf
  · simp only [if_neg h]; exact hg

theorem Det.no {α : Type} : Det fun (_ : List Blk) (_ : α → Prop) => False := fun H K h => h.elim

theorem slSK_det (x : V) (lo hi : Option V) : Det fun _ => slSK x lo hi := by
  cases x <;> try exact Det.no
  rename_i s
  have := Det.bind (C := fun h => h ≤ s.length) (bnd_det s.length hi) fun h => Det.bind (C := fun l => l ≤ h) (bnd_det 0 lo) fun l => Det.ret (V.str ((s.drop l).take (h - l)))
  exact this

theorem ldK_det (agg : Option Nat) (a : V) : ∀ H (K : V → List Blk → Prop), ldK agg a H K → ∃ v, K v H ∧ ∀ T (K' : V → List Blk → Prop), K' v (H ++ T) → ldK agg a (H ++ T) K' := by
  intro H K h
  cases a <;> simp only [ldK] at h ⊢ <;> try exact h.elim
  · cases agg <;> exact ⟨_, h.2, fun _ _ hk => ⟨h.1, hk⟩⟩
  · split at h
    · rename_i hH
      obtain ⟨h1, h2, h3⟩ := h
      cases agg with
      | none => exact ⟨_, h3.2, fun T K' hk => by rw [getB_app hH]; exact ⟨h1, h2, h3.1, hk⟩⟩
      | some m => exact ⟨_, h3.2, fun T K' hk => by rw [getB_app hH]; exact ⟨h1, h2, h3.1, hk⟩⟩
    · exact h.elim

theorem elemsK_det (x : V) : Det fun H => elemsK H x := by
  intro H K h
  cases x <;> simp only [elemsK] at h ⊢ <;> try exact h.elim
  · exact ⟨_, h, fun _ _ hk => hk⟩
  · exact ⟨_, h, fun _ _ hk => hk⟩
  · exact ⟨_, h, fun _ _ hk => hk⟩
  · split at h
    · rename_i hH
      obtain ⟨h1, h2⟩ := h
      split at h2
      · rename_i hc
        refine ⟨_, h2.2, fun T K' hk => ?_⟩
        rw [getB_app hH]
        exact ⟨h1, by rw [if_pos hc]; exact ⟨h2.1, hk⟩⟩
      · rename_i hc
        refine ⟨_, h2.2.2.2.2, fun T K' hk => ?_⟩
        rw [getB_app hH]
        exact ⟨h1, by rw [if_neg hc]; exact ⟨h2.1, h2.2.1, h2.2.2.1, h2.2.2.2.1, hk⟩⟩
    · exact h.elim

theorem lenK_det (k : Nat) (x : V) : Det fun H => lenK k H x := by
  intro H K h
  rcases k with _ | _ | _ | k <;> cases x <;> simp only [lenK] at h ⊢ <;> try exact h.elim
  · exact ⟨_, h, fun _ _ hk => hk⟩
  · exact ⟨_, h, fun _ _ hk => hk⟩
  · exact ⟨_, h, fun _ _ hk => hk⟩
  · exact ⟨_, h, fun _ _ hk => hk⟩
  · obtain ⟨h1, h2⟩ := h
    split at h2
    · rename_i hH
      refine ⟨_, h2, fun T K' hk => ⟨by rw [List.length_append]; omega, ?_⟩⟩
      rw [getB_app' h1, hH]
      exact hk
    · exact h2.elim

theorem lookK_det (ks : List Nat) (ok : Bool) (z m k : V) : Det fun H => lookK ks ok z m k H := by
  intro H K h
  unfold lookK at h
  split at h
  · obtain ⟨h1, h⟩ := h
    split at h
    · rename_i hH
      obtain ⟨hk, h⟩ := h
      split at h
      · rename_i hf
        refine ⟨_, h, fun T K' hk' => ?_⟩
        unfold lookK
        refine ⟨by rw [List.length_append]; omega, ?_⟩
        rw [getB_app' h1, hH]
        refine ⟨hk, ?_⟩
        rw [hf]
        exact hk'
      · rename_i hf
        refine ⟨_, h, fun T K' hk' => ?_⟩
        unfold lookK
        refine ⟨by rw [List.length_append]; omega, ?_⟩
        rw [getB_app' h1, hH]
        refine ⟨hk, ?_⟩
        rw [hf]
        exact hk'
      · exact h.elim
    · exact h.elim
  · exact h.elim

theorem entK_det (x : V) : Det fun H => entK x H := by
  intro H K h
  unfold entK at h
  split at h
  · obtain ⟨h1, h⟩ := h
    split at h
    · rename_i hH
      obtain ⟨h2, h⟩ := h
      split at h
      · rename_i hH2
        obtain ⟨e1, e2, h⟩ := h
        split at h
        · rename_i hs
          split at h
          · rename_i hf
            refine ⟨_, h, fun T K' hk' => ?_⟩
            unfold entK
            refine ⟨by rw [List.length_append]; omega, ?_⟩
            rw [getB_app' h1, hH]
            refine ⟨by rw [List.length_append]; omega, ?_⟩
            rw [getB_app' h2, hH2]
            refine ⟨e1, e2, ?_⟩
            rw [hs]
            simp only [hf]
            exact hk'
          · exact h.elim
        · exact h.elim
      · exact h.elim
    · exact h.elim
  · exact h.elim

theorem capaK_det (x : V) : Det fun H => capaK H x := by
  intro H K h
  unfold capaK at h
  split at h
  · exact ⟨_, h, fun T K' hk => hk⟩
  · split at h
    · rename_i hb
      obtain ⟨h1, h2⟩ := h
      exact ⟨_, h2, fun T K' hk => by
        simp only [capaK, getB_app hb]
        exact ⟨h1, hk⟩⟩
    · exact h.elim
  · exact h.elim

theorem slHK_det (b n i j : Nat) (cap : Option Nat) (sz l h : Nat) : Det fun H => slHK H b n i j cap sz l h := by
  intro H K hh
  unfold slHK at hh
  split at hh
  · rename_i rsz xs opn frz hH
    obtain ⟨h1, h2⟩ := hh
    have e : ∀ T K', (slHK (H ++ T) b n i j cap sz l h K' ↔ (xs.length = n ∧ if l = 0 then K' (.hs b n i j h cap sz)
      else (if l = h ∧ (cap = some l ∨ cap = none) then K' (.vs [])
      else K' (if rsz = sz then .hs b n (i + l) j (h - l) (cap.map (· - l)) sz else .hs b n i (j + l * sz) (h - l) (cap.map (· - l)) sz)))) := by
      intro T K'
      unfold slHK
      rw [getB_app hH]
    split at h2
    · rename_i hc
      exact ⟨_, h2, fun T K' hk => by show slHK (H ++ T) b n i j cap sz l h K'; rw [e, if_pos hc]; exact ⟨h1, hk⟩⟩
    · rename_i hc
      split at h2
      · rename_i hc2
        exact ⟨_, h2, fun T K' hk => by show slHK (H ++ T) b n i j cap sz l h K'; rw [e, if_neg hc, if_pos hc2]; exact ⟨h1, hk⟩⟩
      · rename_i hc2
        exact ⟨_, h2, fun T K' hk => by show slHK (H ++ T) b n i j cap sz l h K'; rw [e, if_neg hc, if_neg hc2]; exact ⟨h1, hk⟩⟩
  · exact hh.elim

theorem slK_det (sz : Nat) (x : V) (lo hi mx : Option V) : Det fun H => slK H sz x lo hi mx := by
  refine Det.and (f := fun H K => _) ?_
  cases x <;> try exact Det.no
  · rename_i xs
    exact Det.and (Det.bind (C := fun m => m ≤ xs.length) (bnd_det _ _) fun m => Det.bind (C := fun h => h ≤ m) (bnd_det _ _) fun h => Det.bind (C := fun l => l ≤ h) (bnd_det _ _) fun l => Det.ret (V.vs ((xs.drop l).take (h - l))))
  · exact Det.bind (bnd_det _ _) fun m => Det.bind (bnd_det _ _) fun h => Det.bind (bnd_det _ _) fun l => Det.ret _
  · refine Det.and ?_
    rcases mx with _ | mx <;> rename_i cap _ <;> cases cap
    · exact Det.bind (bnd_det _ _) fun h => Det.bind (bnd_det _ _) fun l => slHK_det _ _ _ _ _ _ _ _
    · exact Det.bind (bnd_det _ _) fun h => Det.bind (bnd_det _ _) fun l => slHK_det _ _ _ _ _ _ _ _
    · exact Det.bind (bnd_det _ _) fun m => Det.bind (bnd_det _ _) fun h => Det.bind (bnd_det _ _) fun l => slHK_det _ _ _ _ _ _ _ _
    · exact Det.bind (bnd_det _ _) fun m => Det.bind (bnd_det _ _) fun h => Det.bind (bnd_det _ _) fun l => slHK_det _ _ _ _ _ _ _ _

theorem slAK_det (n sz : Nat) (x : V) (lo hi mx : Option V) : Det fun H => slAK H n sz x lo hi mx := by
  refine Det.and (f := fun H K => _) ?_
  cases x <;> try exact Det.no
  exact Det.bind (bnd_det _ _) fun m => Det.bind (bnd_det _ _) fun h => Det.bind (bnd_det _ _) fun l => slHK_det _ _ _ _ _ _ _ _

theorem iaK_det (sz : Nat) (x i : V) : Det fun H => iaK H sz x i := by
  intro H K h
  cases x <;> cases i <;> simp only [iaK] at h ⊢ <;> try exact h.elim
  · exact ⟨_, h.2.2.2, fun _ _ hk => ⟨h.1, h.2.1, h.2.2.1, hk⟩⟩
  · obtain ⟨h1, h2, h3, h4⟩ := h
    split at h4
    · rename_i hH
      refine ⟨_, h4.2, fun T K' hk => ⟨h1, h2, h3, ?_⟩⟩
      rw [getB_app hH]
      exact ⟨h4.1, hk⟩
    · exact h4.elim

theorem bytesK_det (xs : List V) : Det fun _ => bytesK xs := by
  rintro H K ⟨s, h1, h2⟩
  exact ⟨_, h2, fun _ _ hk => ⟨s, h1, hk⟩⟩

theorem partsV_det (fr : Fr) : ∀ (l : List (Nat × Nat × Opd)) (z : List V), Det fun _ => partsV G fr z l
  | [], z => Det.ret z
  | (off, sz, x) :: l, z => Det.and (Det.and (partsV_det fr l _))

theorem partsS_det (fr : Fr) (sz : Nat) : ∀ (l : List (Nat × Opd)) (z : List V), Det fun _ => partsS G fr sz z l
  | [], z => Det.ret z
  | (i, x) :: l, z => Det.and (Det.and (partsS_det fr sz l _))

end
end Go.MW

/- What an operation of the small code comes to hangs on its operands alone, and on the blocks that there are. -/
namespace Go.MW
open Go Go.RowKit
set_option linter.unusedVariables false
set_option linter.unusedSimpArgs false

section
variable {P : Program} {G : Nat → Option (List V)}

theorem Det.st {f : List Blk → (V → Prop) → Prop} (hf : Det f) {H : List Blk} {K : V → List Blk → Prop} (h : f H (K · H)) : ∃ v, K v H ∧ ∀ T (K' : V → List Blk → Prop), K' v (H ++ T) → f (H ++ T) (K' · (H ++ T)) := by
  obtain ⟨v, h1, h2⟩ := hf H _ h
  exact ⟨v, h1, fun T K' hk => h2 T (K' · (H ++ T)) hk⟩

theorem Det.st0 {f : (V → Prop) → Prop} (hf : Det fun _ => f) {H : List Blk} {K : V → List Blk → Prop} (h : f (K · H)) : ∃ v, K v H ∧ ∀ H2 (K' : V → List Blk → Prop), K' v H2 → f (K' · H2) := by
  obtain ⟨v, h1, h2⟩ := hf H _ h
  exact ⟨v, h1, fun H2 K' hk => h2 [] (K' · H2) hk⟩

theorem Det.map {α β : Type} {f : List Blk → (α → Prop) → Prop} (g : α → β) (hf : Det f) : Det fun H (K : β → Prop) => f H fun a => K (g a) := by
  intro H K h
  obtain ⟨v, h1, h2⟩ := hf H _ h
  exact ⟨g v, h1, fun T K' hk => h2 T _ hk⟩

theorem Det.bind0 {α β : Type} {f : List Blk → (α → Prop) → Prop} {g : α → List Blk → (β → Prop) → Prop} (hf : Det f) (hg : ∀ a, Det (g a)) : Det fun H K => f H fun a => g a H K := by
  intro H K h
  obtain ⟨a, h1, h2⟩ := hf H _ h
  obtain ⟨b, h3, h4⟩ := hg a H K h1
  exact ⟨b, h3, fun T K' hk => h2 T _ (h4 T K' hk)⟩

theorem cviK_det (k : IntKind) (x : V) : Det fun _ => cviK k x := by
  intro H K h
  cases x <;> first | exact h.elim | exact ⟨_, h, fun _ _ hk => hk⟩

theorem eqTK_det (neg : Bool) (ks : List Nat) (x y : V) : Det fun _ => eqTK neg ks x y := by
  intro H K h
  unfold eqTK at h ⊢
  split at h
  · split at h
    · exact ⟨_, h, fun _ _ hk => hk⟩
    · exact h.elim
  · exact h.elim

theorem eqBK_det (neg : Bool) (x y : V) : Det fun _ => eqBK neg x y := by
  intro H K h
  unfold eqBK at h ⊢
  split at h
  · exact ⟨_, h, fun _ _ hk => hk⟩
  · exact h.elim

/-- What touches no memory. -/
theorem stepM_cool {q : Bool} {m : MOp} {fr : Fr} {H : List Blk} {K : V → List Blk → Prop} (hm : m.heat = 0) (h : stepM P G q m fr H K) : ∃ v, K v H ∧ ∀ H2 (K' : V → List Blk → Prop), K' v H2 → stepM P G q m fr H2 K' := by
  cases m <;> simp [MOp.heat] at hm
  case mv x => exact ⟨_, h, fun _ _ hk => hk⟩
  case pick c a b => exact Det.st0 (pickK_det _ _ _) h
  case build z p => exact Det.st0 (Det.map V.agg (partsV_det fr p z)) h
  case nchk x => exact Det.st0 (nchkK_det _) h
  case bin op x y => exact Det.st0 (binK_det op _ _) h
  case eqT neg ks x y => exact Det.st0 (eqTK_det neg ks _ _) h
  case eqB neg x y => exact Det.st0 (eqBK_det neg _ _) h
  case nilq neg x => exact Det.st0 (nilqK_det neg _) h
  case un op x => exact Det.st0 (unK_det op _) h
  case cvi k x =>
    exact Det.st0 (cviK_det k _) h
  case mkf f a b => exact ⟨_, h, fun _ _ hk => hk⟩
  case slS x lo hi => exact Det.st0 (slSK_det _ _ _) h
  case fa off x => exact Det.st0 (faK_det off _) h
  case fld agg off x => exact Det.st0 (fldK_det agg off _) h
  case iaA n sz x i => exact Det.st0 (iaAK_det n sz _ _) h
  case ixA n sz agg x i => exact Det.st0 (ixAK_det n sz agg _ _) h
  case ixS x i => exact Det.st0 (ixSK_det _ _) h
  case ext x i => exact Det.st0 (extK_det _ i) h
  case lenC n => exact ⟨_, h, fun _ _ hk => hk⟩
  case min x y => exact Det.st0 (minK_det true _ _) h
  case max x y => exact Det.st0 (minK_det false _ _) h
  case bad => exact h.elim

/-- What reads alone. -/
theorem stepM_read {q : Bool} {m : MOp} {fr : Fr} {H : List Blk} {K : V → List Blk → Prop} (hm : m.kind = 0) (h : stepM P G q m fr H K) : ∃ v, K v H ∧ ∀ T (K' : V → List Blk → Prop), K' v (H ++ T) → stepM P G q m fr (H ++ T) K' := by
  by_cases h0 : m.heat = 0
  · obtain ⟨v, h1, h2⟩ := stepM_cool h0 h
    exact ⟨v, h1, fun T K' hk => h2 _ K' hk⟩
  cases m <;> simp [MOp.heat, MOp.kind] at hm h0
  case ld agg a => exact ldK_det agg _ H K h
  case b2s x => exact Det.st (Det.and (Det.bind0 (elemsK_det _) fun xs => bytesK_det xs)) h
  case sl sz x lo hi mx => exact Det.st (slK_det sz _ _ _ _) h
  case slA n sz x lo hi mx => exact Det.st (slAK_det n sz _ _ _ _) h
  case ia sz x i => exact Det.st (iaK_det sz _ _) h
  case len k x => exact Det.st (lenK_det k _) h
  case capa x => exact Det.st (capaK_det _) h
  case look ks ok z m k => exact Det.st (lookK_det ks ok z _ _) h
  case ent x => exact Det.st (entK_det _) h

/-- What makes a block. -/
theorem mkM_det {m : MOp} {fr : Fr} {C : (Nat → V) → Blk → Prop} (h : mkM G m fr C) : ∃ r k, C r k ∧ ∀ C' : (Nat → V) → Blk → Prop, C' r k → mkM G m fr C' := by
  cases m <;> simp only [mkM] at h ⊢ <;> try exact h.elim
  case new sz x => exact ⟨_, _, h, fun _ hk => hk⟩
  case box sz x => exact ⟨_, _, h.2.2, fun _ hk => ⟨h.1, h.2.1, hk⟩⟩
  case bslice sz z len p =>
    obtain ⟨xs, h1, h2⟩ := (partsS_det (G := G) fr sz p (List.replicate len z)).same (H := []) h
    exact ⟨_, _, h1, fun C' hk => h2 _ hk⟩
  case s2b x =>
    split at h
    · rename_i s hs
      exact ⟨_, _, h, fun C' hk => hk⟩
    · exact h.elim
  case mks sz b z l c =>
    unfold mksK at h ⊢
    split at h
    · exact ⟨_, _, h.2.2.2.2, fun _ hk => ⟨h.1, h.2.1, h.2.2.1, h.2.2.2.1, hk⟩⟩
    · exact h.elim
  case mkm => exact ⟨_, _, h, fun _ hk => hk⟩

theorem stepM_make {q : Bool} {m : MOp} {fr : Fr} {H : List Blk} {K : V → List Blk → Prop} (hm : m.kind = 1) : stepM P G q m fr H K ↔ mkM G m fr fun r k => K (r H.length) (H ++ [k]) := by
  cases m <;> simp [MOp.kind] at hm <;> rfl

theorem appK_det {sz by_ : Nat} {x : V} {ys : List V} {H : List Blk} {K : V → List Blk → Prop} (h : appK sz by_ x ys H K) : ∃ v H', K v H' ∧ ∀ K' : V → List Blk → Prop, K' v H' → appK sz by_ x ys H K' := by
  obtain ⟨hg, h⟩ := h
  unfold appK
  cases x <;> simp only at h ⊢ <;> try exact h.elim
  · exact ⟨_, _, h.2, fun _ hk => ⟨hg, h.1, hk⟩⟩
  · split at h
    · rename_i hc
      exact ⟨_, _, h, fun _ hk => ⟨hg, by rw [if_pos hc]; exact hk⟩⟩
    · rename_i hc
      exact ⟨_, _, h.2, fun _ hk => ⟨hg, by rw [if_neg hc]; exact ⟨h.1, hk⟩⟩⟩
  · obtain ⟨h1, h2, h⟩ := h
    split at h
    · rename_i hH
      obtain ⟨h3, h4, h5, h6, h⟩ := h
      split at h
      · split at h
        · rename_i hc
          exact ⟨_, _, h.2.2, fun _ hk => ⟨hg, h1, h2, h3, h4, h5, h6, by rw [if_pos hc]; exact ⟨h.1, h.2.1, hk⟩⟩⟩
        · rename_i hc
          exact ⟨_, _, h.2, fun _ hk => ⟨hg, h1, h2, h3, h4, h5, h6, by rw [if_neg hc]; exact ⟨h.1, hk⟩⟩⟩
      · split at h
        · rename_i hc
          exact ⟨_, _, h.2, fun _ hk => ⟨hg, h1, h2, h3, h4, h5, h6, by rw [if_pos hc]; exact ⟨h.1, hk⟩⟩⟩
        · rename_i hc
          exact ⟨_, _, h.2.2.2, fun _ hk => ⟨hg, h1, h2, h3, h4, h5, h6, by rw [if_neg hc]; exact ⟨h.1, h.2.1, h.2.2.1, hk⟩⟩⟩
    · exact h.elim

theorem wrK_det {sz : Nat} {x : V} {ys : List V} {H : List Blk} {K : List Blk → Prop} (h : wrK sz x ys H K) : ∃ H', K H' ∧ ∀ K' : List Blk → Prop, K' H' → wrK sz x ys H K' := by
  obtain ⟨hg, h⟩ := h
  unfold wrK
  cases x <;> simp only at h ⊢ <;> try exact h.elim
  · exact ⟨_, h.2, fun _ hk => ⟨hg, h.1, hk⟩⟩
  · exact ⟨_, h.2, fun _ hk => ⟨hg, h.1, hk⟩⟩
  · obtain ⟨h1, h2, h⟩ := h
    split at h
    · obtain ⟨h3, h4, h⟩ := h
      split at h
      · rename_i hc
        exact ⟨_, h.2, fun _ hk => ⟨hg, h1, h2, h3, h4, by rw [if_pos hc]; exact ⟨h.1, hk⟩⟩⟩
      · rename_i hc
        exact ⟨_, h.2.2.2.2, fun _ hk => ⟨hg, h1, h2, h3, h4, by rw [if_neg hc]; exact ⟨h.1, h.2.1, h.2.2.1, h.2.2.2.1, hk⟩⟩⟩
    · exact h.elim

theorem callK_det {q : Bool} {f : Nat} {args : List V} {H : List Blk} {K : V → List Blk → Prop} (h : callK P G q f args H K) : ∃ v H', K v H' ∧ ∀ K' : V → List Blk → Prop, K' v H' → callK P G q f args H K' := by
  unfold callK at h ⊢
  cases q with
  | true =>
    simp only [if_true] at h ⊢
    obtain ⟨r, h1, h2⟩ := h
    exact ⟨r, H, h2, fun _ hk => ⟨r, h1, hk⟩⟩
  | false =>
    simp only [Bool.false_eq_true, if_false] at h ⊢
    obtain ⟨r, H', h1, h2⟩ := h
    exact ⟨r, H', h2, fun _ hk => ⟨r, H', h1, hk⟩⟩

theorem callK_quiet {f : Nat} {args : List V} {H : List Blk} {K : V → List Blk → Prop} (h : callK P G true f args H K) : ∃ v, K v H ∧ ∀ T (K' : V → List Blk → Prop), K' v (H ++ T) → callK P G true f args (H ++ T) K' := by
  unfold callK at h ⊢
  simp only [if_true] at h ⊢
  obtain ⟨r, h1, h2⟩ := h
  exact ⟨r, h2, fun T _ hk => ⟨r, fun T' => by rw [List.append_assoc]; exact h1 _, hk⟩⟩

/-- What writes, and calls. -/
theorem stepM_write {q : Bool} {m : MOp} {fr : Fr} {H : List Blk} {K : V → List Blk → Prop} (hm : 2 ≤ m.kind) (hd : m.det = true) (h : stepM P G q m fr H K) : ∃ v H', K v H' ∧ ∀ K' : V → List Blk → Prop, K' v H' → stepM P G q m fr H K' := by
  cases m <;> simp [MOp.kind] at hm
  case st n a x =>
    simp only [stepM, stK] at h ⊢
    obtain ⟨hg, h⟩ := h
    split at h
    · split at h
      · rename_i b n i j hp _ sz xs opn frz hH
        exact ⟨_, _, h.2.2.2.2, fun K' hk => ⟨hg, h.1, h.2.1, h.2.2.1, h.2.2.2.1, hk⟩⟩
      · exact h.elim
    · exact h.elim
  case app sz b z x y =>
    obtain ⟨ys, h1, h2⟩ := (elemsK_det (ev G fr y)).same (H := H) h
    obtain ⟨v, H', h3, h4⟩ := appK_det h1
    exact ⟨v, H', h3, fun K' hk => h2 _ (h4 K' hk)⟩
  case appZ sz b z x y =>
    simp only [stepM] at h ⊢
    cases hy : ev G fr y <;> rw [hy] at h <;> simp only at h ⊢ <;> try exact h.elim
    obtain ⟨v, H', h3, h4⟩ := appK_det h.2
    exact ⟨v, H', h3, fun K' hk => ⟨h.1, h4 K' hk⟩⟩
  case cpy sz x y =>
    simp only [stepM] at h ⊢
    obtain ⟨ys, h1, h2⟩ := (elemsK_det (ev G fr y)).same (H := H) h
    obtain ⟨l, h3, h4⟩ := (lenK_det 1 (ev G fr x)).same (H := H) h1
    cases l <;> simp only at h3 <;> try exact h3.elim
    obtain ⟨H', h5, h6⟩ := wrK_det h3
    exact ⟨_, H', h5, fun K' hk => h2 _ (h4 _ (h6 _ hk))⟩
  case clr sz z x =>
    simp only [stepM] at h ⊢
    obtain ⟨l, h3, h4⟩ := (lenK_det 1 (ev G fr x)).same (H := H) h
    cases l <;> simp only at h3 <;> try exact h3.elim
    obtain ⟨H', h5, h6⟩ := wrK_det h3
    exact ⟨_, H', h5, fun K' hk => h4 _ (h6 _ hk)⟩
  case call f as => exact callK_det h
  case callv x as =>
    simp only [stepM, callvK] at h ⊢
    split at h
    · rename_i f first cap hx
      obtain ⟨v, H', h1, h2⟩ := callK_det h.2
      exact ⟨v, H', h1, fun K' hk => ⟨h.1, h2 K' hk⟩⟩
    · exact h.elim
  case mset ks m k v =>
    simp only [stepM, msetK] at h ⊢
    split at h
    · obtain ⟨hb, h⟩ := h
      split at h
      · obtain ⟨hk, h⟩ := h
        split at h
        · exact ⟨_, _, h, fun K' hk' => ⟨hb, hk, hk'⟩⟩
        · exact ⟨_, _, h, fun K' hk' => ⟨hb, hk, hk'⟩⟩
        · exact h.elim
      · exact h.elim
    · exact h.elim
  case mdel ks m k =>
    simp only [stepM, mdelK] at h ⊢
    split at h
    · obtain ⟨hb, h⟩ := h
      split at h
      · obtain ⟨hk, h⟩ := h
        split at h
        · exact ⟨_, _, h, fun K' hk' => ⟨hb, hk, hk'⟩⟩
        · exact ⟨_, _, h, fun K' hk' => ⟨hb, hk, hk'⟩⟩
        · exact h.elim
      · exact h.elim
    · exact h.elim
  case rng x =>
    simp only [stepM, rngK] at h ⊢
    split at h
    · obtain ⟨hb, h⟩ := h
      split at h
      · exact ⟨_, _, h, fun K' hk' => ⟨hb, hk'⟩⟩
      · exact h.elim
    · exact h.elim
  case nxt x => cases hd

theorem stepM_quiet {m : MOp} {fr : Fr} {H : List Blk} {K : V → List Blk → Prop} (hm : m.kind = 2) (h : stepM P G true m fr H K) : ∃ v, K v H ∧ ∀ T (K' : V → List Blk → Prop), K' v (H ++ T) → stepM P G true m fr (H ++ T) K' := by
  cases m <;> simp [MOp.kind] at hm
  case call f as => exact callK_quiet h
  case callv x as =>
    simp only [stepM, callvK] at h ⊢
    split at h
    · rename_i f first cap hx
      obtain ⟨v, h1, h2⟩ := callK_quiet h.2
      exact ⟨v, h1, fun T K' hk => ⟨h.1, h2 T K' hk⟩⟩
    · exact h.elim

/-- Every step comes to one value and one heap. -/
theorem stepM_det {q : Bool} {m : MOp} {fr : Fr} {H : List Blk} {K : V → List Blk → Prop} (hd : m.det = true) (h : stepM P G q m fr H K) : ∃ v H', K v H' ∧ ∀ K' : V → List Blk → Prop, K' v H' → stepM P G q m fr H K' := by
  rcases hk : m.kind with _ | _ | k
  · obtain ⟨v, h1, h2⟩ := stepM_read hk h
    exact ⟨v, H, h1, fun K' hk => by simpa using h2 [] K' (by simpa using hk)⟩
  · rw [stepM_make hk] at h
    obtain ⟨r, k, h1, h2⟩ := mkM_det h
    exact ⟨_, _, h1, fun K' hk' => by rw [stepM_make hk]; exact h2 _ hk'⟩
  · exact stepM_write (by omega) hd h

theorem evs_congr {fr fr' : Fr} {xs : List Opd} (h : ∀ x ∈ xs, ev G fr x = ev G fr' x) : evs G fr xs = evs G fr' xs := List.map_congr_left h

theorem partsV_congr {fr fr' : Fr} : ∀ {l : List (Nat × Nat × Opd)} {z : List V} {K : List V → Prop}, (∀ x ∈ l.map (·.2.2), ev G fr x = ev G fr' x) → partsV G fr z l K = partsV G fr' z l K
  | [], z, K, _ => rfl
  | (off, sz, x) :: l, z, K, h => by
    simp only [partsV]
    rw [h x (by simp), partsV_congr (l := l) fun y hy => h y (by simp at hy ⊢; exact .inr hy)]

theorem partsS_congr {fr fr' : Fr} {sz : Nat} : ∀ {l : List (Nat × Opd)} {z : List V} {K : List V → Prop}, (∀ x ∈ l.map (·.2), ev G fr x = ev G fr' x) → partsS G fr sz z l K = partsS G fr' sz z l K
  | [], z, K, _ => rfl
  | (i, x) :: l, z, K, h => by
    simp only [partsS]
    rw [h x (by simp), partsS_congr (l := l) fun y hy => h y (by simp at hy ⊢; exact .inr hy)]

theorem optm_congr {fr fr' : Fr} {x : Option Opd} (h : ∀ y ∈ x.toList, ev G fr y = ev G fr' y) : x.map (ev G fr) = x.map (ev G fr') := by
  cases x with
  | none => rfl
  | some y => simp [h y (by simp)]

theorem stepM_congr {q : Bool} {m : MOp} {fr fr' : Fr} {H : List Blk} {K : V → List Blk → Prop} (h : ∀ x ∈ m.opds, ev G fr x = ev G fr' x) : stepM P G q m fr H K = stepM P G q m fr' H K := by
  cases m <;> simp only [MOp.opds] at h <;> simp only [stepM, mkM]
  case build z p => rw [partsV_congr h]
  case bslice sz z len p => rw [partsS_congr h]
  case mkf f a b => rw [evs_congr fun x hx => h x (by simp [hx]), evs_congr (xs := b) fun x hx => h x (by simp [hx])]
  case slS x lo hi => rw [h x (by simp), optm_congr fun y hy => h y (by simp at hy; simp [hy]), optm_congr (x := hi) fun y hy => h y (by simp at hy; simp [hy])]
  case sl sz x lo hi mx => rw [h x (by simp), optm_congr fun y hy => h y (by simp at hy; simp [hy]), optm_congr (x := hi) fun y hy => h y (by simp at hy; simp [hy]), optm_congr (x := mx) fun y hy => h y (by simp at hy; simp [hy])]
  case slA n sz x lo hi mx => rw [h x (by simp), optm_congr fun y hy => h y (by simp at hy; simp [hy]), optm_congr (x := hi) fun y hy => h y (by simp at hy; simp [hy]), optm_congr (x := mx) fun y hy => h y (by simp at hy; simp [hy])]
  case call f as => rw [evs_congr h]
  case callv x as => rw [h x (by simp), evs_congr fun y hy => h y (by simp [hy])]
  all_goals (simp only [List.mem_cons, List.not_mem_nil, or_false, forall_eq_or_imp, forall_eq] at h; simp only [h])

theorem mkM_congr {m : MOp} {fr fr' : Fr} {C : (Nat → V) → Blk → Prop} (h : ∀ x ∈ m.opds, ev G fr x = ev G fr' x) : mkM G m fr C = mkM G m fr' C := by
  cases m <;> simp only [MOp.opds] at h <;> simp only [mkM]
  case bslice sz z len p => rw [partsS_congr h]
  all_goals (simp only [List.mem_cons, List.not_mem_nil, or_false, forall_eq_or_imp, forall_eq] at h; simp only [h])

end
end Go.MW

/- Regions whose order is drawn: whatever the order, they do what they do in text order. -/
namespace Go.MW
open Go Go.RowKit
set_option linter.unusedVariables false
set_option linter.unusedSimpArgs false

section
variable {P : Program} {G : Nat → Option (List V)}

/-- What happens in text order: values, heaps, frames, and which operations are run. -/
structure Trace (P : Program) (G : Nat → Option (List V)) (ms : List MO) (v : Nat → V) (h : Nat → List Blk) (fr : Nat → Fr) (run : Nat → Bool) : Prop where
  frs : ∀ i m, ms[i]? = some m → fr (i + 1) = put m.dst (v i) (fr i)
  gd : ∀ i m, ms[i]? = some m → ∀ p q : Prop, (if run i then p else q) → gdK (fr i) m.gd p q
  yes : ∀ i m, ms[i]? = some m → run i = true → ∀ K : V → List Blk → Prop, K (v i) (h (i + 1)) → stepM P G m.q m.op (fr i) (h i) K
  no : ∀ i m, ms[i]? = some m → run i = false → v i = .tup [] ∧ h (i + 1) = h i

theorem gdK_inv {fr : Fr} {g : Option (Nat × Bool)} {p q : Prop} (h : gdK fr g p q) : ∃ b : Bool, (∀ p' q' : Prop, (if b then p' else q') → gdK fr g p' q') ∧ (if b then p else q) := by
  rcases g with _ | ⟨t, want⟩
  · exact ⟨true, fun p' q' hh => hh, h⟩
  · simp only [gdK] at h ⊢
    split at h
    · rename_i b hb
      refine ⟨b == want, fun p' q' hh => ?_, ?_⟩
      · refine ⟨fun e => ?_, fun e => ?_⟩
        · rw [e] at hh; exact hh
        · rw [e] at hh; exact hh
      · rcases hc : (b == want) with _ | _
        · exact h.2 hc
        · exact h.1 hc
    · exact ⟨false, fun p' q' hh => hh, h⟩
    · exact h.elim

theorem mops_trace : ∀ (ms : List MO) (K : St → Prop) (st : St), (ms.all fun m => m.op.det) = true → mops P G ms K st → ∃ v h fr run, fr 0 = st.fr ∧ h 0 = st.H ∧ K ⟨fr ms.length, h ms.length⟩ ∧ Trace P G ms v h fr run
  | [], K, st, _, hm => ⟨fun _ => .junk, fun _ => st.H, fun _ => st.fr, fun _ => true, rfl, rfl, hm, by simp, by simp, by simp, by simp⟩
  | m :: ms, K, st, hd, hm => by
    simp only [List.all_cons, Bool.and_eq_true] at hd
    simp only [mops] at hm
    obtain ⟨b, hb, hbr⟩ := gdK_inv hm
    have : ∃ v0 H1, (b = true → ∀ K : V → List Blk → Prop, K v0 H1 → stepM P G m.q m.op st.fr st.H K) ∧ (b = false → v0 = .tup [] ∧ H1 = st.H) ∧ mops P G ms K ⟨put m.dst v0 st.fr, H1⟩ := by
      cases b with
      | true =>
        simp only [if_true] at hbr
        obtain ⟨v0, H1, h1, h2⟩ := stepM_det hd.1 hbr
        exact ⟨v0, H1, fun _ => h2, fun h => (by cases h), h1⟩
      | false =>
        simp only [Bool.false_eq_true, if_false] at hbr
        exact ⟨.tup [], st.H, fun h => (by cases h), fun _ => ⟨rfl, rfl⟩, hbr⟩
    obtain ⟨v0, H1, hyes, hno, hrest⟩ := this
    obtain ⟨v, h, fr, run, e1, e2, e3, tr⟩ := mops_trace ms K _ hd.2 hrest
    refine ⟨fun i => match i with | 0 => v0 | i + 1 => v i, fun i => match i with | 0 => st.H | i + 1 => h i, fun i => match i with | 0 => st.fr | i + 1 => fr i, fun i => match i with | 0 => b | i + 1 => run i, rfl, rfl, e3, ?_, ?_, ?_, ?_⟩
    · rintro (_ | i) m' hm'
      · simp at hm'; subst hm'; exact e1
      · exact tr.frs i m' (by simpa using hm')
    · rintro (_ | i) m' hm'
      · simp at hm'; subst hm'; exact hb
      · exact tr.gd i m' (by simpa using hm')
    · rintro (_ | i) m' hm'
      · simp at hm'; subst hm'
        intro hb' K' hk
        refine hyes hb' K' ?_
        simp only [e2] at hk
        exact hk
      · exact tr.yes i m' (by simpa using hm')
    · rintro (_ | i) m' hm'
      · simp at hm'; subst hm'
        intro hb'
        simp only [e2]
        exact hno hb'
      · exact tr.no i m' (by simpa using hm')

/-- The frame where just some of the operations are done. -/
def frl (dst : Nat → Option Nat) (v : Nat → V) (fr0 : Fr) (D : Nat → Bool) : Nat → Fr
  | 0 => fr0
  | k + 1 => if D k then put (dst k) (v k) (frl dst v fr0 D k) else frl dst v fr0 D k

section
variable {dst : Nat → Option Nat} {v : Nat → V} {fr0 : Fr} {D D' : Nat → Bool}

theorem get_put (d : Option Nat) (x : V) (fr : Fr) (t : Nat) : get (put d x fr) t = if d = some t then x else get fr t := by
  cases d with
  | none => simp [MW.put]
  | some e => simp [MW.put, get_cons]

theorem frl_succ (k t : Nat) : get (frl dst v fr0 D (k + 1)) t = if D k = true ∧ dst k = some t then v k else get (frl dst v fr0 D k) t := by
  simp only [frl]
  cases hd : D k with
  | true => simp [get_put]
  | false => simp

theorem frl_ext {t : Nat} : ∀ k, (∀ j, j < k → dst j = some t → D j = D' j) → get (frl dst v fr0 D k) t = get (frl dst v fr0 D' k) t
  | 0, _ => rfl
  | k + 1, h => by
    rw [frl_succ, frl_succ, frl_ext k fun j hj => h j (by omega)]
    by_cases hd : dst k = some t
    · rw [h k (by omega) hd]
    · simp [hd]

theorem frl_skip {t k : Nat} : ∀ n, k ≤ n → (∀ j, k ≤ j → j < n → dst j = some t → D j = false) → get (frl dst v fr0 D n) t = get (frl dst v fr0 D k) t
  | 0, h, _ => by rw [show k = 0 by omega]
  | n + 1, h, hh => by
    by_cases hk : k = n + 1
    · rw [hk]
    · rw [frl_succ, frl_skip n (by omega) fun j h1 h2 => hh j h1 (by omega), if_neg]
      rintro ⟨h1, h2⟩
      rw [hh n (by omega) (by omega) h2] at h1
      cases h1

end

/-- How heaps go on where nothing writes. -/
theorem Trace.grow {ms : List MO} {v : Nat → V} {h : Nat → List Blk} {fr : Nat → Fr} {run : Nat → Bool} (tr : Trace P G ms v h fr run) {i : Nat} {m : MO} (hi : ms[i]? = some m) (hw : m.isW = false) : ∃ T, h (i + 1) = h i ++ T := by
  cases hr : run i with
  | false => exact ⟨[], by rw [(tr.no i m hi hr).2]; simp⟩
  | true =>
    have hs := tr.yes i m hi hr (fun v' H' => v' = v i ∧ H' = h (i + 1)) ⟨rfl, rfl⟩
    simp only [MO.isW, Bool.or_eq_false_iff, beq_eq_false_iff_ne, Bool.and_eq_false_iff, Bool.not_eq_false', beq_iff_eq] at hw
    rcases hk : m.op.kind with _ | _ | _ | _ | k
    · obtain ⟨v', ⟨_, h1⟩, _⟩ := stepM_read hk hs
      exact ⟨[], by simp [h1]⟩
    · rw [stepM_make hk] at hs
      obtain ⟨r, k, ⟨_, h1⟩, _⟩ := mkM_det hs
      exact ⟨[k], h1.symm⟩
    · have hq : m.q = true := by
        rcases hw.2 with h2 | h2
        · exact absurd hk h2
        · exact h2
      rw [hq] at hs
      obtain ⟨v', ⟨_, h1⟩, _⟩ := stepM_quiet hk hs
      exact ⟨[], by simp [h1]⟩
    · exact absurd hk hw.1
    · exfalso
      cases hm : m.op <;> rw [hm] at hk <;> simp [MOp.kind] at hk

theorem Trace.seg {ms : List MO} {v : Nat → V} {h : Nat → List Blk} {fr : Nat → Fr} {run : Nat → Bool} (tr : Trace P G ms v h fr run) {i : Nat} : ∀ c, i ≤ c → c ≤ ms.length → (∀ j, i ≤ j → j < c → (ms.getD j noMO).isW = false) → ∃ T, h c = h i ++ T
  | 0, h1, _, _ => ⟨[], by rw [show i = 0 by omega]; simp⟩
  | c + 1, h1, h2, hw => by
    by_cases hc : i = c + 1
    · exact ⟨[], by rw [hc]; simp⟩
    · obtain ⟨T, hT⟩ := tr.seg c (by omega) (by omega) fun j hj hj' => hw j hj (by omega)
      have hlt : c < ms.length := by omega
      obtain ⟨T', hT'⟩ := tr.grow (i := c) (m := ms.getD c noMO) (by simp [List.getD_eq_getElem?_getD, hlt]) (hw c (by omega) (by omega))
      exact ⟨T ++ T', by rw [hT', hT, List.append_assoc]⟩

theorem kind_heat {m : MOp} (h : m.kind ≠ 0) : m.heat ≠ 0 := by cases m <;> simp [MOp.kind, MOp.heat] at h ⊢

/-- The edges' closure. -/
theorem ancs_length : ∀ (l : List Oper) (acc : List Nat), (ancs l acc).length = acc.length + l.length
  | [], acc => by simp [ancs]
  | o :: l, acc => by rw [ancs, ancs_length l]; simp; omega

theorem ancs_old : ∀ (l : List Oper) (acc : List Nat) (i : Nat), i < acc.length → (ancs l acc).getD i 0 = acc.getD i 0
  | [], acc, i, h => rfl
  | o :: l, acc, i, h => by
    rw [ancs, ancs_old l _ i (by simp; omega)]
    simp [List.getD_eq_getElem?_getD, List.getElem?_append_left h]

theorem ancOf_spec {acc : List Nat} {j : Nat} : ∀ (es : List Edge), (es.foldr (fun e r => if Region.binds .any e then r ||| (2 ^ e.on ||| acc.getD e.on 0) else r) 0).testBit j = true → ∃ e ∈ es, Region.binds .any e = true ∧ (j = e.on ∨ (acc.getD e.on 0).testBit j = true)
  | [], h => by simp at h
  | e :: es, h => by
    simp only [List.foldr_cons] at h
    split at h
    · rename_i hb
      rw [Nat.testBit_or, Bool.or_eq_true, Nat.testBit_or, Bool.or_eq_true] at h
      rcases h with h | h | h
      · obtain ⟨e', h1, h2⟩ := ancOf_spec es h
        exact ⟨e', List.mem_cons_of_mem _ h1, h2⟩
      · refine ⟨e, List.mem_cons_self, hb, .inl ?_⟩
        rw [Nat.testBit_two_pow] at h
        simp at h
        exact h.symm
      · exact ⟨e, List.mem_cons_self, hb, .inr h⟩
    · obtain ⟨e', h1, h2⟩ := ancOf_spec es h
      exact ⟨e', List.mem_cons_of_mem _ h1, h2⟩

theorem ancs_spec : ∀ (l : List Oper) (acc : List Nat) (i : Nat) (o : Oper) (j : Nat), l[i]? = some o → (∀ e ∈ o.after, Region.binds .any e = true → e.on < acc.length + i) → ((ancs l acc).getD (acc.length + i) 0).testBit j = true →
    ∃ e ∈ o.after, Region.binds .any e = true ∧ (j = e.on ∨ ((ancs l acc).getD e.on 0).testBit j = true)
  | [], acc, i, o, j, h, _, _ => by simp at h
  | o' :: l, acc, 0, o, j, h, hlt, hb => by
    simp at h
    subst h
    have e1 : (ancs (o' :: l) acc).getD (acc.length + 0) 0 = ancOf acc o' := by
      rw [ancs, ancs_old l _ _ (by simp)]
      simp [List.getD_eq_getElem?_getD]
    rw [e1] at hb
    obtain ⟨e, h1, h2, h3⟩ := ancOf_spec o'.after.toList hb
    have h1' : e ∈ o'.after := by simpa using h1
    refine ⟨e, h1', h2, h3.imp id fun h4 => ?_⟩
    have := hlt e h1' h2
    rw [ancs, ancs_old l _ _ (by simp; omega)]
    rw [List.getD_eq_getElem?_getD, List.getElem?_append_left (by omega), ← List.getD_eq_getElem?_getD]
    exact h4
  | o' :: l, acc, i + 1, o, j, h, hlt, hb => by
    rw [ancs] at hb ⊢
    have := ancs_spec l (acc ++ [ancOf acc o']) i o j (by simpa using h) (fun e h1 h2 => by have := hlt e h1 h2; simp; omega) (by
      rw [show (acc ++ [ancOf acc o']).length + i = acc.length + (i + 1) by simp; omega]
      exact hb)
    exact this

theorem edgesOK_spec : ∀ (l : List Oper) (k i : Nat) (o : Oper), edgesOK k l = true → l[i]? = some o → ∀ e ∈ o.after, Region.binds .any e = true → e.on < k + i
  | [], k, i, o, _, h => by simp at h
  | o' :: l, k, i, o, h, hi => by
    simp only [edgesOK, Bool.and_eq_true, List.all_eq_true] at h
    intro e he hb
    cases i with
    | zero =>
      simp at hi
      subst hi
      have := h.1 e (by simpa using he)
      simpa [hb] using this
    | succ i =>
      have := edgesOK_spec l (k + 1) i o h.2 (by simpa using hi) e he hb
      omega

end
end Go.MW

/- Regions whose order is drawn: the proof. -/
namespace Go.MW
open Go Go.RowKit
set_option linter.unusedVariables false
set_option linter.unusedSimpArgs false

/-- Rows keep their kind, and do not shrink. -/
def SameK : Blk → Blk → Prop
  | .row sz xs _ _, .row sz' xs' _ _ => sz = sz' ∧ xs.length ≤ xs'.length
  | .map _ _, .map _ _ => True
  | .iter .., .iter .. => True
  | _, _ => False
def Grow (H H' : List Blk) : Prop := ∀ (b : Nat) (k : Blk), H[b]? = some k → ∃ k' : Blk, H'[b]? = some k' ∧ SameK k k'
theorem SameK.refl (k : Blk) : SameK k k := by cases k <;> simp [SameK]
theorem SameK.trans {a b c : Blk} (h : SameK a b) (h' : SameK b c) : SameK a c := by
  cases a <;> cases b <;> cases c <;> simp [SameK] at * <;> omega
theorem Grow.refl (H : List Blk) : Grow H H := fun b k h => ⟨k, h, .refl k⟩
theorem Grow.trans {H H' H'' : List Blk} (h : Grow H H') (h' : Grow H' H'') : Grow H H'' := fun b k hb => by
  obtain ⟨k', h1, h2⟩ := h b k hb
  obtain ⟨k'', h3, h4⟩ := h' b k' h1
  exact ⟨k'', h3, h2.trans h4⟩
theorem Grow.app (H T : List Blk) : Grow H (H ++ T) := fun b k h => ⟨k, by rw [List.getElem?_append_left (List.getElem?_eq_some_iff.1 h).1]; exact h, .refl k⟩
theorem getB_some {H : List Blk} {b : Nat} {sz : Nat} {xs : List V} {o f : Bool} (h : getB H b = .row sz xs o f) : H[b]? = some (.row sz xs o f) := by
  unfold getB at h
  rw [List.getD_eq_getElem?_getD] at h
  cases hb : H[b]? with
  | none => rw [hb] at h; cases h
  | some k => rw [hb] at h; exact congrArg some h
theorem Grow.set {H : List Blk} {b sz : Nat} {xs xs' : List V} {o f o' f' : Bool} (h : getB H b = .row sz xs o f) (hl : xs.length ≤ xs'.length) : Grow H (H.set b (.row sz xs' o' f')) := by
  intro c k hc
  have hlt := (List.getElem?_eq_some_iff.1 hc).1
  by_cases e : b = c
  · subst e
    refine ⟨_, by rw [List.getElem?_set_self hlt], ?_⟩
    rw [getB_some h] at hc
    obtain rfl := Option.some.inj hc
    exact ⟨rfl, hl⟩
  · exact ⟨k, by rw [List.getElem?_set_ne e]; exact hc, .refl k⟩

section
variable {P : Program} {G : Nat → Option (List V)}
theorem elemsK_out {H : List Blk} {x : V} {K : List V → Prop} (h : elemsK H x K) : ∃ ys, K ys := by
  unfold elemsK at h
  split at h
  · exact ⟨_, h⟩
  · exact ⟨_, h⟩
  · exact ⟨_, h⟩
  · split at h
    · obtain ⟨_, h⟩ := h
      split at h
      · exact ⟨_, h.2⟩
      · exact ⟨_, h.2.2.2.2⟩
    · exact h.elim
  · exact h.elim
theorem lenK_out {k : Nat} {H : List Blk} {x : V} {K : V → Prop} (h : lenK k H x K) : ∃ v, K v := by
  unfold lenK at h
  split at h <;> first | exact ⟨_, h⟩ | exact h.elim | skip
  obtain ⟨_, h⟩ := h
  split at h
  · exact ⟨_, h⟩
  · exact h.elim
theorem wrK_grow {sz : Nat} {x : V} {ys : List V} {H H1 : List Blk} (h : wrK sz x ys H fun H' => H' = H1) : Grow H H1 := by
  unfold wrK at h
  obtain ⟨_, h⟩ := h
  split at h
  · obtain ⟨_, hlen, h⟩ := h
    split at h
    · rename_i hb
      obtain ⟨hn, hf, h⟩ := h
      split at h
      · obtain ⟨hi, rfl⟩ := h
        exact Grow.set hb (by simp only [List.length_append, List.length_take, List.length_drop]; omega)
      · obtain ⟨_, _, _, _, rfl⟩ := h
        exact Grow.set hb (by simp)
    · exact h.elim
  · obtain ⟨_, rfl⟩ := h; exact .refl _
  · obtain ⟨_, rfl⟩ := h; exact .refl _
  · exact h.elim
theorem appK_grow {sz by_ : Nat} {x : V} {ys : List V} {H H1 : List Blk} (h : appK sz by_ x ys H fun _ H' => H' = H1) : Grow H H1 := by
  unfold appK at h
  obtain ⟨_, h⟩ := h
  split at h
  · split at h
    · obtain rfl := h; exact .refl _
    · obtain ⟨_, rfl⟩ := h; exact .app _ _
  · obtain ⟨_, rfl⟩ := h; exact .refl _
  · obtain ⟨_, _, h⟩ := h
    split at h
    · rename_i hb
      obtain ⟨hsz, hn, hi, _, h⟩ := h
      subst hsz
      split at h
      · split at h
        · obtain ⟨_, _, rfl⟩ := h
          exact Grow.set hb (by simp only [List.length_append, List.length_take, List.length_drop]; omega)
        · obtain ⟨_, rfl⟩ := h; exact .app _ _
      · split at h
        · obtain ⟨_, rfl⟩ := h
          exact Grow.set hb (by simp only [List.length_append, List.length_take, List.length_drop]; omega)
        · obtain ⟨_, _, _, rfl⟩ := h
          exact Grow.set hb (by simp only [List.length_append, List.length_take, List.length_drop]; omega)
    · exact h.elim
  · exact h.elim
theorem Grow.setK {H : List Blk} {b : Nat} {k k' : Blk} (hb : b < H.length) (h : getB H b = k) (hs : SameK k k') : Grow H (H.set b k') := by
  intro c x hc
  by_cases hcb : c = b
  · subst hcb
    refine ⟨k', List.getElem?_set_self hb, ?_⟩
    unfold getB at h
    rw [List.getD_eq_getElem?_getD, hc] at h
    simp only [Option.getD_some] at h
    rw [h]; exact hs
  · exact ⟨x, by rw [List.getElem?_set_ne (Ne.symm hcb)]; exact hc, .refl x⟩

/-- What writes keeps the rows. -/
theorem step_grow {q : Bool} {m : MOp} {fr : Fr} {H H1 : List Blk} (hk : m.kind = 3) (h : stepM P G q m fr H fun _ H' => H' = H1) : Grow H H1 := by
  cases m <;> simp [MOp.kind] at hk
  · simp only [stepM, stK] at h
    obtain ⟨_, h⟩ := h
    split at h
    · split at h
      · rename_i hb
        obtain ⟨_, _, _, _, rfl⟩ := h
        exact Grow.set hb (by simp)
      · exact h.elim
    · exact h.elim
  · simp only [stepM] at h
    obtain ⟨ys, h⟩ := elemsK_out h
    exact appK_grow h
  · simp only [stepM] at h
    split at h
    · exact appK_grow h.2
    · exact h.elim
  · simp only [stepM] at h
    obtain ⟨ys, h⟩ := elemsK_out h
    obtain ⟨v, h⟩ := lenK_out h
    split at h
    · exact wrK_grow h
    · exact h.elim
  · simp only [stepM] at h
    obtain ⟨v, h⟩ := lenK_out h
    split at h
    · exact wrK_grow h
    · exact h.elim
  · simp only [stepM, msetK] at h
    split at h
    · obtain ⟨hb, h⟩ := h
      split at h
      · rename_i hH
        obtain ⟨_, h⟩ := h
        split at h
        · rw [← h]; exact Grow.setK hb hH trivial
        · rw [← h]; exact Grow.setK hb hH trivial
        · exact h.elim
      · exact h.elim
    · exact h.elim
  · simp only [stepM, mdelK] at h
    split at h
    · obtain ⟨hb, h⟩ := h
      split at h
      · rename_i hH
        obtain ⟨_, h⟩ := h
        split at h
        · rw [← h]; exact Grow.setK hb hH trivial
        · rw [← h]; exact Grow.setK hb hH trivial
        · exact h.elim
      · exact h.elim
    · exact h.elim
  · simp only [stepM, rngK] at h
    split at h
    · obtain ⟨hb, h⟩ := h
      split at h
      · rw [← h]; exact .app _ _
      · exact h.elim
    · exact h.elim
  · simp only [stepM, nxtK] at h
    split at h
    · obtain ⟨hb, h⟩ := h
      split at h
      · rename_i hH
        obtain ⟨_, h⟩ := h
        split at h
        · obtain ⟨_, h1, h2⟩ := h
          apply Classical.byContradiction
          intro hg
          refine hg (by rw [← h1 fun e he => Classical.byContradiction fun hn => hg (by rw [← h2 e he hn]; exact Grow.setK hb hH trivial)]; exact .refl _)
        · exact h.elim
      · exact h.elim
    · exact h.elim

theorem Trace.rows {ms : List MO} {v : Nat → V} {h : Nat → List Blk} {fr : Nat → Fr} {run : Nat → Bool} (tr : Trace P G ms v h fr run) {i : Nat} : ∀ c, i ≤ c → c ≤ ms.length → (∀ j, i ≤ j → j < c → (ms.getD j noMO).isW = true → (ms.getD j noMO).op.kind = 3) → Grow (h i) (h c)
  | 0, h1, _, _ => by rw [show i = 0 by omega]; exact .refl _
  | c + 1, h1, h2, hw => by
    by_cases hc : i = c + 1
    · rw [hc]; exact .refl _
    · have ih := tr.rows c (by omega) (by omega) fun j hj hj' => hw j hj (by omega)
      refine ih.trans ?_
      have hlt : c < ms.length := by omega
      have hm : ms[c]? = some (ms.getD c noMO) := by simp [List.getD_eq_getElem?_getD, hlt]
      cases hW : (ms.getD c noMO).isW with
      | false =>
        obtain ⟨T, hT⟩ := tr.grow hm hW
        rw [hT]
        exact .app _ _
      | true =>
        have hk := hw c (by omega) (by omega) hW
        cases hr : run c with
        | false => rw [(tr.no c _ hm hr).2]; exact .refl _
        | true => exact step_grow hk (tr.yes c _ hm hr (fun _ H' => H' = h (c + 1)) rfl)

theorem bnd_mono {d : Nat} {x : Option V} {K K' : Nat → Prop} (h : bnd d x K) (hk : ∀ n, K n → K' n) : bnd d x K' := by
  unfold bnd at h ⊢
  split at h
  · exact hk _ h
  · exact ⟨h.1, hk _ h.2⟩
  · exact h.elim
/-- The rows that a slice's head knows are as long in both heaps. -/
def AsLong (H H2 : List Blk) (b n : Nat) : Prop := ∀ sz xs o f, getB H b = .row sz xs o f → xs.length = n → ∃ xs' o' f', getB H2 b = .row sz xs' o' f' ∧ xs'.length = n
theorem slHK_same {H H2 : List Blk} {b n i j : Nat} {cap : Option Nat} {sz l h : Nat} {K : V → Prop} (hs : AsLong H H2 b n) (hh : slHK H b n i j cap sz l h K) : slHK H2 b n i j cap sz l h K := by
  unfold slHK at hh ⊢
  split at hh
  · rename_i hb
    obtain ⟨h1, h2⟩ := hh
    obtain ⟨xs', o', f', h3, h4⟩ := hs _ _ _ _ hb h1
    rw [h3]
    exact ⟨h4, h2⟩
  · exact hh.elim
theorem slK_same {H H2 : List Blk} {sz : Nat} {x : V} {lo hi mx : Option V} {K : V → Prop} (hs : ∀ b n i j len cap sz, x = .hs b n i j len cap sz → AsLong H H2 b n) (hh : slK H sz x lo hi mx K) : slK H2 sz x lo hi mx K := by
  unfold slK at hh ⊢
  obtain ⟨h0, hh⟩ := hh
  refine ⟨h0, ?_⟩
  split at hh
  · exact hh
  · exact hh
  · obtain ⟨h1, hh⟩ := hh
    refine ⟨h1, ?_⟩
    have hs' := hs _ _ _ _ _ _ _ rfl
    split at hh
    · exact bnd_mono hh fun _ h => ⟨h.1, bnd_mono h.2 fun _ h => ⟨h.1, slHK_same hs' h.2⟩⟩
    · exact bnd_mono hh fun _ h => ⟨h.1, bnd_mono h.2 fun _ h => ⟨h.1, slHK_same hs' h.2⟩⟩
    · exact bnd_mono hh fun _ h => ⟨h.1, bnd_mono h.2 fun _ h => ⟨h.1, bnd_mono h.2 fun _ h => ⟨h.1, slHK_same hs' h.2⟩⟩⟩
    · exact bnd_mono hh fun _ h => ⟨h.1, bnd_mono h.2 fun _ h => ⟨h.1, bnd_mono h.2 fun _ h => ⟨h.1, slHK_same hs' h.2⟩⟩⟩
  · exact hh.elim
theorem slAK_same {H H2 : List Blk} {n sz : Nat} {x : V} {lo hi mx : Option V} {K : V → Prop} (hs : ∀ b n i j, x = .ptr b n i j → AsLong H H2 b n) (hh : slAK H n sz x lo hi mx K) : slAK H2 n sz x lo hi mx K := by
  unfold slAK at hh ⊢
  obtain ⟨h0, hh⟩ := hh
  refine ⟨h0, ?_⟩
  split at hh
  · exact bnd_mono hh fun _ h => ⟨h.1, bnd_mono h.2 fun _ h => ⟨h.1, bnd_mono h.2 fun _ h => ⟨h.1, slHK_same (hs _ _ _ _ rfl) h.2⟩⟩⟩
  · exact hh.elim
theorem iaK_same {H H2 : List Blk} {sz : Nat} {x i : V} {K : V → Prop} (hs : ∀ b n i j len cap sz, x = .hs b n i j len cap sz → AsLong H H2 b n) (hh : iaK H sz x i K) : iaK H2 sz x i K := by
  unfold iaK at hh ⊢
  split at hh
  · exact hh
  · obtain ⟨h1, h2, h3, hh⟩ := hh
    refine ⟨h1, h2, h3, ?_⟩
    split at hh
    · rename_i hb
      obtain ⟨h4, h5⟩ := hh
      obtain ⟨xs', o', f', h6, h7⟩ := hs _ _ _ _ _ _ _ rfl _ _ _ _ hb h4
      rw [h6]
      exact ⟨h7, h5⟩
    · exact hh.elim
  · exact hh.elim
/-- An operation that looks at a slice's head alone. -/
theorem hdr_same {q : Bool} {m : MOp} {fr : Fr} {H H2 H0 : List Blk} {v : V} (hm : m.hdr = true) (hs : ∀ t, .t t ∈ m.opds → ∀ b n, (∃ i j, get fr t = .ptr b n i j) ∨ (∃ i j len cap sz, get fr t = .hs b n i j len cap sz) → AsLong H H2 b n)
    (h : stepM P G q m fr H fun v' H' => v' = v ∧ H' = H0) : stepM P G q m fr H2 fun v' H' => v' = v ∧ H' = H2 := by
  have fin : ∀ {u : V}, (u = v ∧ H = H0) → (u = v ∧ True) := fun h => ⟨h.1, trivial⟩
  unfold MOp.hdr at hm
  split at hm
  · simp only [stepM, ev] at h ⊢
    have := slK_same (fun b n i j len cap sz e => hs _ (by simp [MOp.opds]) b n (.inr ⟨_, _, _, _, _, e⟩)) h
    obtain ⟨u, hu, hk⟩ := (slK_det _ _ _ _ _).same this
    exact hk _ (fin hu)
  · simp only [stepM, ev] at h ⊢
    have := slAK_same (fun b n i j e => hs _ (by simp [MOp.opds]) b n (.inl ⟨_, _, e⟩)) h
    obtain ⟨u, hu, hk⟩ := (slAK_det _ _ _ _ _ _).same this
    exact hk _ (fin hu)
  · simp only [stepM, ev] at h ⊢
    have := iaK_same (fun b n i j len cap sz e => hs _ (by simp [MOp.opds]) b n (.inr ⟨_, _, _, _, _, e⟩)) h
    obtain ⟨u, hu, hk⟩ := (iaK_det _ _ _).same this
    exact hk _ (fin hu)
  · rename_i k t
    simp only [stepM, ev] at h ⊢
    unfold lenK at h ⊢
    split at h
    · exact fin h
    · exact fin h
    · exact fin h
    · exact fin h
    · simp at hm
    · exact h.elim
  · cases hm

end

theorem hdr_kind {m : MOp} (h : m.kind ≠ 0) : m.hdr = false := by
  cases hm : m.hdr with
  | false => rfl
  | true =>
    unfold MOp.hdr at hm
    split at hm <;> first | exact absurd rfl h | cases hm

theorem isW_kind {m : MO} (h : m.isW = true) : 2 ≤ m.op.kind := by
  simp [MO.isW] at h
  omega
theorem getB_set_off {H : List Blk} {b c : Nat} (k : Blk) (h : b ≠ c) : getB (H.set b k) c = getB H c := by simp [getB, List.getD_eq_getElem?_getD, h]
theorem oldR_op {ms : List MO} {i : Nat} (h : oldR ms i = true) : ∃ agg t, (ms.getD i noMO).op = .ld agg (.t t) ∧ ∀ m ∈ ms, m.dst ≠ some t := by
  unfold oldR at h
  split at h
  · rename_i agg t e
    refine ⟨agg, t, e, fun m hm => ?_⟩
    have := List.all_eq_true.1 h m hm
    simpa using this
  · cases h
theorem oldR_kind {ms : List MO} {i : Nat} (h : (ms.getD i noMO).op.kind ≠ 0) : oldR ms i = false := by
  cases ho : oldR ms i with
  | false => rfl
  | true =>
    obtain ⟨agg, t, e, _⟩ := oldR_op ho
    rw [e] at h
    exact absurd rfl h
theorem oldR_notW {ms : List MO} {i j : Nat} (h : (ms.getD i noMO).isW = true) : oldR ms i = true → freshW ms j = false := fun ho => by
  rw [oldR_kind (by have := isW_kind h; omega)] at ho
  cases ho

/-- A slice that lies in a block that is new. -/
def FrV (N : Nat) (v : V) : Prop := ∀ b n i j len cap sz, v = .hs b n i j len cap sz → N ≤ b
section
variable {P : Program} {G : Nat → Option (List V)}
theorem appK_fresh {N sz by_ : Nat} {x v : V} {ys : List V} {H H1 : List Blk} (h : appK sz by_ x ys H fun v' H' => v' = v ∧ H' = H1) (hx : FrV N x) (hN : N ≤ H.length) : FrV N v ∧ ∀ b, b < N → getB H1 b = getB H b := by
  have new : ∀ (k : Blk) b, b < N → getB (H ++ [k]) b = getB H b := fun k b hb => getB_app' (by omega)
  have set : ∀ (c : Nat) (k : Blk) b, N ≤ c → b < N → getB (H.set c k) b = getB H b := fun c k b hc hb => getB_set_off _ (by omega)
  have hl : ∀ n i j len cap s, FrV N (.hs H.length n i j len cap s) := fun n i j len cap s b _ _ _ _ _ _ e => by cases e; exact hN
  unfold appK at h
  obtain ⟨_, h⟩ := h
  split at h
  · split at h
    · obtain ⟨rfl, rfl⟩ := h; exact ⟨hx, fun _ _ => rfl⟩
    · obtain ⟨_, rfl, rfl⟩ := h; exact ⟨hl _ _ _ _ _ _, new _⟩
  · obtain ⟨_, rfl, rfl⟩ := h; exact ⟨hx, fun _ _ => rfl⟩
  · have hb := hx _ _ _ _ _ _ _ rfl
    have hb' : ∀ (b : Nat), N ≤ b → ∀ n i j len cap s, FrV N (.hs b n i j len cap s) := fun b hb n i j len cap s b' _ _ _ _ _ _ e => by cases e; exact hb
    obtain ⟨_, _, h⟩ := h
    split at h
    · obtain ⟨_, _, _, _, h⟩ := h
      split at h
      · split at h
        · obtain ⟨_, _, rfl, rfl⟩ := h; exact ⟨hb' _ hb _ _ _ _ _ _, fun b' h' => set _ _ b' hb h'⟩
        · obtain ⟨_, rfl, rfl⟩ := h; exact ⟨hl _ _ _ _ _ _, new _⟩
      · split at h
        · obtain ⟨_, rfl, rfl⟩ := h; exact ⟨hb' _ hb _ _ _ _ _ _, fun b' h' => set _ _ b' hb h'⟩
        · obtain ⟨_, _, _, rfl, rfl⟩ := h; exact ⟨hb' _ hb _ _ _ _ _ _, fun b' h' => set _ _ b' hb h'⟩
    · exact h.elim
  · exact h.elim

theorem Trace.long {ms : List MO} {v : Nat → V} {h : Nat → List Blk} {fr : Nat → Fr} {run : Nat → Bool} (tr : Trace P G ms v h fr run) {j : Nat} (hj : j ≤ ms.length) (hc : ∀ i, i < j → (ms.getD i noMO).op.kind ≠ 2 ∨ (ms.getD i noMO).q = true) : (h 0).length ≤ (h j).length := by
  have g := tr.rows (i := 0) j (by omega) hj fun i _ hi hw => by
    have hk := isW_kind hw
    rcases hc i hi with h2 | h2
    · have hk3 : (ms.getD i noMO).op.kind ≤ 3 := by cases (ms.getD i noMO).op <;> simp [MOp.kind]
      omega
    · unfold MO.isW at hw
      rw [h2] at hw
      simpa using hw
  rcases Nat.lt_or_ge (h j).length (h 0).length with hl | hl
  · obtain ⟨k', hk', _⟩ := g (h j).length _ (List.getElem?_eq_getElem hl)
    have := (List.getElem?_eq_some_iff.1 hk').1
    omega
  · exact hl

theorem Trace.fresh {ms : List MO} {v : Nat → V} {h : Nat → List Blk} {fr : Nat → Fr} {run : Nat → Bool} (tr : Trace P G ms v h fr run) : ∀ (j x : Nat), j ≤ ms.length → (∀ i, i < j → (ms.getD i noMO).op.kind ≠ 2 ∨ (ms.getD i noMO).q = true) → freshT ms j x = true → FrV (h 0).length (get (fr j) x)
  | 0, x, _, _, hf => by simp [freshT] at hf
  | j + 1, x, hj, hc, hf => by
    have hm : ms[j]? = some (ms.getD j noMO) := by simp [List.getD_eq_getElem?_getD, show j < ms.length by omega]
    have hl := tr.long (j := j) (by omega) fun i hi => hc i (by omega)
    rw [tr.frs j _ hm, get_put]
    unfold freshT at hf
    split at hf
    · rename_i hd
      rw [beq_iff_eq] at hd
      rw [if_pos hd]
      rw [Bool.and_eq_true] at hf
      obtain ⟨hg, hf⟩ := hf
      have hr : run j = true := by
        cases hr : run j with
        | true => rfl
        | false =>
          have := tr.gd j _ hm False True (by rw [hr]; simp)
          have hg' : (ms.getD j noMO).gd = none := by simpa using hg
          rw [hg'] at this
          exact this.elim
      have hs := tr.yes j _ hm hr (fun v' H' => v' = v j ∧ H' = h (j + 1)) ⟨rfl, rfl⟩
      split at hf
      · rename_i e
        rw [e, stepM_make rfl] at hs
        simp only [mkM] at hs
        obtain ⟨xs, hs, _⟩ := (partsS_det (G := G) _ _ _ _).same (H := []) hs
        rw [← hs.1]
        intro b n i jj len cap sz e
        cases e
        exact hl
      · rename_i y w e
        rw [e] at hs
        simp only [stepM, ev] at hs
        obtain ⟨ys, hs⟩ := elemsK_out hs
        exact (appK_fresh hs (tr.fresh j y (by omega) (fun i hi => hc i (by omega)) hf) hl).1
      · cases hf
    · rename_i hd
      rw [beq_iff_eq] at hd
      rw [if_neg hd]
      exact tr.fresh j x (by omega) (fun i hi => hc i (by omega)) hf

theorem Trace.freshW {ms : List MO} {v : Nat → V} {h : Nat → List Blk} {fr : Nat → Fr} {run : Nat → Bool} (tr : Trace P G ms v h fr run) {j : Nat} (hj : j < ms.length) (hf : freshW ms j = true) : ∀ b, b < (h 0).length → getB (h (j + 1)) b = getB (h j) b := by
  have hm : ms[j]? = some (ms.getD j noMO) := by simp [List.getD_eq_getElem?_getD, hj]
  unfold MW.freshW at hf
  rw [Bool.and_eq_true] at hf
  obtain ⟨hf, hc⟩ := hf
  have hc' : ∀ i, i < j → (ms.getD i noMO).op.kind ≠ 2 ∨ (ms.getD i noMO).q = true := fun i hi => by
    have := List.all_eq_true.1 hc i (by simpa using hi)
    simpa using this
  cases hr : run j with
  | false => rw [(tr.no j _ hm hr).2]; exact fun _ _ => rfl
  | true =>
    have hs := tr.yes j _ hm hr (fun v' H' => v' = v j ∧ H' = h (j + 1)) ⟨rfl, rfl⟩
    split at hf
    · rename_i x w e
      rw [e] at hs
      simp only [stepM, ev] at hs
      obtain ⟨ys, hs⟩ := elemsK_out hs
      exact (appK_fresh hs (tr.fresh j x (by omega) hc' hf) (tr.long (by omega) hc')).2
    · cases hf

theorem Trace.keep0 {ms : List MO} {v : Nat → V} {h : Nat → List Blk} {fr : Nat → Fr} {run : Nat → Bool} (tr : Trace P G ms v h fr run) {i b : Nat} (hb : b < (h 0).length) (hbi : b < (h i).length) : ∀ c, i ≤ c → c ≤ ms.length → (∀ j, i ≤ j → j < c → (ms.getD j noMO).isW = false ∨ MW.freshW ms j = true) → getB (h c) b = getB (h i) b ∧ b < (h c).length
  | 0, h1, _, _ => by obtain rfl : i = 0 := by omega
                      exact ⟨rfl, hbi⟩
  | c + 1, h1, h2, hw => by
    by_cases hc : i = c + 1
    · subst hc; exact ⟨rfl, hbi⟩
    · obtain ⟨k1, k2⟩ := tr.keep0 hb hbi c (by omega) (by omega) fun j hj hj' => hw j hj (by omega)
      have hm : ms[c]? = some (ms.getD c noMO) := by simp [List.getD_eq_getElem?_getD, show c < ms.length by omega]
      rcases hw c (by omega) (by omega) with h5 | h5
      · obtain ⟨T, hT⟩ := tr.grow hm h5
        rw [hT]
        exact ⟨by rw [getB_app' k2, k1], by rw [List.length_append]; omega⟩
      · have h6 := tr.freshW (by omega) h5 b hb
        refine ⟨by rw [h6, k1], ?_⟩
        have hk : (ms.getD c noMO).op.kind = 3 := by
          unfold MW.freshW at h5
          rw [Bool.and_eq_true] at h5
          have h7 := h5.1
          split at h7
          · rename_i e; rw [e]; rfl
          · cases h7
        cases hr : run c with
        | false => rw [(tr.no c _ hm hr).2]; exact k2
        | true =>
          have g := step_grow hk (tr.yes c _ hm hr (fun _ H' => H' = h (c + 1)) rfl)
          obtain ⟨k', hk', _⟩ := g b _ (List.getElem?_eq_getElem k2)
          exact (List.getElem?_eq_some_iff.1 hk').1

theorem Trace.reg0 {ms : List MO} {v : Nat → V} {h : Nat → List Blk} {fr : Nat → Fr} {run : Nat → Bool} (tr : Trace P G ms v h fr run) {t : Nat} (ht : ∀ m ∈ ms, m.dst ≠ some t) : ∀ i, i ≤ ms.length → get (fr i) t = get (fr 0) t
  | 0, _ => rfl
  | i + 1, hi => by
    have hm : ms[i]? = some (ms.getD i noMO) := by simp [List.getD_eq_getElem?_getD, show i < ms.length by omega]
    rw [tr.frs i _ hm, get_put, if_neg (ht _ (List.mem_of_getElem? hm))]
    exact tr.reg0 ht i (by omega)

theorem old_same {ms : List MO} {v : Nat → V} {h : Nat → List Blk} {fr : Nat → Fr} {run : Nat → Bool} {i c : Nat} (ho : oldR ms i = true) (hi : i < ms.length) (hm : ms[i]? = some (ms.getD i noMO)) (tr : Trace P G ms v h fr run) (hold : ∀ t b n i j, get (fr 0) t = .ptr b n i j → b < (h 0).length) (hic : i < c) (hc : c ≤ ms.length)
    (hw : ∀ j, i ≤ j → j < c → (ms.getD j noMO).isW = false ∨ MW.freshW ms j = true) (hs : stepM P G (ms.getD i noMO).q (ms.getD i noMO).op (fr i) (h i) fun v' H' => v' = v i ∧ H' = h (i + 1)) :
    stepM P G (ms.getD i noMO).q (ms.getD i noMO).op (fr i) (h c) fun v' H' => v' = v i ∧ H' = h c := by
  obtain ⟨agg, t, e, ht⟩ := oldR_op ho
  rw [e] at hs ⊢
  simp only [stepM, ev] at hs ⊢
  have hx := tr.reg0 ht i (by omega)
  have hold' := hold t
  rw [← hx] at hold'
  generalize get (fr i) t = x at hs hold'
  unfold ldK at hs ⊢
  split at hs
  · split at hs
    · exact ⟨hs.1, hs.2.1, rfl⟩
    · exact ⟨hs.1, hs.2.1, rfl⟩
  · rename_i b n i' j'
    have hb := hold' b n i' j' rfl
    split at hs
    · rename_i sz xs o f hg
      have hbi : b < (h i).length := by
        rcases Nat.lt_or_ge b (h i).length with h9 | h9
        · exact h9
        · simp [getB, List.getD_eq_getElem?_getD, List.getElem?_eq_none h9] at hg
      rw [(tr.keep0 hb hbi c (by omega) hc hw).1, hg]
      obtain ⟨h1, h2, hs⟩ := hs
      refine ⟨h1, h2, ?_⟩
      split at hs
      · exact ⟨hs.1, hs.2.1, rfl⟩
      · exact ⟨hs.1, hs.2.1, rfl⟩
    · exact hs.elim
  · exact hs.elim
end

structure DCtx (P : Program) (G : Nat → Option (List V)) (nt : Nat) (ops : Array Oper) (ms : List MO) (bs : List Nat) (v : Nat → V) (h : Nat → List Blk) (fr : Nat → Fr) (run : Nat → Bool) : Prop where
  hops : ∀ i o, ops[i]? = some o → ms[i]? = some (ms.getD i noMO) ∧ compOp P o.op = some (ms.getD i noMO).op ∧ compGuard ops.toList nt o.guard = some (ms.getD i noMO).gd ∧ dstOK nt o.dst = true ∧ (ms.getD i noMO).dst = o.dst
  len : ms.length = ops.size
  tr : Trace P G ms v h fr run
  ord : ∀ i j, i < j → j < ms.length → conflict (ms.getD i noMO) (ms.getD j noMO) = true → (oldR ms i = true → freshW ms j = false) → MW.ahead bs i j = true
  ordR : ∀ i j, i < j → j < ms.length → ((∃ d, (ms.getD i noMO).dst = some d ∧ (d ∈ (ms.getD j noMO).looks ∨ (ms.getD j noMO).dst = some d)) ∨ (∃ d, (ms.getD j noMO).dst = some d ∧ d ∈ (ms.getD i noMO).looks)) → MW.ahead bs i j = true
  old : ∀ t b n i j, get (fr 0) t = .ptr b n i j → b < (h 0).length

def dstOf (ms : List MO) (i : Nat) : Option Nat := (ms.getD i noMO).dst

def addD (D : Nat → Bool) (i : Nat) : Nat → Bool := fun j => decide (j = i) || D j

structure Inv (P : Program) (G : Nat → Option (List V)) (B : Bd) (nt : Nat) (Φ0 : Nat → Option Pl) (Z0 : Nat → Prop) (w0 : World) (ms : List MO) (bs : List Nat) (v : Nat → V) (h : Nat → List Blk) (fr : Nat → Fr) (run : Nat → Bool) (D : Nat → Bool) (a : Act) (w : World) (Φ : Nat → Option Pl) (Z : Nat → Prop) (c : Nat) : Prop where
  cle : c ≤ ms.length
  cat : c < ms.length → D c = false ∧ (ms.getD c noMO).isW = true
  cbe : ∀ j, j < c → (ms.getD j noMO).isW = true → D j = true
  rel : Rel G B Φ Z (h c) w
  frr : FrR Φ Z w (frl (dstOf ms) v (fr 0) D ms.length) a
  ev : Ev B Φ0 Z0 w0 Φ Z w
  sz : a.tmps.size = nt
  df : a.defers = []
  pend : ∀ i, i < c → D i = false → run i = true → (ms.getD i noMO).op.kind = 1 → Φ (h i).length = none ∧ B.pd (h i).length = none ∧ ∀ m b, i < m → m ≤ c → (h (i + 1))[(h i).length]? = some b → (h m)[(h i).length]? = some b
  clo : ∀ j, D j = true → j < ms.length ∧ ∀ i, MW.ahead bs i j = true → D i = true

section
variable {P : Program} {G : Nat → Option (List V)} {B : Bd} {nt : Nat} {Φ0 : Nat → Option Pl} {Z0 : Nat → Prop} {w0 : World} {ops : Array Oper} {ms : List MO} {bs : List Nat} {v : Nat → V} {h : Nat → List Blk} {fr : Nat → Fr} {run : Nat → Bool} {D : Nat → Bool} {a : Act} {w : World} {Φ : Nat → Option Pl} {Z : Nat → Prop} {c : Nat}

theorem conflict_iff {x y : MO} : conflict x y = true ↔ ((∃ d, x.dst = some d ∧ (d ∈ y.looks ∨ y.dst = some d)) ∨ (∃ d, y.dst = some d ∧ d ∈ x.looks) ∨ (x.isW = true ∧ y.op.heat ≠ 0 ∧ (y.op.hdr = false ∨ x.op.kind ≠ 3)) ∨ (x.op.heat ≠ 0 ∧ x.op.kind ≠ 1 ∧ y.isW = true)) := by
  unfold conflict
  cases hx : x.dst <;> cases hy : y.dst <;> simp [or_assoc, and_assoc]

theorem text_frame (tr : Trace P G ms v h fr run) (t : Nat) : ∀ k, k ≤ ms.length → get (frl (dstOf ms) v (fr 0) (fun _ => true) k) t = get (fr k) t
  | 0, _ => rfl
  | k + 1, hk => by
    have hm : ms[k]? = some (ms.getD k noMO) := by simp [List.getD_eq_getElem?_getD, show k < ms.length by omega]
    rw [frl_succ, tr.frs k _ hm, get_put, text_frame tr t k (by omega)]
    simp [dstOf]

/-- What an operation that may be next looks at is as in text. -/
theorem look_same (cx : DCtx P G nt ops ms bs v h fr run) (hclo : ∀ j, D j = true → j < ms.length ∧ ∀ i, MW.ahead bs i j = true → D i = true) {i : Nat} (hi : i < ms.length) (hD : D i = false) (hr : ∀ j, MW.ahead bs j i = true → D j = true) {t : Nat} (ht : t ∈ (ms.getD i noMO).looks) :
    get (frl (dstOf ms) v (fr 0) D ms.length) t = get (fr i) t := by
  rw [frl_skip (k := i) ms.length (by omega), frl_ext (D' := fun _ => true) i, text_frame cx.tr t i (by omega)]
  · intro j hj hd
    have := cx.ordR j i hj hi (.inl ⟨t, hd, .inl ht⟩)
    exact hr j this
  · intro j hj hj' hd
    by_cases hji : j = i
    · rw [hji]; exact hD
    · have := cx.ordR i j (by omega) hj' (.inr ⟨t, hd, ht⟩)
      cases hDj : D j with
      | false => rfl
      | true =>
        rw [(hclo j hDj).2 i this] at hD
        cases hD

/-- The frame behind an operation. -/
theorem frame_add (cx : DCtx P G nt ops ms bs v h fr run) (hclo : ∀ j, D j = true → j < ms.length ∧ ∀ i, MW.ahead bs i j = true → D i = true) {i : Nat} (hi : i < ms.length) (hD : D i = false) (t : Nat) :
    get (frl (dstOf ms) v (fr 0) (addD D i) ms.length) t = get (put (dstOf ms i) (v i) (frl (dstOf ms) v (fr 0) D ms.length)) t := by
  rw [get_put]
  split
  · rename_i hd
    rw [frl_skip (k := i + 1) ms.length (by omega), frl_succ, if_pos ⟨by simp [addD], hd⟩]
    intro j hj hj' hd'
    have := cx.ordR i j (by omega) hj' (.inl ⟨t, hd, .inr hd'⟩)
    cases hDj : D j with
    | false => simp [addD, hDj]; omega
    | true =>
      rw [(hclo j hDj).2 i this] at hD
      cases hD
  · rename_i hd
    refine frl_ext _ fun j hj hd' => ?_
    have : j ≠ i := by rintro rfl; exact hd hd'
    simp [addD, this]

theorem mem_looks {m : MO} {t : Nat} (h : Opd.t t ∈ m.op.opds) : t ∈ m.looks := by
  unfold MO.looks
  exact List.mem_append_left _ (List.mem_filterMap.2 ⟨.t t, h, rfl⟩)

theorem nextW (ms : List MO) : ∀ d k, ms.length - k = d → k ≤ ms.length → ∃ c, k ≤ c ∧ c ≤ ms.length ∧ (c < ms.length → (ms.getD c noMO).isW = true) ∧ ∀ j, k ≤ j → j < c → (ms.getD j noMO).isW = false
  | 0, k, hd, hk => ⟨ms.length, by omega, Nat.le_refl _, fun h => by omega, fun j h1 h2 => by omega⟩
  | d + 1, k, hd, hk => by
    cases hw : (ms.getD k noMO).isW with
    | true => exact ⟨k, Nat.le_refl _, hk, fun _ => hw, fun j h1 h2 => by omega⟩
    | false =>
      obtain ⟨c, h1, h2, h3, h4⟩ := nextW ms d (k + 1) (by omega) (by omega)
      refine ⟨c, by omega, h2, h3, fun j h5 h6 => ?_⟩
      by_cases hj : j = k
      · rw [hj]; exact hw
      · exact h4 j (by omega) h6

theorem isW_cool {m : MO} (h : m.op.kind = 0 ∨ m.op.kind = 1) : m.isW = false := by
  unfold MO.isW
  rcases h with h | h <;> rw [h] <;> rfl


theorem Rel.none_of_le {H : List Blk} (hrel : Rel G B Φ Z H w) {b : Nat} (h : H.length ≤ b) : Φ b = none := by
  cases hp : Φ b with
  | none => rfl
  | some p =>
    obtain ⟨k, hk, _⟩ := hrel.blk _ _ hp
    have := (List.getElem?_eq_some_iff.1 hk).1
    omega

open Classical in
/-- One operation, any that may be next. -/
theorem draw_step (cx : DCtx P G nt ops ms bs v h fr run) {Q : Exit → Act → World → Prop} {next : Act → World → Prop} {i : Nat} (hi : i < ms.length) (inv : Inv P G B nt Φ0 Z0 w0 ms bs v h fr run D a w Φ Z c) (hD : D i = false) (hr : ∀ j, MW.ahead bs j i = true → D j = true)
    (hn : ∀ a' w' Φ' Z' c', Inv P G B nt Φ0 Z0 w0 ms bs v h fr run (addD D i) a' w' Φ' Z' c' → next a' w') : wpOp P ops Q i next a w := by
  have hlt : i < ops.size := by rw [← cx.len]; exact hi
  have ho : ops[i]? = some ops[i] := Array.getElem?_eq_getElem hlt
  obtain ⟨hm, hcomp, hgd, hdst, hdsts⟩ := cx.hops i _ ho
  have hok : OpOK P G ops[i] (ms.getD i noMO).op := compOp_ok hcomp
  have hag : ∀ x ∈ (ms.getD i noMO).op.opds, ev G (fr i) x = ev G (frl (dstOf ms) v (fr 0) D ms.length) x := by
    intro x hx
    cases x with
    | t t => simp only [ev]; exact (look_same cx inv.clo hi hD hr (mem_looks hx)).symm
    | _ => rfl
  have hput : ∀ {Φ' : Nat → Option Pl} {Z' : Nat → Prop} {w' : World} {rv : Value}, Ev B Φ Z w Φ' Z' w' → VR Φ' Z' w' (v i) rv → FrR Φ' Z' w' (frl (dstOf ms) v (fr 0) (addD D i) ms.length) (a.put ops[i].dst rv) := by
    intro Φ' Z' w' rv he hv t
    rw [frame_add cx inv.clo hi hD]
    have : dstOf ms i = ops[i].dst := hdsts
    rw [this]
    exact (inv.frr.ev he).put hv (fun t ht => by rw [inv.sz]; exact dstOK_spec hdst t ht) t
  have hclo' : ∀ j, addD D i j = true → j < ms.length ∧ ∀ k, MW.ahead bs k j = true → addD D i k = true := by
    intro j hj
    simp only [addD, Bool.or_eq_true, decide_eq_true_eq] at hj ⊢
    rcases hj with rfl | hj
    · exact ⟨hi, fun k hk => .inr (hr k hk)⟩
    · exact ⟨(inv.clo j hj).1, fun k hk => .inr ((inv.clo j hj).2 k hk)⟩
  -- where a writer stands that is not done
  have hot : (ms.getD i noMO).op.heat ≠ 0 → (ms.getD i noMO).isW = false → i < c ∨ ((ms.getD i noMO).op.hdr = true ∧ c ≤ i ∧ ∀ j, c ≤ j → j < i → (ms.getD j noMO).isW = true → (ms.getD j noMO).op.kind = 3) := by
    intro hh hw
    rcases Nat.lt_or_ge i c with h1 | h1
    · exact .inl h1
    · have hcl : c < ms.length := by omega
      obtain ⟨h2, h3⟩ := inv.cat hcl
      have hne : c ≠ i := by rintro rfl; rw [hw] at h3; cases h3
      have key : ∀ j, c ≤ j → j < i → (ms.getD j noMO).isW = true → (ms.getD i noMO).op.hdr = true ∧ (ms.getD j noMO).op.kind = 3 := by
        intro j hj hji hwj
        refine Classical.byContradiction fun hno => ?_
        have h4 := hr j (cx.ord j i hji hi (conflict_iff.2 (.inr (.inr (.inl ⟨hwj, hh, by
          cases hd : (ms.getD i noMO).op.hdr with
          | false => exact .inl rfl
          | true => exact .inr fun e => hno ⟨hd, e⟩⟩)))) (oldR_notW hwj))
        by_cases hjc : j = c
        · subst hjc; rw [h2] at h4; cases h4
        · have h5 := (inv.clo j h4).2 c (cx.ord c j (by omega) (by omega) (conflict_iff.2 (.inr (.inr (.inr ⟨kind_heat (by have := isW_kind h3; omega), by have := isW_kind h3; omega, hwj⟩)))) (oldR_notW h3))
          rw [h2] at h5; cases h5
      exact .inr ⟨(key c (Nat.le_refl _) (by omega) h3).1, h1, fun j hj hji hwj => (key j hj hji hwj).2⟩
  have hot_lt : (ms.getD i noMO).op.heat ≠ 0 → (ms.getD i noMO).isW = false → (ms.getD i noMO).op.hdr = false → i < c := by
    intro hh hw hd
    rcases hot hh hw with h1 | ⟨h1, _⟩
    · exact h1
    · rw [hd] at h1; cases h1
  have w_at : (ms.getD i noMO).isW = true → i = c := by
    intro hw
    have hh : (ms.getD i noMO).op.heat ≠ 0 := kind_heat (by have := isW_kind hw; omega)
    rcases Nat.lt_trichotomy i c with h1 | h1 | h1
    · rw [inv.cbe i h1 hw] at hD; cases hD
    · exact h1
    · have hcl : c < ms.length := by omega
      obtain ⟨h2, h3⟩ := inv.cat hcl
      have := hr c (cx.ord c i (by omega) hi (conflict_iff.2 (.inr (.inr (.inr ⟨kind_heat (by have := isW_kind h3; omega), by have := isW_kind h3; omega, hw⟩)))) (oldR_notW h3))
      rw [h2] at this
      cases this
  have noW : ∀ k, k < c → D k = false → (ms.getD k noMO).op.heat ≠ 0 → (ms.getD k noMO).op.kind ≠ 1 → ∀ j, k ≤ j → j < c → (ms.getD j noMO).isW = false ∨ (oldR ms k = true ∧ freshW ms j = true) := by
    intro k hk hDk hh hk1 j hj hjc
    cases hw : (ms.getD j noMO).isW with
    | false => exact .inl rfl
    | true =>
      right
      refine Classical.byContradiction fun hno => ?_
      have hDj := inv.cbe j hjc hw
      by_cases hjk : j = k
      · subst hjk; rw [hDk] at hDj; cases hDj
      · have hjl : j < ms.length := by have := inv.cle; omega
        have := (inv.clo j hDj).2 k (cx.ord k j (by omega) hjl (conflict_iff.2 (.inr (.inr (.inr ⟨hh, hk1, hw⟩)))) fun ho => by
          cases hf : freshW ms j with
          | false => rfl
          | true => exact absurd ⟨ho, hf⟩ hno)
        rw [hDk] at this; cases this
  -- what stays where nothing is written
  have same : (ms.getD i noMO).isW = false → ∀ {Φ' : Nat → Option Pl} {Z' : Nat → Prop} {w' : World} {rv : Value}, Rel G B Φ' Z' (h c) w' → Ev B Φ Z w Φ' Z' w' → VR Φ' Z' w' (v i) rv →
      (∀ k, k < c → D k = false → k ≠ i → run k = true → (ms.getD k noMO).op.kind = 1 → Φ' (h k).length = none) → next (a.put ops[i].dst rv) w' := by
    intro hw Φ' Z' w' rv hrel hev hv hp
    refine hn _ _ Φ' Z' c ⟨inv.cle, fun hcl => ?_, fun j hj hwj => ?_, hrel, hput hev hv, inv.ev.trans hev, by rw [put_size]; exact inv.sz, by rw [put_defers']; exact inv.df, fun k hk hDk hrk hkk => ?_, hclo'⟩
    · obtain ⟨h2, h3⟩ := inv.cat hcl
      have hne : c ≠ i := by rintro rfl; rw [hw] at h3; cases h3
      exact ⟨by simp [addD, hne, h2], h3⟩
    · simp [addD, inv.cbe j hj hwj]
    · have hki : k ≠ i := by rintro rfl; simp [addD] at hDk
      have : D k = false := by simpa [addD, hki] using hDk
      obtain ⟨_, h5, h6⟩ := inv.pend k hk this hrk hkk
      exact ⟨hp k hk this hki hrk hkk, h5, h6⟩
  -- what comes behind a writer
  have wrote : (ms.getD i noMO).isW = true → ∀ {Φ' : Nat → Option Pl} {Z' : Nat → Prop} {w' : World} {rv : Value}, Rel G B Φ' Z' (h (i + 1)) w' → Ev B Φ Z w Φ' Z' w' → VR Φ' Z' w' (v i) rv →
      (∀ k, k < c → D k = false → run k = true → (ms.getD k noMO).op.kind = 1 → Φ' (h k).length = none ∧ ∀ b, (h c)[(h k).length]? = some b → (h (i + 1))[(h k).length]? = some b) → next (a.put ops[i].dst rv) w' := by
    intro hw Φ' Z' w' rv hrel hev hv hp
    have hic := w_at hw
    obtain ⟨c', h1, h2, h3, h4⟩ := nextW ms _ (i + 1) rfl (by omega)
    obtain ⟨T, hT⟩ := cx.tr.seg c' h1 h2 h4
    refine hn _ _ Φ' Z' c' ⟨h2, fun hcl => ⟨?_, h3 hcl⟩, fun j hj hwj => ?_, by rw [hT]; exact hrel.extend T, hput hev hv, inv.ev.trans hev, by rw [put_size]; exact inv.sz, by rw [put_defers']; exact inv.df, fun k hk hDk hrk hkk => ?_, hclo'⟩
    · have hne : c' ≠ i := by omega
      cases hDc : D c' with
      | false => simp [addD, hne, hDc]
      | true =>
        have := (inv.clo c' hDc).2 i (cx.ord i c' (by omega) hcl (conflict_iff.2 (.inr (.inr (.inr ⟨kind_heat (by have := isW_kind hw; omega), by have := isW_kind hw; omega, h3 hcl⟩)))) (oldR_notW hw))
        rw [hD] at this; cases this
    · rcases Nat.lt_trichotomy j i with h5 | h5 | h5
      · simp [addD, inv.cbe j (by omega) hwj]
      · simp [addD, h5]
      · rw [h4 j (by omega) hj] at hwj; cases hwj
    · have hki : k ≠ i := by rintro rfl; simp [addD] at hDk
      have hDk' : D k = false := by simpa [addD, hki] using hDk
      rcases Nat.lt_or_ge k i with h5 | h5
      · obtain ⟨g1, g2⟩ := hp k (by omega) hDk' hrk hkk
        obtain ⟨_, g4, g5⟩ := inv.pend k (by omega) hDk' hrk hkk
        refine ⟨g1, g4, fun m b hm1 hm2 hb => ?_⟩
        rcases Nat.lt_or_ge m (i + 1) with h6 | h6
        · exact g5 m b hm1 (by omega) hb
        · obtain ⟨T', hT'⟩ := cx.tr.seg (i := i + 1) m h6 (by omega) fun j h7 h8 => h4 j h7 (by omega)
          have h9 := g2 b (g5 c b (by omega) (Nat.le_refl _) hb)
          rw [hT', List.getElem?_append_left (List.getElem?_eq_some_iff.1 h9).1]
          exact h9
      · obtain ⟨T', hT'⟩ := cx.tr.seg (i := i + 1) k (by omega) (by omega) fun j h6 h7 => h4 j h6 (by omega)
        have hlen : (h (i + 1)).length ≤ (h k).length := by rw [hT', List.length_append]; omega
        refine ⟨hrel.none_of_le hlen, ?_, fun m b hm1 hm2 hb => ?_⟩
        · cases hpd : B.pd (h k).length with
          | none => rfl
          | some x =>
            have := (List.getElem?_eq_some_iff.1 (hrel.pend _ _ hpd).1).1
            omega
        · obtain ⟨T2, hT2⟩ := cx.tr.seg (i := k + 1) m (by omega) (by omega) fun j h7 h8 => h4 j (by omega) (by omega)
          rw [hT2, List.getElem?_append_left (List.getElem?_eq_some_iff.1 hb).1]
          exact hb
  -- the guard
  have hguard := cx.tr.gd i _ hm
  have hgk : ∀ p q : Prop, gdK (fr i) (ms.getD i noMO).gd p q → gdK (frl (dstOf ms) v (fr 0) D ms.length) (ms.getD i noMO).gd p q := by
    intro p q hh
    cases hg : (ms.getD i noMO).gd with
    | none => rw [hg] at hh; exact hh
    | some tw =>
      obtain ⟨t, want⟩ := tw
      rw [hg] at hh
      have ht : t ∈ (ms.getD i noMO).looks := by
        unfold MO.looks
        rw [hg]
        exact List.mem_append_right _ (by simp)
      simp only [gdK] at hh ⊢
      rw [look_same cx inv.clo hi hD hr ht]
      exact hh
  unfold wpOp
  rw [ho]
  simp only
  have hgs := guard_sound (ops := ops) (o := ops[i]) (p := run i = true) (q := run i = false) inv.frr inv.sz hgd (hgk _ _ (hguard _ _ (by cases run i <;> simp)))
  rcases hgs with ⟨hwant, hrun⟩ | ⟨hwant, hrun⟩
  · rw [hwant, if_pos rfl]
    refine .inl ?_
    have hyes := cx.tr.yes i _ hm hrun
    -- by kind
    rcases hk : (ms.getD i noMO).op.kind with _ | _ | k
    · -- it reads
      have hw : (ms.getD i noMO).isW = false := isW_cool (.inl hk)
      have hs : stepM P G (ms.getD i noMO).q (ms.getD i noMO).op (fr i) (h c) fun v' H' => v' = v i ∧ H' = h c := by
        by_cases h0 : (ms.getD i noMO).op.heat = 0
        · obtain ⟨v', ⟨rfl, _⟩, h2⟩ := stepM_cool h0 (hyes (fun v' H' => v' = v i ∧ H' = h (i + 1)) ⟨rfl, rfl⟩)
          exact h2 _ _ ⟨rfl, rfl⟩
        · rcases hot h0 hw with hic | ⟨hhd, hci, hk3⟩
          · by_cases hor : oldR ms i = true
            · exact old_same hor hi (by simpa using hm) cx.tr cx.old hic inv.cle (fun j h1 h2 => by
                rcases noW i hic hD h0 (by omega) j h1 h2 with h5 | ⟨_, h5⟩
                · exact .inl h5
                · exact .inr h5) (hyes _ ⟨rfl, rfl⟩)
            obtain ⟨T, hT⟩ := cx.tr.seg (i := i) c (by omega) inv.cle (fun j h1 h2 => by
              rcases noW i hic hD h0 (by omega) j h1 h2 with h5 | ⟨h5, _⟩
              · exact h5
              · exact absurd h5 hor)
            obtain ⟨v', ⟨rfl, _⟩, h2⟩ := stepM_read hk (hyes (fun v' H' => v' = v i ∧ H' = h (i + 1)) ⟨rfl, rfl⟩)
            rw [hT]
            exact h2 T _ ⟨rfl, rfl⟩
          · have hgr := cx.tr.rows i hci (by omega) hk3
            have hs0 : stepM P G (ms.getD i noMO).q (ms.getD i noMO).op (fr i) (h i) fun v' H' => v' = v i ∧ H' = h (i + 1) := hyes _ ⟨rfl, rfl⟩
            refine hdr_same hhd (fun t ht b n hx sz xs o f hb hn => ?_) hs0
            have hvr : VR Φ Z w (get (fr i) t) (a.tmps.getD t undef) := by
              have e := hag _ ht
              simp only [ev] at e
              rw [e]
              exact inv.frr t
            have hp : ∃ p, Φ b = some p ∧ n ≤ p.n := by
              rcases hx with ⟨i', j', e⟩ | ⟨i', j', len, cap, sz', e⟩
              · rw [e] at hvr
                generalize a.tmps.getD t undef = rv at hvr
                cases hvr with
                | ptr _ _ _ _ p a hp hn' hv => exact ⟨p, hp, hn'⟩
              · rw [e] at hvr
                generalize a.tmps.getD t undef = rv at hvr
                cases hvr with
                | hs _ _ _ _ _ _ _ p base rcap hp hn' hv => exact ⟨p, hp, hn'⟩
            obtain ⟨p, hpb, hpn⟩ := hp
            obtain ⟨k, hk1, hk2⟩ := inv.rel.blk b p hpb
            obtain ⟨k', hk3, hk4⟩ := hgr b k hk1
            rw [getB_some hb] at hk3
            obtain rfl := Option.some.inj hk3
            cases k with
            | map es clk => exact hk4.elim
            | iter m s sn l => exact hk4.elim
            | row sz0 xs0 o0 f0 =>
              obtain ⟨e1, e2⟩ := hk4
              subst e1
              have := hk2.len
              exact ⟨xs0, o0, f0, by unfold getB; rw [List.getD_eq_getElem?_getD, hk1]; rfl, by omega⟩
      rw [stepM_congr hag] at hs
      obtain ⟨rv, v', hrun', ⟨rfl, _⟩, hv⟩ := hok.rd hk inv.rel inv.frr hs
      unfold Oper.wp
      rw [hrun', Oper.upon_value]
      exact same hw inv.rel (Ev.refl _ _ _ _) hv fun k hk1 hk2 _ hk3 hk4 => (inv.pend k hk1 hk2 hk3 hk4).1
    · -- it makes
      have hw : (ms.getD i noMO).isW = false := isW_cool (.inr hk)
      have hh : (ms.getD i noMO).op.heat ≠ 0 := kind_heat (by omega)
      have hic := hot_lt hh hw (hdr_kind (by omega))
      have made : ∃ r b, v i = r (h i).length ∧ h (i + 1) = h i ++ [b] ∧ (∀ C : (Nat → V) → Blk → Prop, C r b → mkM G (ms.getD i noMO).op (fr i) C) := by
        have hs := cx.tr.yes i _ hm hrun (fun v' H' => v' = v i ∧ H' = h (i + 1)) ⟨rfl, rfl⟩
        rw [stepM_make hk] at hs
        obtain ⟨r, b, ⟨h1, h2⟩, h3⟩ := mkM_det hs
        exact ⟨r, b, h1.symm, h2.symm, h3⟩
      obtain ⟨r, b, h1, h2, h4⟩ := made
      obtain ⟨q1, q2, q3⟩ := inv.pend i hic hD hrun hk
      have q3' : ∀ m, i < m → m ≤ c → (h m)[(h i).length]? = some b := fun m hm1 hm2 => q3 m b hm1 hm2 (by rw [h2]; simp)
      have hmk := h4 (fun r' b' => r' = r ∧ b' = b) ⟨rfl, rfl⟩
      have hmk' : mkM G (ms.getD i noMO).op (frl (dstOf ms) v (fr 0) D ms.length) fun r' b' => r' = r ∧ b' = b := by
        have e : ∀ f : Fr, mkM G (ms.getD i noMO).op f (fun r' b' => r' = r ∧ b' = b) ↔ stepM P G false (ms.getD i noMO).op f [] fun _ _ => mkM G (ms.getD i noMO).op f fun r' b' => r' = r ∧ b' = b := by
          intro f
          rw [stepM_make hk]
          refine ⟨fun hh => ?_, fun hh => ?_⟩
          · obtain ⟨r2, b2, _, h7⟩ := mkM_det hh
            exact h7 _ hh
          · obtain ⟨r2, b2, h6, _⟩ := mkM_det hh
            exact h6
        have hs := hyes (fun v' H' => v' = v i ∧ H' = h (i + 1)) ⟨rfl, rfl⟩
        exact mkM_congr hag ▸ hmk
      obtain ⟨rv, r', b', w', hrun', ⟨rfl, rfl⟩, hmake⟩ := hok.mkr hk inv.rel inv.frr hmk'
      obtain ⟨p, hrel', hev', hv'⟩ := hmake (h c) (h i).length inv.rel (q3' c hic (Nat.le_refl _)) q1 q2
      unfold Oper.wp
      rw [hrun', Oper.upon_value]
      rw [← h1] at hv'
      refine same hw hrel' hev' hv' fun k hk1 hk2 hki hk3 hk4 => ?_
      obtain ⟨p1, p2, p3⟩ := inv.pend k hk1 hk2 hk3 hk4
      rw [put1_ne]
      · exact p1
      · rcases Nat.lt_or_ge k i with h6 | h6
        · have hsk := cx.tr.yes k (ms.getD k noMO) (by simp [List.getD_eq_getElem?_getD, show k < ms.length by omega]) hk3 (fun v' H' => v' = v k ∧ H' = h (k + 1)) ⟨rfl, rfl⟩
          rw [stepM_make hk4] at hsk
          obtain ⟨r2, b2, ⟨_, e2⟩, _⟩ := mkM_det hsk
          have := (List.getElem?_eq_some_iff.1 (p3 i b2 h6 (by omega) (by rw [← e2]; simp))).1
          omega
        · have := (List.getElem?_eq_some_iff.1 (q3' k (by omega) (by omega))).1
          omega
    · -- it calls, or writes
      cases hw : (ms.getD i noMO).isW with
      | true =>
        have hic := w_at hw
        have hs := hyes (fun v' H' => v' = v i ∧ H' = h (i + 1)) ⟨rfl, rfl⟩
        rw [stepM_congr hag] at hs
        let B' : Bd := ⟨B.w, fun b => match B.pd b with
          | some k => some k
          | none => if ∃ k, k < c ∧ D k = false ∧ run k = true ∧ (ms.getD k noMO).op.kind = 1 ∧ (h k).length = b then (h c)[b]? else none⟩
        have hrel1 : Rel G B' Φ Z (h c) w := by
          refine { inv.rel with pend := fun b k hb => ?_ }
          simp only [B'] at hb
          split at hb
          · rename_i k' hk'
            obtain rfl := Option.some.inj hb
            exact inv.rel.pend _ _ hk'
          · split at hb
            · rename_i hex
              obtain ⟨k2, g1, g2, g3, g4, rfl⟩ := hex
              exact ⟨hb, (inv.pend k2 g1 g2 g3 g4).1⟩
            · cases hb
        have hrel0 := hrel1
        rw [← hic] at hrel0
        refine hok.wr (by omega) hrel0 inv.frr hs _ _ ?_
        rintro rv v' H' Φ' Z' w' ⟨rfl, rfl⟩ hv hr' hev'
        refine wrote hw { hr' with pend := fun b k hb => hr'.pend b k (by simp only [B', hb]) } hev' hv fun k g1 g2 g3 g4 => ?_
        have hpd : ∀ b, (h c)[(h k).length]? = some b → B'.pd (h k).length = some b := by
          intro b hb
          have hn := (inv.pend k g1 g2 g3 g4).2.1
          simp only [B', hn]
          rw [if_pos ⟨k, g1, g2, g3, g4, rfl⟩]
          exact hb
        obtain ⟨_, _, p3⟩ := inv.pend k g1 g2 g3 g4
        have hsk := cx.tr.yes k (ms.getD k noMO) (by simp [List.getD_eq_getElem?_getD, show k < ms.length by have := inv.cle; omega]) g3 (fun v' H' => v' = v k ∧ H' = h (k + 1)) ⟨rfl, rfl⟩
        rw [stepM_make g4] at hsk
        obtain ⟨r2, b2, ⟨_, e2⟩, _⟩ := mkM_det hsk
        have hb2 := p3 c b2 g1 (Nat.le_refl _) (by rw [← e2]; simp)
        refine ⟨(hr'.pend _ _ (hpd b2 hb2)).2, fun b hb => (hr'.pend _ _ (hpd b hb)).1⟩
      | false =>
        have hk2 : (ms.getD i noMO).op.kind = 2 ∧ (ms.getD i noMO).q = true := by
          simp only [MO.isW, Bool.or_eq_false_iff, beq_eq_false_iff_ne, Bool.and_eq_false_iff, Bool.not_eq_false', beq_iff_eq] at hw
          have hk3 : (ms.getD i noMO).op.kind ≤ 3 := by cases (ms.getD i noMO).op <;> simp [MOp.kind]
          have hk4 : (ms.getD i noMO).op.kind = 2 := by have := hw.1; omega
          refine ⟨hk4, ?_⟩
          rcases hw.2 with h5 | h5
          · exact absurd hk4 h5
          · exact h5
        have hh : (ms.getD i noMO).op.heat ≠ 0 := kind_heat (by omega)
        have hic := hot_lt hh hw (hdr_kind (by omega))
        obtain ⟨T, hT⟩ := cx.tr.seg (i := i) c (by omega) inv.cle (fun j hj hjc => by
          rcases noW i hic hD hh (by omega) j hj hjc with h5 | ⟨h5, _⟩
          · exact h5
          · rw [oldR_kind (by omega)] at h5; cases h5)
        have hs := hyes (fun v' H' => v' = v i ∧ H' = h (i + 1)) ⟨rfl, rfl⟩
        rw [hk2.2] at hs
        obtain ⟨v', ⟨rfl, _⟩, h2⟩ := stepM_quiet hk2.1 hs
        have hs2 := h2 T (fun v' H' => v' = v i ∧ H' = h i ++ T) ⟨rfl, rfl⟩
        rw [stepM_congr hag, ← hT] at hs2
        refine hok.qt hk2.1 inv.rel inv.frr hs2 fun rv Z' w' hv hr' hev' => ?_
        exact same hw hr' hev' hv fun k hk1 hk2 _ hk3 hk4 => (inv.pend k hk1 hk2 hk3 hk4).1
  · rw [hwant]
    simp only [Bool.false_eq_true, if_false]
    obtain ⟨hj, hsame⟩ := cx.tr.no i _ hm hrun
    cases hw : (ms.getD i noMO).isW with
    | true =>
      have hic := w_at hw
      refine wrote hw (Φ' := Φ) (Z' := Z) ?_ (Ev.refl _ _ _ _) (by rw [hj]; exact .tup [] #[] rfl (fun i hi => absurd hi (Nat.not_lt_zero _))) fun k g1 g2 g3 g4 => ⟨(inv.pend k g1 g2 g3 g4).1, fun b hb => ?_⟩
      · rw [hsame, hic]
        exact inv.rel
      · rw [hsame, hic]
        exact hb
    | false => exact same hw inv.rel (Ev.refl _ _ _ _) (by rw [hj]; exact .tup [] #[] rfl (fun i hi => absurd hi (Nat.not_lt_zero _))) fun k hk1 hk2 _ hk3 hk4 => (inv.pend k hk1 hk2 hk3 hk4).1

end
end Go.MW

