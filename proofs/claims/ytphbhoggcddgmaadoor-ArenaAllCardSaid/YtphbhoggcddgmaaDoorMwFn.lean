/- Functions: from the small code of a body to what a call does; sealed calls. -/
import Derived.Test.YtphbhoggcddgmaaDoorMwDraw3
namespace Go.MW
open Go Go.RowKit
set_option linter.unusedVariables false
set_option linter.unusedSimpArgs false

/-- The slots that a call's arguments fill. -/
def argFr : Nat → List V → Fr
  | _, [] => []
  | i, v :: vs => (i, v) :: argFr (i + 1) vs

theorem argFr_get : ∀ (vs : List V) (i k : Nat), get (argFr i vs) k = if i ≤ k then vs.getD (k - i) .junk else .junk
  | [], i, k => by simp [argFr, get]
  | v :: vs, i, k => by
    simp only [argFr, get_cons]
    by_cases h : i = k
    · subst h; simp
    · rw [if_neg h, argFr_get vs (i + 1) k]
      by_cases h2 : i + 1 ≤ k
      · rw [if_pos h2, if_pos (by omega), show k - i = (k - (i + 1)) + 1 by omega, List.getD_cons_succ]
      · rw [if_neg h2, if_neg (by omega)]

/-- Where a result lies: in a slot; or in memory, at the address that a slot holds. -/
inductive RS where
  | t (i : Nat)
  | c (agg : Option Nat) (i : Nat)

def resTmp (P : Program) : ResultVar → Option RS
  | .tmp t => some (.t t)
  | .cell a t => (aggT P t).map (.c · a)

/-- The places of a function's results. -/
def resTmps (P : Program) : List ResultVar → Option (List RS)
  | [] => some []
  | r :: rs => match resTmp P r, resTmps P rs with
    | some t, some ts => some (t :: ts)
    | _, _ => none

def packV : List V → V
  | [v] => v
  | vs => .tup vs

def resK (fr : Fr) (H : List Blk) : List RS → (List V → Prop) → Prop
  | [], C => C []
  | .t i :: rs, C => resK fr H rs fun vs => C (get fr i :: vs)
  | .c agg i :: rs, C => ldK agg (get fr i) H fun v _ => resK fr H rs fun vs => C (v :: vs)

/-- A function's body in small code, and the slots of its results. -/
def Compiled (P : Program) (f np : Nat) (c : MC) (rs : List RS) : Prop :=
  ∃ fn body, P.funcs[f]? = some fn ∧ fn.body = some body ∧ comp P fn.ntmps body = some c ∧ resTmps P fn.results.toList = some rs ∧ np ≤ fn.ntmps

theorem Compiled.of {P : Program} {f np : Nat} {c : MC} {rs : List RS} {fn : Func} {body : Code} (h1 : P.funcs[f]? = some fn) (h2 : fn.body = some body) (h3 : comp P fn.ntmps body = some c) (h4 : resTmps P fn.results.toList = some rs) (h5 : Nat.ble np fn.ntmps = true) : Compiled P f np c rs :=
  ⟨fn, body, h1, h2, h3, h4, Nat.le_of_ble_eq_true h5⟩

/-- A function's small code. -/
def compF (P : Program) (fn : Func) : Option (MC × List RS) :=
  match fn.body with
  | none => none
  | some b => match comp P fn.ntmps b, resTmps P fn.results.toList with
    | some c, some rs => some (c, rs)
    | _, _ => none

theorem Compiled.fn {P : Program} {f np : Nat} {c : MC} {rs : List RS} {fn : Func} (h1 : P.funcs[f]? = some fn) (h2 : compF P fn = some (c, rs)) (h3 : Nat.ble np fn.ntmps = true) : Compiled P f np c rs := by
  unfold compF at h2
  split at h2
  · cases h2
  · rename_i b hb
    split at h2 <;> simp at h2
    obtain ⟨rfl, rfl⟩ := h2
    exact .of h1 hb (by assumption) (by assumption) h3

section
variable {P : Program} {G : Nat → Option (List V)}

theorem run_results {B : Nat} {Φ : Nat → Option Pl} {Z : Nat → Prop} {H : List Blk} {w : World} {fr : Fr} {a : Act} (hrel : Rel G B Φ Z H w) (hf : FrR Φ Z w fr a) : ∀ (rs : List ResultVar) (ts : List RS) (C : List V → Prop), resTmps P rs = some ts → resK fr H ts C →
    ∃ (vs : List Value) (us : List V), (rs.mapM (m := Sem) fun | .tmp t => pure (a.tmps.getD t undef) | .cell c t => do loadVar t (← asAddr (a.tmps.getD c undef))).run P w = .ok vs w ∧ C us ∧ vs.length = us.length ∧ ∀ i, i < us.length → VR Φ Z w (us.getD i .junk) (vs.getD i undef)
  | [], ts, C, h, hk => by simp [resTmps] at h; subst h; exact ⟨[], [], by simp, hk, rfl, by simp⟩
  | r :: rs, ts, C, h, hk => by
    simp only [resTmps] at h
    split at h <;> simp at h
    rename_i t ts' hr hrs
    subst h
    cases r with
    | cell c ty =>
      simp only [resTmp, Option.map_eq_some_iff] at hr
      obtain ⟨agg, hagg, rfl⟩ := hr
      simp only [resK] at hk
      let o : Oper := { dst := none, op := .load ty (.tmp c), type := ty, pos := "", after := #[], guard := none }
      obtain ⟨rv, v, hrun, hk2, hv⟩ := ld_sound (o := o) (x := .tmp c) (y := .t c) (agg := agg) hrel hf rfl hagg rfl (K := fun v _ => resK fr H ts' fun vs => C (v :: vs)) hk
      obtain ⟨vs, us, h1, h2, h3, h4⟩ := run_results hrel hf rs ts' _ hrs hk2
      have hload : (do loadVar ty (← asAddr (a.tmps.getD c undef)) : Sem Value).run P w = .ok rv w := by
        have he : a.eval (.tmp c) = a.tmps.getD c undef := rfl
        simp only [o, execOp, Instr.loadAt, he, Sem.run_bind] at hrun ⊢
        generalize a.tmps.getD c undef = x at hrun
        cases x with
        | pointer ad =>
          cases ad with
          | none => simp [Instr.sureAddr, stuck, Sem.run, Result.andThen] at hrun
          | some ad =>
            simp only [Instr.sureAddr, asAddr, Sem.run_pure, Result.andThen_ok] at hrun ⊢
            cases hl : (loadVar ty ad).run P w with
            | ok u w' => rw [hl] at hrun; simp [Result.andThen] at hrun; rw [hrun.1, hrun.2]
            | halt x w' => rw [hl] at hrun; simp [Result.andThen] at hrun
        | _ => simp [Instr.sureAddr, stuck, Sem.run, Result.andThen] at hrun
      refine ⟨rv :: vs, v :: us, ?_, h2, by simp [h3], fun i hi => ?_⟩
      · simp only [List.mapM_cons, Sem.run_bind, Sem.run_pure, Result.andThen_ok] at hload ⊢
        rw [hload]
        simp only [Result.andThen_ok, h1]
      · cases i with
        | zero => exact hv
        | succ i => simpa using h4 i (by simpa using hi)
    | tmp t' =>
      simp [resTmp] at hr
      subst hr
      simp only [resK] at hk
      obtain ⟨vs, us, h1, h2, h3, h4⟩ := run_results hrel hf rs ts' _ hrs hk
      refine ⟨a.tmps.getD t' undef :: vs, get fr t' :: us, ?_, h2, by simp [h3], fun i hi => ?_⟩
      · simp only [List.mapM_cons, Sem.run_bind, Sem.run_pure, Result.andThen_ok, h1]
      · cases i with
        | zero => exact hf t'
        | succ i => simpa using h4 i (by simpa using hi)

/-- A call on the abstract heap, what it comes to told by a property. -/
def SimP (P : Program) (G : Nat → Option (List V)) (f : Nat) (args : List V) (H : List Blk) (Q : V → List Blk → Prop) : Prop :=
  ∀ (B : Nat) (Φ : Nat → Option Pl) (Z : Nat → Prop) (w : World) (rargs : Array Value), Rel G B Φ Z H w → VRs Φ Z w args rargs →
    Calls P f rargs w fun e w' => ∃ rv r H' Φ' Z', e = .returned rv ∧ Q r H' ∧ VR Φ' Z' w' r rv ∧ Rel G B Φ' Z' H' w' ∧ Ev B Φ Z w Φ' Z' w'

theorem SimP.sim {f : Nat} {args : List V} {H H' : List Blk} {r : V} (h : SimP P G f args H fun r' H'' => r' = r ∧ H'' = H') : Sim P G f args H r H' := by
  intro B Φ Z w rargs hrel ha
  refine (h B Φ Z w rargs hrel ha).mono ?_
  rintro e w' ⟨rv, r', H'', Φ', Z', he, ⟨rfl, rfl⟩, hv, hr, hev⟩
  exact ⟨rv, Φ', Z', he, hv, hr, hev⟩

/-- What a function's call does, from its body's small code. -/
theorem SimP.intro (hP : P.follows .mixedOrders = true) {f : Nat} {args : List V} {H : List Blk} {Q : V → List Blk → Prop} {c : MC} {rs : List RS} (hc : Compiled P f args.length c rs)
    (h : mwp P G c (fun e st => (e = .normal ∨ e = .ret) ∧ resK st.fr st.H rs fun us => Q (packV us) st.H) ⟨argFr 0 args, H⟩) : SimP P G f args H Q := by
  obtain ⟨fn, body, h1, h2, h3, h4, h5⟩ := hc
  intro B Φ Z w rargs hrel ha
  refine calls_of_wp h1 h2 ?_
  have hat : At G B fn.ntmps Φ Z w ⟨argFr 0 args, H⟩ { tmps := rargs ++ Array.replicate (fn.ntmps - rargs.size) undef, defers := [] } w := by
    refine ⟨Φ, Z, hrel, fun i => ?_, Ev.refl _ _ _ _, ?_, rfl⟩
    · rw [argFr_get]
      simp only [Nat.zero_le, if_true, Nat.sub_zero]
      by_cases hi : i < args.length
      · have := ha.2 i hi
        have hi' : i < rargs.size := by rw [ha.1]; exact hi
        simpa [Array.getD_eq_getD_getElem?, Array.getElem?_append_left hi'] using this
      · rw [List.getD_eq_getElem?_getD, List.getElem?_eq_none (by omega)]
        exact .junk _
    · have := ha.1
      simp
      omega
  refine wp_mono (mwp_sound (drawn hP) body c h3 _ _ _ _ h hat) ?_
  rintro e a' w' ⟨st, ⟨he, hQ⟩, Φ', Z', hrel', hf', hev', hsz', hdf'⟩
  obtain ⟨vs, us, hv1, hQ', hv2, hv3⟩ := run_results (P := P) hrel' hf' fn.results.toList rs _ h4 hQ
  have hres : ∃ rv, (results fn a'.tmps).run P w' = .ok rv w' ∧ VR Φ' Z' w' (packV us) rv := by
    have hrun : (results fn a'.tmps).run P w' = .ok (if h : vs.toArray.size = 1 then vs.toArray[0] else .tuple vs.toArray) w' := by
      unfold results
      rw [Array.mapM_eq_mapM_toList]
      simp only [Sem.run_bind, Sem.run_map, Sem.run_pure]
      erw [hv1]
      rfl
    refine ⟨_, hrun, ?_⟩
    rcases us with _ | ⟨t, _ | ⟨t2, ts⟩⟩
    · obtain rfl : vs = [] := by simpa using hv2
      exact .tup _ _ rfl (by simp)
    · rcases vs with _ | ⟨x, _ | ⟨y, vs⟩⟩ <;> simp at hv2
      simpa [packV] using hv3 0 (by simp)
    · have : vs.toArray.size ≠ 1 := by simp [hv2]
      rw [dif_neg this]
      simp only [packV]
      refine .tup _ _ (by simp [hv2]) fun i hi => ?_
      have := hv3 i hi
      simpa [Array.getD_eq_getD_getElem?, List.getD_eq_getElem?_getD] using this
  obtain ⟨rv, hr1, hr2⟩ := hres
  rcases he with rfl | rfl
  · exact ⟨hdf', rv, hr1, rv, _, _, Φ', Z', rfl, hQ', hr2, hrel', hev'⟩
  · exact ⟨hdf', rv, hr1, rv, _, _, Φ', Z', rfl, hQ', hr2, hrel', hev'⟩

/-- Values without a way into the abstract heap ('im': they may lead to memory that nothing writes). -/
inductive Free (im : Bool) : V → Prop where
  | junk : Free im .junk
  | bool (b : Bool) : Free im (.bool b)
  | int (k : IntKind) (n : Int) : Free im (.int k n)
  | str (s : List UInt8) : Free im (.str s)
  | nilp : Free im .nilp
  | nils : Free im .nils
  | nilf : Free im .nilf
  | vs0 : Free im (.vs [])
  | agg {cs : List V} (h : ∀ i, i < cs.length → Free im (cs.getD i .junk)) : Free im (.agg cs)
  | tup {cs : List V} (h : ∀ i, i < cs.length → Free im (cs.getD i .junk)) : Free im (.tup cs)
  | vs {xs : List V} (hi : im = true) (h : ∀ i j, i < xs.length → j < (xs.getD i .junk).cells.length → Free im ((xs.getD i .junk).cells.getD j .junk)) : Free im (.vs xs)
  | vp {cs : List V} (hi : im = true) (h : ∀ i, i < cs.length → Free im (cs.getD i .junk)) : Free im (.vp cs)
  | fn (f : Fn) {fs cs : List V} (h : ∀ i, i < fs.length → Free im (fs.getD i .junk)) (h' : ∀ i, i < cs.length → Free im (cs.getD i .junk)) : Free im (.fn f fs cs)

theorem Free.of {im : Bool} {v : V} (h : Free im v) : Free true v := by
  induction h with
  | junk => exact .junk
  | bool b => exact .bool b
  | int k n => exact .int k n
  | str s => exact .str s
  | nilp => exact .nilp
  | nils => exact .nils
  | nilf => exact .nilf
  | vs0 => exact .vs0
  | agg _ ih => exact .agg ih
  | tup _ ih => exact .tup ih
  | vs _ _ ih => exact .vs rfl ih
  | vp _ _ ih => exact .vp rfl ih
  | fn f _ _ ih ih' => exact .fn f ih ih'

/-- A free value stands wherever what it leads to stands. -/
theorem Free.vr {im : Bool} {v : V} (hv : Free im v) : ∀ {Φ Φ2 : Nat → Option Pl} {Z Z2 : Nat → Prop} {w w2 : World} {rv : Value}, VR Φ Z w v rv → (im = true → (∀ r, Z r → Z2 r) ∧ ∀ r, Z r → w2.heap[r]? = w.heap[r]?) → VR Φ2 Z2 w2 v rv := by
  induction hv with
  | junk => intro Φ Φ2 Z Z2 w w2 rv h hz; exact .junk _
  | bool b => intro Φ Φ2 Z Z2 w w2 rv h hz; cases h; exact .bool b
  | int k n => intro Φ Φ2 Z Z2 w w2 rv h hz; cases h; exact .int k n
  | str s => intro Φ Φ2 Z Z2 w w2 rv h hz; cases h; exact .str s
  | nilp => intro Φ Φ2 Z Z2 w w2 rv h hz; cases h; exact .nilp
  | nils => intro Φ Φ2 Z Z2 w w2 rv h hz; cases h; exact .nils
  | nilf => intro Φ Φ2 Z Z2 w w2 rv h hz; cases h; exact .nilf
  | vs0 =>
    intro Φ Φ2 Z Z2 w w2 rv h hz
    cases h with
    | vs _ a sz cap => exact .vs0 _ _
    | vs0 b c => exact .vs0 _ _
  | agg _ ih =>
    intro Φ Φ2 Z Z2 w w2 rv h hz
    cases h with
    | agg _ rs hl hh => exact .agg _ rs hl fun i hi => ih i hi (hh i hi) hz
  | tup _ ih =>
    intro Φ Φ2 Z Z2 w w2 rv h hz
    cases h with
    | tup _ rs hl hh => exact .tup _ rs hl fun i hi => ih i hi (hh i hi) hz
  | vs him _ ih =>
    intro Φ Φ2 Z Z2 w w2 rv h hz
    cases h with
    | vs _ a sz cap c hs hzb hc hsz hcell hh =>
      refine .vs _ a sz cap c hs ((hz him).1 _ hzb) hc hsz (fun i j hi hj => ?_) fun i j hi hj => ih i j hi (by rw [hsz i hi]; exact hj) (hh i j hi hj) hz
      rw [show w2.cell? ⟨a.block, _, none⟩ = w.cell? ⟨a.block, _, none⟩ from World.cell?_of_block (w := w) ((hz him).2 _ hzb)]
      exact hcell i j hi hj
    | vs0 b c => exact .vs0 _ _
  | vp him _ ih =>
    intro Φ Φ2 Z Z2 w w2 rv h hz
    cases h with
    | vp _ a c hs hzb hcell hh =>
      refine .vp _ a c hs ((hz him).1 _ hzb) (fun j hj => ?_) fun j hj => ih j hj (hh j hj) hz
      rw [show w2.cell? ⟨a.block, _, none⟩ = w.cell? ⟨a.block, _, none⟩ from World.cell?_of_block (w := w) ((hz him).2 _ hzb)]
      exact hcell j hj
  | fn f _ _ ih ih' =>
    intro Φ Φ2 Z Z2 w w2 rv h hz
    cases h with
    | fn _ _ _ rf rc h1 h2 h3 h4 => exact .fn f _ _ rf rc h1 h2 (fun i hi => ih i hi (h3 i hi) hz) fun i hi => ih' i hi (h4 i hi) hz

/-- A value as one sees it once nothing is written any more. -/
inductive Frz (im : Bool) (H : List Blk) : V → V → Prop where
  | free {v : V} (h : Free im v) : Frz im H v v
  | hs {b n i len : Nat} {cap : Option Nat} {sz : Nat} {xs ys : List V} {opn frz : Bool} (hH : getB H b = .row sz xs opn frz) (hn : xs.length = n) (hi : i + len ≤ n) (hl : ys.length = len) (hc : ∀ k, k < len → (ys.getD k .junk).cells.length = sz)
      (he : ∀ k j, k < len → j < sz → Frz im H ((xs.getD (i + k) .junk).cells.getD j .junk) ((ys.getD k .junk).cells.getD j .junk)) : Frz im H (.hs b n i 0 len cap sz) (.vs ys)
  | hsi {b n i j len : Nat} {cap : Option Nat} {sz : Nat} {xs ys : List V} {opn frz : Bool} (hH : getB H b = .row sz xs opn frz) (hn : xs.length = n) (hi : i < n) (hj : j + len ≤ sz) (hl : ys.length = len) (hc : ∀ k, k < len → (ys.getD k .junk).cells = [ys.getD k .junk])
      (he : ∀ k, k < len → Frz im H ((xs.getD i .junk).cells.getD (j + k) .junk) (ys.getD k .junk)) : Frz im H (.hs b n i j len cap 1) (.vs ys)
  | ptr {b n i j sz : Nat} {xs ds : List V} {opn frz : Bool} (hH : getB H b = .row sz xs opn frz) (hn : xs.length = n) (hi : i < n) (hl : j + ds.length ≤ sz)
      (he : ∀ k, k < ds.length → Frz im H ((xs.getD i .junk).cells.getD (j + k) .junk) (ds.getD k .junk)) : Frz im H (.ptr b n i j) (.vp ds)
  | agg {cs ds : List V} (hl : ds.length = cs.length) (h : ∀ i, i < cs.length → Frz im H (cs.getD i .junk) (ds.getD i .junk)) : Frz im H (.agg cs) (.agg ds)
  | tup {cs ds : List V} (hl : ds.length = cs.length) (h : ∀ i, i < cs.length → Frz im H (cs.getD i .junk) (ds.getD i .junk)) : Frz im H (.tup cs) (.tup ds)
  | fn (f : Fn) {fs cs fs' cs' : List V} (hl : fs'.length = fs.length) (hl' : cs'.length = cs.length) (h : ∀ i, i < fs.length → Frz im H (fs.getD i .junk) (fs'.getD i .junk)) (h' : ∀ i, i < cs.length → Frz im H (cs.getD i .junk) (cs'.getD i .junk)) : Frz im H (.fn f fs cs) (.fn f fs' cs')

theorem Frz.app {im : Bool} {H : List Blk} {v v' : V} (h : Frz im H v v') (T : List Blk) : Frz im (H ++ T) v v' := by
  induction h with
  | free h => exact .free h
  | hs hH hn hi hl hc _ ih => exact .hs (getB_app hH) hn hi hl hc ih
  | hsi hH hn hi hj hl hc _ ih => exact .hsi (getB_app hH) hn hi hj hl hc ih
  | ptr hH hn hi hl _ ih => exact .ptr (getB_app hH) hn hi hl ih
  | agg hl _ ih => exact .agg hl ih
  | tup hl _ ih => exact .tup hl ih
  | fn f hl hl' _ _ ih ih' => exact .fn f hl hl' ih ih'

theorem Frz.vr {im : Bool} {B : Nat} {Φ : Nat → Option Pl} {Z Z2 : Nat → Prop} {H : List Blk} {w : World} (hrel : Rel G B Φ Z H w) (hz : im = true → ∀ r, Z r → Z2 r) (hp : ∀ b p, Φ b = some p → Z2 p.rb) {v v' : V} (h : Frz im H v v') : ∀ {rv : Value}, VR Φ Z w v rv → ∀ Φ2, VR Φ2 Z2 w v' rv := by
  induction h with
  | free hf => exact fun hv Φ2 => hf.vr hv fun him => ⟨hz him, fun _ _ => rfl⟩
  | @hs b n i len cap sz xs ys opn frz hH hn hi hl hc _ ih =>
    intro rv hv Φ2
    obtain ⟨p, rcap, hpb, ok, rfl, hle, hcap⟩ := hs_inv hrel hv hH hn
    obtain ⟨c, t, fz, hcb, _, h3, h4, _, h5⟩ := ok.row
    have := VR.vs (Φ := Φ2) (Z := Z2) (w := w) ys ⟨p.rb, i * sz + 0, none⟩ sz rcap (fun k j => c.getD ((i + k) * sz + j) undef) rfl (hp b p hpb) (by omega) (fun k hk => hc k (by omega)) (fun k j hk hj => by
      have hin : (i + k) * sz + j < c.size := by
        have := mul_in (i := i + k) (n := xs.length) (sz := sz) (j := j) (by omega) hj
        omega
      simp only [Nat.add_zero]
      rw [← Nat.add_assoc, ← Nat.add_mul]
      exact cell_getD hcb hin) (fun k j hk hj => ih k j (by omega) hj (h5 (i + k) j (by omega) hj) Φ2)
    rw [hl] at this
    exact this
  | @hsi b n i j len cap sz xs ys opn frz hH hn hi hj hl hc _ ih =>
    intro rv hv Φ2
    obtain ⟨p, rcap, hpb, ok, rfl, hle, hcap⟩ := hs_inv hrel hv hH hn
    obtain ⟨c, t, fz, hcb, _, h3, h4, _, h5⟩ := ok.row
    have := VR.vs (Φ := Φ2) (Z := Z2) (w := w) ys ⟨p.rb, i * sz + j, none⟩ 1 rcap (fun k _ => c.getD (i * sz + (j + k)) undef) rfl (hp b p hpb) (by omega) (fun k hk => by rw [hc k (by omega)]; rfl) (fun k q hk hq => by
      obtain rfl : q = 0 := by omega
      have hin : i * sz + (j + k) < c.size := by
        have := mul_in (i := i) (n := xs.length) (sz := sz) (j := j + k) (by omega) (by omega)
        omega
      simp only [Nat.mul_one, Nat.add_zero]
      rw [Nat.add_assoc]
      exact cell_getD hcb hin) (fun k q hk hq => by
      obtain rfl : q = 0 := by omega
      rw [hc k (by omega), List.getD_cons_zero]
      exact ih k (by omega) (h5 i (j + k) (by omega) (by omega)) Φ2)
    rw [hl] at this
    exact this
  | @ptr b n i j sz xs ds opn frz hH hn hi hl _ ih =>
    intro rv hv Φ2
    obtain ⟨p, hpb, ok, rfl⟩ := ptr_inv hrel hv hH hn
    obtain ⟨c, t, fz, hcb, _, h3, h4, _, h5⟩ := ok.row
    refine .vp ds ⟨p.rb, i * sz + j, none⟩ (fun k => c.getD (i * sz + (j + k)) undef) rfl (hp b p hpb) (fun k hk => ?_) fun k hk => ih k hk (h5 i (j + k) (by omega) (by omega)) Φ2
    have hin : i * sz + (j + k) < c.size := by
      have := mul_in (i := i) (n := xs.length) (sz := sz) (j := j + k) (by omega) (by omega)
      omega
    show w.cell? ⟨p.rb, i * sz + j + k, none⟩ = _
    rw [Nat.add_assoc]
    exact cell_getD hcb hin
  | agg hl _ ih =>
    intro rv hv Φ2
    cases hv with
    | agg _ rs h1 h2 => exact .agg _ rs (by rw [h1, hl]) fun i hi => ih i (by omega) (h2 i (by omega)) Φ2
  | tup hl _ ih =>
    intro rv hv Φ2
    cases hv with
    | tup _ rs h1 h2 => exact .tup _ rs (by rw [h1, hl]) fun i hi => ih i (by omega) (h2 i (by omega)) Φ2
  | fn f hl hl' _ _ ih ih' =>
    intro rv hv Φ2
    cases hv with
    | fn _ _ _ rf rc h1 h2 h3 h4 => exact .fn f _ _ rf rc (by rw [h1, hl]) (by rw [h2, hl']) (fun i hi => ih i (by omega) (h3 i (by omega)) Φ2) fun i hi => ih' i (by omega) (h4 i (by omega)) Φ2

/-- A sealed call: its own heap is its own. 'im': the result may be memory that the arguments lead to. -/
def Does (P : Program) (G : Nat → Option (List V)) (im : Bool) (f : Nat) (args : List V) (r : V) : Prop := SimP P G f args [] fun r0 H' => Frz im H' r0 r

theorem Does.intro (hP : P.follows .mixedOrders = true) {im : Bool} {f : Nat} {args : List V} {r : V} {c : MC} {rs : List RS} (hc : Compiled P f args.length c rs)
    (h : mwp P G c (fun e st => (e = .normal ∨ e = .ret) ∧ resK st.fr st.H rs fun us => Frz im st.H (packV us) r) ⟨argFr 0 args, []⟩) : Does P G im f args r := SimP.intro hP hc h

/-- Blocks that are there are as good as frozen for what begins now. -/
theorem Rel.enter {B : Nat} {Φ : Nat → Option Pl} {Z Z1 : Nat → Prop} {H : List Blk} {w : World} (hrel : Rel G B Φ Z H w) (h1 : ∀ r, Z r → Z1 r) (h2 : ∀ r, Z1 r → r < w.heap.size) : Rel G w.heap.size (fun _ => none) Z1 [] w := by
  refine ⟨fun b p hp => (by cases hp), fun b b' p p' hp => (by cases hp), fun b p hp => (by cases hp), h2, Nat.le_refl _, hrel.glob.mono h1 fun _ _ => rfl⟩

/-- A sealed call on immutable arguments. -/
theorem Does.quiet {im : Bool} {f : Nat} {args : List V} {r : V} (h : Does P G im f args r) (ha : ∀ a ∈ args, Free true a) (H : List Blk) : QSim P G f args H r := by
  intro B Φ Z w rargs hrel hargs
  have hargs' : VRs (fun _ => none) Z w args rargs := ⟨hargs.1, fun i hi => (ha _ (getD_mem hi)).vr (hargs.2 i hi) fun _ => ⟨fun _ h => h, fun _ _ => rfl⟩⟩
  refine Calls.mono (h w.heap.size (fun _ => none) Z w rargs (hrel.enter (fun _ h => h) hrel.zin) hargs') ?_
  rintro e w' ⟨rv, r0, H', Φ', Z', rfl, hfr, hv, hr', hev'⟩
  have hbel : Below B w w' := hev'.below.mono hrel.size
  let Z2 : Nat → Prop := fun q => Z' q ∨ ∃ b p, Φ' b = some p ∧ p.rb = q
  have hz2 : ∀ q, Z2 q → q < w.heap.size → Z q := by
    rintro q (hq | ⟨b, p, hp, rfl⟩) hlt
    · rcases hev'.znew q hq hlt with h | h
      · exact h
      · omega
    · have := hr'.low b p hp
      omega
  have hsame : ∀ q, q < w.heap.size → w'.heap[q]? = w.heap[q]? := hev'.below.block
  have hvr : ∀ v rv, VR Φ Z w v rv → VR Φ Z2 w' v rv := fun v rv hv => hv.mono (fun q hq => .inl (hev'.z q hq)) (fun q hq => hsame q (hrel.zin q hq)) fun b p hp => ⟨p, hp, .inl rfl⟩
  refine ⟨rv, Z2, rfl, Frz.vr hr' (fun _ q hq => .inl hq) (fun b p hp => .inr ⟨b, p, hp, rfl⟩) hfr hv Φ, ⟨fun b p hp => ?_, hrel.inj, hrel.low, ?_, Nat.le_trans hrel.size hev'.below.size, hrel.glob.mono (fun q hq => .inl (hev'.z q hq)) fun q hq => hsame q (hrel.zin q hq)⟩, ⟨fun q hq => .inl (hev'.z q hq), fun q hq => hsame q (hrel.zin q hq), fun b p hp => ⟨p, hp, .inl rfl⟩, hbel, fun q hq hlt => .inl (hz2 q hq hlt)⟩⟩
  · obtain ⟨k, hk, ok⟩ := hrel.blk b p hp
    have hlt := ok.lt
    have ok' := ok.mono (Z := Z) (Φ' := Φ) (w' := w') (hsame _ hlt)
    refine ⟨k, hk, ?_⟩
    cases k with
    | row sz xs opn frz =>
      obtain ⟨n, s, cs, ⟨c, t, fz, hc, h0, h1, h2, h3, h4⟩, z⟩ := ok
      refine ⟨n, s, cs, ⟨c, t, fz, by rw [hsame _ hlt]; exact hc, h0, h1, h2, h3, fun i j hi hj => hvr _ _ (h4 i j hi hj)⟩, fun hf => .inl (hev'.z _ (z.1 hf)), fun hf hq => z.2 hf (hz2 _ hq hlt)⟩
    | map es =>
      obtain ⟨n, ⟨c, t, hc, h1, h2⟩, z⟩ := ok
      exact ⟨n, ⟨c, t, by rw [hsame _ hlt]; exact hc, h1, fun i hi => ⟨hvr _ _ (h2 i hi).1, hvr _ _ (h2 i hi).2⟩⟩, fun hq => z (hz2 _ hq hlt)⟩
  · rintro q (hq | ⟨b, p, hp, rfl⟩)
    · exact hr'.zin q hq
    · obtain ⟨k, _, ok⟩ := hr'.blk b p hp
      exact ok.lt

/-- A list of values, each as one sees it. -/
def Frzs (im : Bool) (H : List Blk) (vs vs' : List V) : Prop := vs'.length = vs.length ∧ ∀ i, i < vs.length → Frz im H (vs.getD i .junk) (vs'.getD i .junk)

/-- A sealed call that borrows: what it is given, it reads; what it gives back is its own. -/
theorem Does.borrow {f : Nat} {args args' : List V} {r : V} {H0 : List Blk} (h : Does P G false f args' r) (ha : Frzs true H0 args args') (T : List Blk) : QSim P G f args (H0 ++ T) r := by
  intro B Φ Z w rargs hrel hargs
  let Z1 : Nat → Prop := fun q => q < w.heap.size
  have hargs' : VRs (fun _ => none) Z1 w args' rargs := ⟨by rw [hargs.1, ha.1], fun i hi => by
    have hi' : i < args.length := by rw [← ha.1]; exact hi
    exact Frz.vr hrel (fun _ q hq => hrel.zin q hq) (fun b p hp => by obtain ⟨k, _, ok⟩ := hrel.blk b p hp; exact ok.lt) ((ha.2 i hi').app T) (hargs.2 i hi') _⟩
  refine Calls.mono (h w.heap.size (fun _ => none) Z1 w rargs (hrel.enter (fun q hq => hrel.zin q hq) fun _ h => h) hargs') ?_
  rintro e w' ⟨rv, r0, H', Φ', Z', rfl, hfr, hv, hr', hev'⟩
  have hbel : Below B w w' := hev'.below.mono hrel.size
  let Z2 : Nat → Prop := fun q => Z q ∨ ∃ b p, Φ' b = some p ∧ p.rb = q
  have hz2 : ∀ q, Z2 q → q < w.heap.size → Z q := by
    rintro q (hq | ⟨b, p, hp, rfl⟩) hlt
    · exact hq
    · have := hr'.low b p hp
      omega
  have hsame : ∀ q, q < w.heap.size → w'.heap[q]? = w.heap[q]? := hev'.below.block
  have hvr : ∀ v rv, VR Φ Z w v rv → VR Φ Z2 w' v rv := fun v rv hv => hv.mono (fun q hq => .inl hq) (fun q hq => hsame q (hrel.zin q hq)) fun b p hp => ⟨p, hp, .inl rfl⟩
  refine ⟨rv, Z2, rfl, Frz.vr hr' (fun h => by cases h) (fun b p hp => .inr ⟨b, p, hp, rfl⟩) hfr hv Φ, ⟨fun b p hp => ?_, hrel.inj, hrel.low, ?_, Nat.le_trans hrel.size hev'.below.size, hrel.glob.mono (fun q hq => .inl hq) fun q hq => hsame q (hrel.zin q hq)⟩, ⟨fun q hq => .inl hq, fun q hq => hsame q (hrel.zin q hq), fun b p hp => ⟨p, hp, .inl rfl⟩, hbel, fun q hq hlt => .inl (hz2 q hq hlt)⟩⟩
  · obtain ⟨k, hk, ok⟩ := hrel.blk b p hp
    have hlt := ok.lt
    refine ⟨k, hk, ?_⟩
    cases k with
    | row sz xs opn frz =>
      obtain ⟨n, s, cs, ⟨c, t, fz, hc, h0, h1, h2, h3, h4⟩, z⟩ := ok
      refine ⟨n, s, cs, ⟨c, t, fz, by rw [hsame _ hlt]; exact hc, h0, h1, h2, h3, fun i j hi hj => hvr _ _ (h4 i j hi hj)⟩, fun hf => .inl (z.1 hf), fun hf hq => z.2 hf (hz2 _ hq hlt)⟩
    | map es =>
      obtain ⟨n, ⟨c, t, hc, h1, h2⟩, z⟩ := ok
      exact ⟨n, ⟨c, t, by rw [hsame _ hlt]; exact hc, h1, fun i hi => ⟨hvr _ _ (h2 i hi).1, hvr _ _ (h2 i hi).2⟩⟩, fun hq => z (hz2 _ hq hlt)⟩
  · rintro q (hq | ⟨b, p, hp, rfl⟩)
    · have := hrel.zin q hq; have := hev'.below.size; omega
    · obtain ⟨k, _, ok⟩ := hr'.blk b p hp
      exact ok.lt

theorem QSim.sim {f : Nat} {args : List V} {r : V} {H : List Blk} (h : QSim P G f args H r) : Sim P G f args H r H := by
  intro B Φ Z w rargs hrel ha
  refine Calls.mono (h B Φ Z w rargs hrel ha) ?_
  rintro e w' ⟨rv, Z', he, hv, hr, hev⟩
  exact ⟨rv, Φ, Z', he, hv, hr, hev⟩

theorem callK_of_quiet {q : Bool} {f : Nat} {args : List V} {H : List Blk} {K : V → List Blk → Prop} {r : V} (h : ∀ T, QSim P G f args (H ++ T) r) (hk : K r H) : callK P G q f args H K := by
  unfold callK
  cases q with
  | true => exact ⟨r, h, hk⟩
  | false =>
    have := h []
    rw [List.append_nil] at this
    exact ⟨r, H, this.sim, hk⟩

/-- A sealed call, on immutable arguments. -/
theorem Does.call {q im : Bool} {f : Nat} {args : List V} {H : List Blk} {K : V → List Blk → Prop} {r : V} (h : Does P G im f args r) (ha : ∀ a ∈ args, Free true a) (hk : K r H) : callK P G q f args H K :=
  callK_of_quiet (fun T => h.quiet ha _) hk

/-- A sealed call that borrows. -/
theorem Does.callB {q : Bool} {f : Nat} {args args' : List V} {H : List Blk} {K : V → List Blk → Prop} {r : V} (h : Does P G false f args' r) (ha : Frzs true H args args') (hk : K r H) : callK P G q f args H K :=
  callK_of_quiet (fun T => h.borrow ha T) hk

end
end Go.MW
