import Derived.ProofKit
import Derived.OpenShut
import Derived.ChangeOld
import Derived.SizedLaws
import Derived.Test.YtoopcfgmffpogaaMwB3
/- Regions whose order is drawn: all of it. -/
namespace Go.MW
open Go Go.RowKit
set_option linter.unusedVariables false
set_option linter.unusedSimpArgs false

/-- How many are not done. -/
def undone (D : Nat → Bool) : Nat → Nat
  | 0 => 0
  | k + 1 => undone D k + if D k then 0 else 1

theorem undone_far {D : Nat → Bool} {i : Nat} : ∀ k, k ≤ i → undone (addD D i) k = undone D k
  | 0, _ => rfl
  | k + 1, h => by
    simp only [undone]
    rw [undone_far k (by omega)]
    have : k ≠ i := by omega
    simp [addD, this]

theorem undone_add {D : Nat → Bool} {i : Nat} (hD : D i = false) : ∀ k, i < k → undone (addD D i) k + 1 = undone D k
  | 0, h => by omega
  | k + 1, h => by
    simp only [undone]
    by_cases hk : k = i
    · subst hk
      rw [undone_far k (Nat.le_refl _)]
      simp [addD, hD]
    · have := undone_add hD k (by omega)
      have e : addD D i k = D k := by simp [addD, hk]
      rw [e]
      omega

theorem undone_zero {D : Nat → Bool} : ∀ k, undone D k = 0 → ∀ i, i < k → D i = true
  | 0, _, i, hi => by omega
  | k + 1, h, i, hi => by
    simp only [undone] at h
    by_cases hk : i = k
    · subst hk
      cases hd : D i with
      | true => rfl
      | false => rw [hd] at h; simp at h
    · exact undone_zero k (by omega) i (by omega)

theorem undone_none {D : Nat → Bool} (h : ∀ i, D i = false) : ∀ k, undone D k = k
  | 0 => rfl
  | k + 1 => by simp [undone, undone_none h k, h k]

theorem undone_congr {D D' : Nat → Bool} (h : ∀ i, D i = D' i) (k : Nat) : undone D k = undone D' k := by
  have : D = D' := funext h
  rw [this]

section
variable {P : Program} {G : Nat → Option (List V)} {B : Bd} {nt : Nat} {Φ0 : Nat → Option Pl} {Z0 : Nat → Prop} {w0 : World}

theorem compOps_get {ops : Array Oper} : ∀ (l : List Oper) (ms : List MO), compOps P nt ops.toList l = some ms → ms.length = l.length ∧ ∀ (i : Nat) (o : Oper), l[i]? = some o → ∃ m, ms[i]? = some m ∧ compOp P o.op = some m.op ∧ compGuard ops.toList nt o.guard = some m.gd ∧ dstOK nt o.dst = true ∧ m.dst = o.dst
  | [], ms, h => by simp [compOps] at h; subst h; simp
  | o :: l, ms, h => by
    simp only [compOps] at h
    split at h <;> try (simp at h; done)
    rename_i m g ms' hm hg hms
    split at h <;> simp at h
    rename_i hdst
    subst h
    obtain ⟨h1, h2⟩ := compOps_get l ms' hms
    refine ⟨by simp [h1], fun i o' hi => ?_⟩
    cases i with
    | zero =>
      simp at hi
      subst hi
      exact ⟨_, rfl, hm, hg, hdst, rfl⟩
    | succ i => simpa using h2 i o' (by simpa using hi)

theorem exists_first {p : Nat → Bool} {n : Nat} (h : ∃ i, i < n ∧ p i = false) : ∃ i, i < n ∧ p i = false ∧ ∀ j, j < i → p j = true := by
  obtain ⟨i, hi, hp⟩ := h
  induction i using Nat.strongRecOn with
  | _ i ih =>
    by_cases hj : ∃ j, j < i ∧ p j = false
    · obtain ⟨j, hj, hpj⟩ := hj
      exact ih j hj (by omega) hpj
    · refine ⟨i, hi, hp, fun j hj' => ?_⟩
      cases hpj : p j with
      | true => rfl
      | false => exact absurd ⟨j, hj', hpj⟩ hj

theorem getD_ft {listed : Array Bool} {i : Nat} (h : i < listed.size) (d : Bool) : listed.getD i d = listed.getD i false := by
  simp [Array.getD, h]

section
variable {ops : Array Oper} {ms : List MO} {v : Nat → V} {h : Nat → List Blk} {fr : Nat → Fr} {run : Nat → Bool} {M : Exit → St → Prop}

theorem draw_any (cx : DCtx P G nt ops ms (ancs ops.toList []) v h fr run) (hed : edgesOK 0 ops.toList = true) (hM : M .normal ⟨fr ms.length, h ms.length⟩) :
    ∀ (fuel : Nat) (listed : Array Bool) (a : Act) (w : World) (Φ : Nat → Option Pl) (Z : Nat → Prop) (c : Nat), listed.size = ops.size → undone (fun i => listed.getD i false) ms.length = fuel →
      Inv P G B nt Φ0 Z0 w0 ms (ancs ops.toList []) v h fr run (fun i => listed.getD i false) a w Φ Z c → wpAny P .any ops (Lift G B nt Φ0 Z0 w0 M) fuel listed a w := by
  have done : ∀ (listed : Array Bool) (a : Act) (w : World) (Φ : Nat → Option Pl) (Z : Nat → Prop) (c : Nat), (∀ i, i < ms.length → listed.getD i false = true) →
      Inv P G B nt Φ0 Z0 w0 ms (ancs ops.toList []) v h fr run (fun i => listed.getD i false) a w Φ Z c → Lift G B nt Φ0 Z0 w0 M .normal a w := by
    intro listed a w Φ Z c hall inv
    have hc : c = ms.length := by
      rcases Nat.lt_or_ge c ms.length with h1 | h1
      · have := (inv.cat h1).1
        rw [hall c h1] at this
        cases this
      · have := inv.cle; omega
    have hrel := inv.rel
    rw [hc] at hrel
    refine ⟨_, hM, Φ, Z, hrel, fun t => ?_, inv.ev, inv.sz, inv.df⟩
    have := inv.frr t
    rw [frl_ext (D' := fun _ => true) _ (fun j hj _ => hall j hj), text_frame cx.tr t _ (Nat.le_refl _)] at this
    exact this
  have rest : ∀ (listed : Array Bool), listed.size = ops.size → Region.ready .any ops listed = [] → ∀ i, i < ms.length → listed.getD i false = true := by
    intro listed hsz hr i hi
    cases hd : listed.getD i false with
    | true => rfl
    | false =>
      exfalso
      obtain ⟨k, hk, hkd, hbe⟩ := exists_first (p := fun i => listed.getD i false) (n := ms.length) ⟨i, hi, hd⟩
      have hkl : k < ops.size := by rw [← cx.len]; exact hk
      have : k ∈ Region.ready .any ops listed := by
        rw [mem_ready]
        refine ⟨by rw [getD_ft (by omega)]; exact hkd, ops[k], Array.getElem?_eq_getElem hkl, fun e he hb => ?_⟩
        have := edgesOK_spec ops.toList 0 k ops[k] hed (by simp [hkl]) e he hb
        exact hbe e.on (by omega)
      rw [hr] at this
      cases this
  intro fuel
  induction fuel with
  | zero =>
    intro listed a w Φ Z c hsz hu inv
    have hall := undone_zero ms.length hu
    refine ⟨?_, done listed a w Φ Z c hall inv⟩
    refine List.eq_nil_iff_forall_not_mem.2 fun j hj => ?_
    rw [mem_ready] at hj
    obtain ⟨h1, o, ho, _⟩ := hj
    have hjl : j < ops.size := (Array.getElem?_eq_some_iff.1 ho).1
    rw [getD_ft (by omega), hall j (by rw [cx.len]; exact hjl)] at h1
    cases h1
  | succ fuel ih =>
    intro listed a w Φ Z c hsz hu inv
    refine ⟨fun hr => done listed a w Φ Z c (rest listed hsz hr) inv, fun i hi => ?_⟩
    rw [mem_ready] at hi
    obtain ⟨h1, o, ho, hedge⟩ := hi
    have hil : i < ops.size := (Array.getElem?_eq_some_iff.1 ho).1
    have him : i < ms.length := by rw [cx.len]; exact hil
    have hD : listed.getD i false = false := by rw [getD_ft (by omega)] at h1; exact h1
    have hadd : ∀ j, (listed.setIfInBounds i true).getD j false = addD (fun i => listed.getD i false) i j := by
      intro j
      by_cases hj : j = i
      · subst hj
        simp [addD, Array.getD, show j < listed.size by omega]
      · rw [getD_set_ne false (Ne.symm hj)]
        simp [addD, hj]
    have hadd' : (fun j => (listed.setIfInBounds i true).getD j false) = addD (fun i => listed.getD i false) i := funext hadd
    refine draw_step cx him inv hD (fun j hj => ?_) fun a' w' Φ' Z' c' inv' => ?_
    · have hlt := edgesOK_spec ops.toList 0 i o hed (by simpa using ho)
      obtain ⟨e, he, hb, hor⟩ := ancs_spec ops.toList [] i o j (by simpa using ho) (by simpa using hlt) (by simpa [MW.ahead] using hj)
      have hde := hedge e he hb
      rcases hor with rfl | hor
      · exact hde
      · exact (inv.clo e.on hde).2 j hor
    · refine ih _ a' w' Φ' Z' c' (by simpa using hsz) ?_ (by rw [hadd']; exact inv')
      rw [hadd']
      have := undone_add (D := fun i => listed.getD i false) hD ms.length him
      omega

end

theorem markQ_get {bs : List Nat} {ms : List MO} {i : Nat} (h : i < ms.length) : (markQ bs ms)[i]? = some { ms.getD i noMO with q := (ms.getD i noMO).op.kind == 2 && beside bs ms i } := by
  unfold markQ
  rw [List.getElem?_map, List.getElem?_range h]
  rfl

section
variable {B : Bd} {nt : Nat} {Φ0 : Nat → Option Pl} {Z0 : Nat → Prop} {w0 : World}
theorem drawn_any {ops : Array Oper} {ms : List MO} {M : Exit → St → Prop} {st : St} {a : Act} {w : World} (hc : compDraw P nt ops.toList = some ms) (hm : mops P G ms (M .normal) st) (hat : At G B nt Φ0 Z0 w0 st a w) :
    wpAny P .any ops (Lift G B nt Φ0 Z0 w0 M) ops.size (Array.replicate ops.size false) a { w with drawn := w.drawn + 1 } := by
  unfold compDraw at hc
  split at hc <;> try (simp at hc; done)
  rename_i ms0 hms
  split at hc <;> simp at hc
  rename_i hck
  rw [Bool.and_eq_true] at hck
  obtain ⟨hed, hdr⟩ := hck
  rw [hc] at hdr
  unfold drawOK at hdr
  rw [Bool.and_eq_true] at hdr
  obtain ⟨hdet, hdr⟩ := hdr
  obtain ⟨hlen0, hget⟩ := compOps_get _ _ hms
  have hlen : ms.length = ops.size := by rw [← hc]; simp [markQ, hlen0]
  obtain ⟨v, h, fr, run, e1, e2, e3, tr⟩ := mops_trace ms _ st hdet hm
  obtain ⟨Φ, Z, hrel, hf, hev, hsz, hdf⟩ := hat
  have cx : DCtx P G nt ops ms (ancs ops.toList []) v h fr run := by
    refine ⟨fun i o ho => ?_, hlen, tr, fun i j hij hj hcf hlo => ?_, fun i j hij hj hcf => ?_, fun t b n i j hp => ?_⟩
    · have hi : i < ops.size := (Array.getElem?_eq_some_iff.1 ho).1
      obtain ⟨m, h1, h2, h3, h4, h5⟩ := hget i o (by simpa using ho)
      have hi0 : i < ms0.length := by rw [hlen0]; simpa using hi
      have hmi := markQ_get (bs := ancs ops.toList []) hi0
      rw [hc] at hmi
      have hm0 : ms0.getD i noMO = m := by simp [List.getD_eq_getElem?_getD, h1]
      rw [hm0] at hmi
      have hmd : ms.getD i noMO = { m with q := m.op.kind == 2 && beside (ancs ops.toList []) ms0 i } := by simp [List.getD_eq_getElem?_getD, hmi]
      rw [hmd]
      exact ⟨hmi, h2, h3, h4, h5⟩
    · simp only [List.all_eq_true, List.mem_range, Bool.or_eq_true, Bool.not_eq_true'] at hdr
      rcases hdr j hj i hij with (h1 | h1) | h1
      · rw [hcf] at h1; cases h1
      · exact h1
      · rw [Bool.and_eq_true, Bool.and_eq_true] at h1
        rw [hlo h1.2.1] at h1
        cases h1.2.2
    · simp only [List.all_eq_true, List.mem_range, Bool.or_eq_true, Bool.not_eq_true'] at hdr
      have hR : confR (ms.getD i noMO) (ms.getD j noMO) = true := by
        generalize ms.getD i noMO = x at hcf ⊢
        generalize ms.getD j noMO = y at hcf ⊢
        unfold confR
        rcases hcf with ⟨d, h1, h2⟩ | ⟨d, h1, h2⟩
        · rw [h1]
          rcases h2 with h2 | h2 <;> simp [h2]
        · rw [h1]
          simp [h2]
      have hC : conflict (ms.getD i noMO) (ms.getD j noMO) = true := by
        unfold conflict
        unfold confR at hR
        rw [hR]; rfl
      rcases hdr j hj i hij with (h1 | h1) | h1
      · rw [hC] at h1; cases h1
      · exact h1
      · rw [Bool.and_eq_true, hR] at h1
        cases h1.1
    · rw [e1] at hp
      have hv := hf t
      rw [hp] at hv
      generalize a.tmps.getD t undef = rv at hv
      cases hv with
      | ptr _ _ _ _ p a hp hn' hv =>
        obtain ⟨k, hk, _⟩ := hrel.blk b p hp
        rw [e2]
        exact (List.getElem?_eq_some_iff.1 hk).1
  have hD : ∀ i, (Array.replicate ops.size false).getD i false = false := by
    intro i
    simp only [Array.getD_eq_getD_getElem?, Array.getElem?_replicate]
    split <;> rfl
  obtain ⟨c, _, hc2, hc3, hc4⟩ := nextW ms _ 0 rfl (by omega)
  obtain ⟨T, hT⟩ := tr.seg c (by omega) hc2 hc4
  have hrel' : Rel G B Φ Z (h c) w := by
    rw [hT, e2]; exact hrel.extend T
  refine draw_any cx hed e3 ops.size _ a _ Φ Z c (by simp) (by rw [undone_none (fun i => hD i), hlen]) ⟨hc2, fun h1 => ⟨hD c, hc3 h1⟩, fun j hj hw => ?_, hrel'.heap rfl, fun t => ?_, hev.trans (Ev.drew _ _ _ _), hsz, hdf, fun i hi _ _ _ => ?_, fun j hj => ?_⟩
  · rw [hc4 j (by omega) hj] at hw; cases hw
  · rw [frl_skip (k := 0) ms.length (by omega) (fun j _ _ _ => hD j)]
    have := hf t
    rw [← e1] at this
    exact this.ev (Ev.drew B Φ Z w)
  · obtain ⟨T', hT'⟩ := tr.seg (i := 0) i (by omega) (by omega) fun j h1 h2 => hc4 j h1 (by omega)
    have hlen : st.H.length ≤ (h i).length := by rw [hT', e2, List.length_append]; omega
    refine ⟨hrel.none_of_le hlen, ?_, fun m b hm1 hm2 hb => ?_⟩
    · cases hpd : B.pd (h i).length with
      | none => rfl
      | some x =>
        have := (List.getElem?_eq_some_iff.1 (hrel.pend _ _ hpd).1).1
        omega
    · obtain ⟨T2, hT2⟩ := tr.seg (i := i + 1) m (by omega) (by omega) fun j h7 h8 => hc4 j (by omega) (by omega)
      rw [hT2, List.getElem?_append_left (List.getElem?_eq_some_iff.1 hb).1]
      exact hb
  · rw [hD] at hj; cases hj
end

/-- The same operations in another order, edges and guards told anew. -/
structure Perm (ops ops' : Array Oper) (p q : Nat → Nat) : Prop where
  size : ops'.size = ops.size
  pl : ∀ k, k < ops.size → p k < ops.size ∧ q (p k) = k
  ql : ∀ i, i < ops.size → q i < ops.size ∧ p (q i) = i
  qo : ∀ i, ops.size ≤ i → ops.size ≤ q i
  get : ∀ i (hi : i < ops.size), ops'[q i]? = some (relab q ops[i])

section
variable {ops ops' : Array Oper} {p q : Nat → Nat}

theorem Perm.yield (h : Perm ops ops' p q) (tmps : Array Value) (j : Nat) : yielded ops' tmps (q j) = yielded ops tmps j := by
  have : (ops'[q j]?).bind (·.dst) = (ops[j]?).bind (·.dst) := by
    rcases Nat.lt_or_ge j ops.size with hj | hj
    · rw [h.get j hj, Array.getElem?_eq_getElem hj]; rfl
    · rw [Array.getElem?_eq_none hj, Array.getElem?_eq_none (by rw [h.size]; exact h.qo j hj)]
  unfold yielded
  rw [this]

theorem Perm.want (h : Perm ops ops' p q) (o : Oper) (tmps : Array Value) : Region.wanted (relab q o) (yielded ops' tmps) = Region.wanted o (yielded ops tmps) := by
  unfold Region.wanted relab
  cases o.guard with
  | none => rfl
  | some g => simp only [Option.map_some, h.yield]

theorem Perm.ready (h : Perm ops ops' p q) {listed listed' : Array Bool} (hs : listed.size = ops.size) (hs' : listed'.size = ops.size) (hl : ∀ i, i < ops.size → listed'.getD (q i) false = listed.getD i false) (i : Nat) (hi : i < ops.size) :
    q i ∈ Region.ready .any ops' listed' ↔ i ∈ Region.ready .any ops listed := by
  have hl2 : ∀ i, listed'.getD (q i) false = listed.getD i false := by
    intro j
    rcases Nat.lt_or_ge j ops.size with hj | hj
    · exact hl j hj
    · have := h.qo j hj
      simp [Array.getD, show ¬ q j < listed'.size by omega, show ¬ j < listed.size by omega]
  rw [mem_ready, mem_ready]
  rw [getD_ft (listed := listed') (i := q i) (by rw [hs']; exact (h.ql i hi).1) true, getD_ft (listed := listed) (i := i) (by omega) true, hl i hi]
  refine and_congr_right fun _ => ?_
  rw [h.get i hi, Array.getElem?_eq_getElem hi]
  constructor
  · rintro ⟨o, ho, he⟩
    obtain rfl := Option.some.inj ho
    refine ⟨_, rfl, fun e hm hb => ?_⟩
    have := he { e with on := q e.on } (by simp only [relab, Array.mem_map]; exact ⟨e, hm, rfl⟩) hb
    rwa [hl2] at this
  · rintro ⟨o, ho, he⟩
    obtain rfl := Option.some.inj ho
    refine ⟨_, rfl, fun e hm hb => ?_⟩
    simp only [relab, Array.mem_map] at hm
    obtain ⟨e', hm', rfl⟩ := hm
    rw [hl2]
    exact he e' hm' hb

theorem Perm.any (h : Perm ops ops' p q) {Q : Exit → Act → World → Prop} : ∀ (fuel : Nat) (listed listed' : Array Bool) (a : Act) (w : World), listed.size = ops.size → listed'.size = ops.size → (∀ i, i < ops.size → listed'.getD (q i) false = listed.getD i false) →
    wpAny P .any ops' Q fuel listed' a w → wpAny P .any ops Q fuel listed a w := by
  have none_iff : ∀ {listed listed' : Array Bool}, listed.size = ops.size → listed'.size = ops.size → (∀ i, i < ops.size → listed'.getD (q i) false = listed.getD i false) → Region.ready .any ops listed = [] → Region.ready .any ops' listed' = [] := by
    intro listed listed' hs hs' hl h0
    refine List.eq_nil_iff_forall_not_mem.2 fun k hk => ?_
    have hkl : k < ops.size := by
      rw [mem_ready] at hk
      obtain ⟨_, o, ho, _⟩ := hk
      have := (Array.getElem?_eq_some_iff.1 ho).1
      rw [h.size] at this
      exact this
    have h1 := (h.pl k hkl).2
    rw [← h1, h.ready hs hs' hl (p k) (h.pl k hkl).1, h0] at hk
    cases hk
  have none_iff' : ∀ {listed listed' : Array Bool}, listed.size = ops.size → listed'.size = ops.size → (∀ i, i < ops.size → listed'.getD (q i) false = listed.getD i false) → Region.ready .any ops' listed' = [] → Region.ready .any ops listed = [] := by
    intro listed listed' hs hs' hl h0
    refine List.eq_nil_iff_forall_not_mem.2 fun i hi => ?_
    have hil : i < ops.size := by
      have hi' := hi
      rw [mem_ready] at hi'
      obtain ⟨_, o, ho, _⟩ := hi'
      exact (Array.getElem?_eq_some_iff.1 ho).1
    rw [← h.ready hs hs' hl i hil, h0] at hi
    cases hi
  intro fuel
  induction fuel with
  | zero => exact fun listed listed' a w hs hs' hl hw => ⟨none_iff' hs hs' hl hw.1, hw.2⟩
  | succ fuel ih =>
    intro listed listed' a w hs hs' hl hw
    refine ⟨fun h0 => hw.1 (none_iff hs hs' hl h0), fun i hi => ?_⟩
    have hil : i < ops.size := by
      have hi' := hi
      rw [mem_ready] at hi'
      obtain ⟨_, o, ho, _⟩ := hi'
      exact (Array.getElem?_eq_some_iff.1 ho).1
    have hq := hw.2 (q i) ((h.ready hs hs' hl i hil).2 hi)
    have step : ∀ a w, wpAny P .any ops' Q fuel (listed'.setIfInBounds (q i) true) a w → wpAny P .any ops Q fuel (listed.setIfInBounds i true) a w := by
      refine fun a w => ih _ _ a w (by simpa using hs) (by simpa using hs') fun j hj => ?_
      by_cases hji : j = i
      · subst hji
        simp [Array.getD, hs, hs', hj, (h.ql j hj).1]
      · have hqq : q i ≠ q j := fun e => hji (by rw [← (h.ql j hj).2, ← e, (h.ql i hil).2])
        rw [getD_set_ne false (Ne.symm hji), getD_set_ne false hqq]
        exact hl j hj
    unfold wpOp at hq ⊢
    rw [h.get i hil] at hq
    rw [Array.getElem?_eq_getElem hil]
    simp only at hq ⊢
    rw [h.want] at hq
    split at hq
    · rename_i hwt
      rw [hwt, if_pos rfl]
      exact hq.imp (fun hh => Oper.wp_mono (o := ops[i]) step hh) id
    · rename_i hwt
      rw [if_neg hwt]
      exact step _ _ hq

theorem filterMap_some {α β : Type} {f : α → Option β} : ∀ (l : List α), (∀ a ∈ l, (f a).isSome = true) → ∀ k : Nat, (l.filterMap f)[k]? = (l[k]?).bind f
  | [], _, k => by simp
  | a :: l, h, k => by
    obtain ⟨b, hb⟩ := Option.isSome_iff_exists.1 (h a (by simp))
    rw [List.filterMap_cons_some hb]
    cases k with
    | zero => simp [hb]
    | succ k => simpa using filterMap_some l (fun x hx => h x (by simp [hx])) k

theorem perm_of (l : List Oper) {pm : List Nat} (hp : permOK l.length pm = true) : Perm l.toArray (permOps l pm).toArray (fun k => pm.getD k 0) (posIn pm) := by
  simp only [permOK, Bool.and_eq_true, beq_iff_eq, List.all_eq_true, List.mem_range, decide_eq_true_eq] at hp
  obtain ⟨⟨h1, h2⟩, h3⟩ := hp
  have hk : ∀ k, k < l.length → ∃ i, pm[k]? = some i ∧ i < l.length ∧ posIn pm i = k := by
    intro k hk
    have := h3 k hk
    split at this
    · rename_i i hi
      simp only [Bool.and_eq_true, decide_eq_true_eq, beq_iff_eq] at this
      exact ⟨i, hi, this⟩
    · cases this
  have hall : ∀ i ∈ pm, ((l[i]?).map (relab (posIn pm))).isSome = true := by
    intro i hi
    obtain ⟨k, hkl, rfl⟩ := List.getElem_of_mem hi
    obtain ⟨i, hi1, hi2, _⟩ := hk k (by omega)
    rw [List.getElem?_eq_getElem hkl] at hi1
    obtain rfl := Option.some.inj hi1
    simp [hi2]
  have hget : ∀ k, (permOps l pm)[k]? = (pm[k]?).bind fun i => (l[i]?).map (relab (posIn pm)) := fun k => filterMap_some pm hall k
  have hsz : (permOps l pm).length = l.length := by
    have h4 : ∀ k, k < l.length → (permOps l pm)[k]?.isSome = true := by
      intro k hkl
      obtain ⟨i, hi1, hi2, _⟩ := hk k hkl
      rw [hget, hi1]
      simp [hi2]
    have h5 : (permOps l pm)[l.length]? = none := by rw [hget, List.getElem?_eq_none (by omega)]; rfl
    rcases Nat.lt_trichotomy (permOps l pm).length l.length with h | h | h
    · have := h4 _ h
      simp at this
    · exact h
    · rw [List.getElem?_eq_getElem h] at h5
      cases h5
  have hq : ∀ i, i < l.length → pm[posIn pm i]? = some i := by
    intro i hi
    have hmem : i ∈ pm := by
      have := h2 i hi
      unfold posIn at this
      rw [← h1] at this
      exact List.idxOf_lt_length_iff.1 this
    unfold posIn
    rw [List.getElem?_eq_getElem (List.idxOf_lt_length_iff.2 hmem), List.getElem_idxOf]
  refine ⟨by simp [hsz], fun k hkl => ?_, fun i hi => ?_, fun i hi => ?_, fun i hi => ?_⟩
  · simp only [List.size_toArray] at hkl ⊢
    obtain ⟨i, hi1, hi2, hi3⟩ := hk k hkl
    rw [List.getD_eq_getElem?_getD, hi1]
    exact ⟨hi2, hi3⟩
  · simp only [List.size_toArray] at hi ⊢
    refine ⟨h2 i hi, ?_⟩
    rw [List.getD_eq_getElem?_getD, hq i hi]; rfl
  · simp only [List.size_toArray] at hi ⊢
    have hmem : i ∉ pm := by
      intro hm
      obtain ⟨k, hkl, rfl⟩ := List.getElem_of_mem hm
      obtain ⟨i, hi1, hi2, _⟩ := hk k (by omega)
      rw [List.getElem?_eq_getElem hkl] at hi1
      obtain rfl := Option.some.inj hi1
      omega
    unfold posIn
    rw [List.idxOf_eq_length hmem]
    omega
  · simp only [List.size_toArray] at hi
    simp only [List.getElem?_toArray, hget, hq i hi]
    simp [hi]
end

theorem pickDraw_spec {a b : Option (List MO)} {ms : List MO} (h : pickDraw a b = some ms) : a = some ms ∨ b = some ms := by
  unfold pickDraw at h
  split at h
  · split at h
    · exact .inr h
    · exact .inl h
  · exact .inl h
  · exact .inr h

theorem drawn (hP : P.follows .mixedOrders = true) : Drawn P G := by
  intro B nt Φ0 Z0 w0 id ops ms M st a w hc hm hat
  refine wp_region_any hP ?_
  simp only [comp, if_true, Option.map_eq_some_iff, MC.reg.injEq, true_and] at hc
  obtain ⟨ms', hc, rfl⟩ := hc
  rcases pickDraw_spec hc with hms | hc
  · exact drawn_any hms hm hat
  · split at hc
    · rename_i hp
      have hperm := perm_of ops.toList hp
      have h := drawn_any (ops := (permOps ops.toList (hoist ops.toList)).toArray) (by simpa using hc) hm hat
      have hsz := hperm.size
      simp only [Array.toArray_toList] at hperm hsz
      rw [hsz] at h
      refine hperm.any ops.size _ _ a _ (by simp) (by simp) (fun i hi => ?_) h
      simp [Array.getD, hi, (hperm.ql i hi).1]
    · cases hc

end
end Go.MW

/- Functions: from the small code of a body to what a call does; sealed calls. -/
namespace Go.MW
open Go Go.RowKit
set_option linter.unusedVariables false
set_option linter.unusedSimpArgs false

/-- The slots that a call's arguments fill. -/
def argFr : Nat → List V → Fr
  | _, [] => []
  | i, v :: vs => (i, v) :: argFr (i + 1) vs

theorem argFr_get : ∀ (vs : List V) (i k : Nat), get (argFr i vs) k = if i ≤ k then vs.getD (k - i) .junk else .junk
  | [], i, k => by simp [argFr, get]
  | v :: vs, i, k => by
    simp only [argFr, get_cons]
    by_cases h : i = k
    · subst h; simp
    · rw [if_neg h, argFr_get vs (i + 1) k]
      by_cases h2 : i + 1 ≤ k
      · rw [if_pos h2, if_pos (by omega), show k - i = (k - (i + 1)) + 1 by omega, List.getD_cons_succ]
      · rw [if_neg h2, if_neg (by omega)]

/-- Where a result lies: in a slot; or in memory, at the address that a slot holds. -/
inductive RS where
  | t (i : Nat)
  | c (agg : Option Nat) (i : Nat)

def resTmp (P : Program) : ResultVar → Option RS
  | .tmp t => some (.t t)
  | .cell a t => (aggT P t).map (.c · a)

/-- The places of a function's results. -/
def resTmps (P : Program) : List ResultVar → Option (List RS)
  | [] => some []
  | r :: rs => match resTmp P r, resTmps P rs with
    | some t, some ts => some (t :: ts)
    | _, _ => none

def packV : List V → V
  | [v] => v
  | vs => .tup vs

def resK (fr : Fr) (H : List Blk) : List RS → (List V → Prop) → Prop
  | [], C => C []
  | .t i :: rs, C => resK fr H rs fun vs => C (get fr i :: vs)
  | .c agg i :: rs, C => ldK agg (get fr i) H fun v _ => resK fr H rs fun vs => C (v :: vs)

/-- A function's body in small code, and the slots of its results. -/
def Compiled (P : Program) (f np : Nat) (c : MC) (rs : List RS) : Prop :=
  ∃ fn body, P.funcs[f]? = some fn ∧ fn.body = some body ∧ comp P fn.ntmps body = some c ∧ resTmps P fn.results.toList = some rs ∧ np ≤ fn.ntmps

theorem Compiled.of {P : Program} {f np : Nat} {c : MC} {rs : List RS} {fn : Func} {body : Code} (h1 : P.funcs[f]? = some fn) (h2 : fn.body = some body) (h3 : comp P fn.ntmps body = some c) (h4 : resTmps P fn.results.toList = some rs) (h5 : Nat.ble np fn.ntmps = true) : Compiled P f np c rs :=
  ⟨fn, body, h1, h2, h3, h4, Nat.le_of_ble_eq_true h5⟩

/-- A function's small code. -/
def compF (P : Program) (fn : Func) : Option (MC × List RS) :=
  match fn.body with
  | none => none
  | some b => match comp P fn.ntmps b, resTmps P fn.results.toList with
    | some c, some rs => some (c, rs)
    | _, _ => none

theorem Compiled.fn {P : Program} {f np : Nat} {c : MC} {rs : List RS} {fn : Func} (h1 : P.funcs[f]? = some fn) (h2 : compF P fn = some (c, rs)) (h3 : Nat.ble np fn.ntmps = true) : Compiled P f np c rs := by
  unfold compF at h2
  split at h2
  · cases h2
  · rename_i b hb
    split at h2 <;> simp at h2
    obtain ⟨rfl, rfl⟩ := h2
    exact .of h1 hb (by assumption) (by assumption) h3

section
variable {P : Program} {G : Nat → Option (List V)}

theorem run_results {B : Bd} {Φ : Nat → Option Pl} {Z : Nat → Prop} {H : List Blk} {w : World} {fr : Fr} {a : Act} (hrel : Rel G B Φ Z H w) (hf : FrR Φ Z w fr a) : ∀ (rs : List ResultVar) (ts : List RS) (C : List V → Prop), resTmps P rs = some ts → resK fr H ts C →
    ∃ (vs : List Value) (us : List V), (rs.mapM (m := Sem) fun | .tmp t => pure (a.tmps.getD t undef) | .cell c t => do loadVar t (← asAddr (a.tmps.getD c undef))).run P w = .ok vs w ∧ C us ∧ vs.length = us.length ∧ ∀ i, i < us.length → VR Φ Z w (us.getD i .junk) (vs.getD i undef)
  | [], ts, C, h, hk => by simp [resTmps] at h; subst h; exact ⟨[], [], by simp, hk, rfl, by simp⟩
  | r :: rs, ts, C, h, hk => by
    simp only [resTmps] at h
    split at h <;> simp at h
    rename_i t ts' hr hrs
    subst h
    cases r with
    | cell c ty =>
      simp only [resTmp, Option.map_eq_some_iff] at hr
      obtain ⟨agg, hagg, rfl⟩ := hr
      simp only [resK] at hk
      let o : Oper := { dst := none, op := .load ty (.tmp c), type := ty, pos := "", after := #[], guard := none }
      obtain ⟨rv, v, hrun, hk2, hv⟩ := ld_sound (o := o) (x := .tmp c) (y := .t c) (agg := agg) hrel hf rfl hagg rfl (K := fun v _ => resK fr H ts' fun vs => C (v :: vs)) hk
      obtain ⟨vs, us, h1, h2, h3, h4⟩ := run_results hrel hf rs ts' _ hrs hk2
      have hload : (do loadVar ty (← asAddr (a.tmps.getD c undef)) : Sem Value).run P w = .ok rv w := by
        have he : a.eval (.tmp c) = a.tmps.getD c undef := rfl
        simp only [o, execOp, Instr.loadAt, he, Sem.run_bind] at hrun ⊢
        generalize a.tmps.getD c undef = x at hrun
        cases x with
        | pointer ad =>
          cases ad with
          | none => simp [Instr.sureAddr, stuck, Sem.run, Result.andThen] at hrun
          | some ad =>
            simp only [Instr.sureAddr, asAddr, Sem.run_pure, Result.andThen_ok] at hrun ⊢
            cases hl : (loadVar ty ad).run P w with
            | ok u w' => rw [hl] at hrun; simp [Result.andThen] at hrun; rw [hrun.1, hrun.2]
            | halt x w' => rw [hl] at hrun; simp [Result.andThen] at hrun
        | _ => simp [Instr.sureAddr, stuck, Sem.run, Result.andThen] at hrun
      refine ⟨rv :: vs, v :: us, ?_, h2, by simp [h3], fun i hi => ?_⟩
      · simp only [List.mapM_cons, Sem.run_bind, Sem.run_pure, Result.andThen_ok] at hload ⊢
        rw [hload]
        simp only [Result.andThen_ok, h1]
      · cases i with
        | zero => exact hv
        | succ i => simpa using h4 i (by simpa using hi)
    | tmp t' =>
      simp [resTmp] at hr
      subst hr
      simp only [resK] at hk
      obtain ⟨vs, us, h1, h2, h3, h4⟩ := run_results hrel hf rs ts' _ hrs hk
      refine ⟨a.tmps.getD t' undef :: vs, get fr t' :: us, ?_, h2, by simp [h3], fun i hi => ?_⟩
      · simp only [List.mapM_cons, Sem.run_bind, Sem.run_pure, Result.andThen_ok, h1]
      · cases i with
        | zero => exact hf t'
        | succ i => simpa using h4 i (by simpa using hi)

/-- A call on the abstract heap, what it comes to told by a property. -/
def SimP (P : Program) (G : Nat → Option (List V)) (f : Nat) (args : List V) (H : List Blk) (Q : V → List Blk → Prop) : Prop :=
  ∀ (B : Bd) (Φ : Nat → Option Pl) (Z : Nat → Prop) (w : World) (rargs : Array Value), Rel G B Φ Z H w → VRs Φ Z w args rargs →
    Calls P f rargs w fun e w' => ∃ rv r H' Φ' Z', e = .returned rv ∧ Q r H' ∧ VR Φ' Z' w' r rv ∧ Rel G B Φ' Z' H' w' ∧ Ev B Φ Z w Φ' Z' w'

theorem SimP.sim {f : Nat} {args : List V} {H H' : List Blk} {r : V} (h : SimP P G f args H fun r' H'' => r' = r ∧ H'' = H') : Sim P G f args H r H' := by
  intro B Φ Z w rargs hrel ha
  refine (h B Φ Z w rargs hrel ha).mono ?_
  rintro e w' ⟨rv, r', H'', Φ', Z', he, ⟨rfl, rfl⟩, hv, hr, hev⟩
  exact ⟨rv, Φ', Z', he, hv, hr, hev⟩

/-- What a function's call does, from its body's small code. -/
theorem SimP.intro (hP : P.follows .mixedOrders = true) {f : Nat} {args : List V} {H : List Blk} {Q : V → List Blk → Prop} {c : MC} {rs : List RS} (hc : Compiled P f args.length c rs)
    (h : mwp P G c (fun e st => (e = .normal ∨ e = .ret) ∧ resK st.fr st.H rs fun us => Q (packV us) st.H) ⟨argFr 0 args, H⟩) : SimP P G f args H Q := by
  obtain ⟨fn, body, h1, h2, h3, h4, h5⟩ := hc
  intro B Φ Z w rargs hrel ha
  refine calls_of_wp h1 h2 ?_
  have hat : At G B fn.ntmps Φ Z w ⟨argFr 0 args, H⟩ { tmps := rargs ++ Array.replicate (fn.ntmps - rargs.size) undef, defers := [] } w := by
    refine ⟨Φ, Z, hrel, fun i => ?_, Ev.refl _ _ _ _, ?_, rfl⟩
    · rw [argFr_get]
      simp only [Nat.zero_le, if_true, Nat.sub_zero]
      by_cases hi : i < args.length
      · have := ha.2 i hi
        have hi' : i < rargs.size := by rw [ha.1]; exact hi
        simpa [Array.getD_eq_getD_getElem?, Array.getElem?_append_left hi'] using this
      · rw [List.getD_eq_getElem?_getD, List.getElem?_eq_none (by omega)]
        exact .junk _
    · have := ha.1
      simp
      omega
  refine wp_mono (mwp_sound (drawn hP) body c h3 _ _ _ _ h hat) ?_
  rintro e a' w' ⟨st, ⟨he, hQ⟩, Φ', Z', hrel', hf', hev', hsz', hdf'⟩
  obtain ⟨vs, us, hv1, hQ', hv2, hv3⟩ := run_results (P := P) hrel' hf' fn.results.toList rs _ h4 hQ
  have hres : ∃ rv, (results fn a'.tmps).run P w' = .ok rv w' ∧ VR Φ' Z' w' (packV us) rv := by
    have hrun : (results fn a'.tmps).run P w' = .ok (if h : vs.toArray.size = 1 then vs.toArray[0] else .tuple vs.toArray) w' := by
      unfold results
      rw [Array.mapM_eq_mapM_toList]
      simp only [Sem.run_bind, Sem.run_map, Sem.run_pure]
      erw [hv1]
      rfl
    refine ⟨_, hrun, ?_⟩
    rcases us with _ | ⟨t, _ | ⟨t2, ts⟩⟩
    · obtain rfl : vs = [] := by simpa using hv2
      exact .tup _ _ rfl (by simp)
    · rcases vs with _ | ⟨x, _ | ⟨y, vs⟩⟩ <;> simp at hv2
      simpa [packV] using hv3 0 (by simp)
    · have : vs.toArray.size ≠ 1 := by simp [hv2]
      rw [dif_neg this]
      simp only [packV]
      refine .tup _ _ (by simp [hv2]) fun i hi => ?_
      have := hv3 i hi
      simpa [Array.getD_eq_getD_getElem?, List.getD_eq_getElem?_getD] using this
  obtain ⟨rv, hr1, hr2⟩ := hres
  rcases he with rfl | rfl
  · exact ⟨hdf', rv, hr1, rv, _, _, Φ', Z', rfl, hQ', hr2, hrel', hev'⟩
  · exact ⟨hdf', rv, hr1, rv, _, _, Φ', Z', rfl, hQ', hr2, hrel', hev'⟩

/-- Values without a way into the abstract heap ('im': they may lead to memory that nothing writes). -/
inductive Free (im : Bool) : V → Prop where
  | junk : Free im .junk
  | bool (b : Bool) : Free im (.bool b)
  | int (k : IntKind) (n : Int) : Free im (.int k n)
  | str (s : List UInt8) : Free im (.str s)
  | nilp : Free im .nilp
  | nils : Free im .nils
  | nilf : Free im .nilf
  | vs0 : Free im (.vs [])
  | agg {cs : List V} (h : ∀ i, i < cs.length → Free im (cs.getD i .junk)) : Free im (.agg cs)
  | tup {cs : List V} (h : ∀ i, i < cs.length → Free im (cs.getD i .junk)) : Free im (.tup cs)
  | vs {xs : List V} (hi : im = true) (h : ∀ i j, i < xs.length → j < (xs.getD i .junk).cells.length → Free im ((xs.getD i .junk).cells.getD j .junk)) : Free im (.vs xs)
  | vp {cs : List V} (hi : im = true) (h : ∀ i, i < cs.length → Free im (cs.getD i .junk)) : Free im (.vp cs)
  | fn (f : Fn) {fs cs : List V} (h : ∀ i, i < fs.length → Free im (fs.getD i .junk)) (h' : ∀ i, i < cs.length → Free im (cs.getD i .junk)) : Free im (.fn f fs cs)

theorem Free.of {im : Bool} {v : V} (h : Free im v) : Free true v := by
  induction h with
  | junk => exact .junk
  | bool b => exact .bool b
  | int k n => exact .int k n
  | str s => exact .str s
  | nilp => exact .nilp
  | nils => exact .nils
  | nilf => exact .nilf
  | vs0 => exact .vs0
  | agg _ ih => exact .agg ih
  | tup _ ih => exact .tup ih
  | vs _ _ ih => exact .vs rfl ih
  | vp _ _ ih => exact .vp rfl ih
  | fn f _ _ ih ih' => exact .fn f ih ih'

/-- A free value stands wherever what it leads to stands. -/
theorem Free.vr {im : Bool} {v : V} (hv : Free im v) : ∀ {Φ Φ2 : Nat → Option Pl} {Z Z2 : Nat → Prop} {w w2 : World} {rv : Value}, VR Φ Z w v rv → (im = true → (∀ r, Z r → Z2 r) ∧ ∀ r, Z r → w2.heap[r]? = w.heap[r]?) → VR Φ2 Z2 w2 v rv := by
  induction hv with
  | junk => intro Φ Φ2 Z Z2 w w2 rv h hz; exact .junk _
  | bool b => intro Φ Φ2 Z Z2 w w2 rv h hz; cases h; exact .bool b
  | int k n => intro Φ Φ2 Z Z2 w w2 rv h hz; cases h; exact .int k n
  | str s => intro Φ Φ2 Z Z2 w w2 rv h hz; cases h; exact .str s
  | nilp => intro Φ Φ2 Z Z2 w w2 rv h hz; cases h; exact .nilp
  | nils => intro Φ Φ2 Z Z2 w w2 rv h hz; cases h; exact .nils
  | nilf => intro Φ Φ2 Z Z2 w w2 rv h hz; cases h; exact .nilf
  | vs0 =>
    intro Φ Φ2 Z Z2 w w2 rv h hz
    cases h with
    | vs _ a sz cap => exact .vs0 _ _
    | vs0 b c => exact .vs0 _ _
  | agg _ ih =>
    intro Φ Φ2 Z Z2 w w2 rv h hz
    cases h with
    | agg _ rs hl hh => exact .agg _ rs hl fun i hi => ih i hi (hh i hi) hz
  | tup _ ih =>
    intro Φ Φ2 Z Z2 w w2 rv h hz
    cases h with
    | tup _ rs hl hh => exact .tup _ rs hl fun i hi => ih i hi (hh i hi) hz
  | vs him _ ih =>
    intro Φ Φ2 Z Z2 w w2 rv h hz
    cases h with
    | vs _ a sz cap c hs hzb hc hsz hcell hh =>
      refine .vs _ a sz cap c hs ((hz him).1 _ hzb) hc hsz (fun i j hi hj => ?_) fun i j hi hj => ih i j hi (by rw [hsz i hi]; exact hj) (hh i j hi hj) hz
      rw [show w2.cell? ⟨a.block, _, none⟩ = w.cell? ⟨a.block, _, none⟩ from World.cell?_of_block (w := w) ((hz him).2 _ hzb)]
      exact hcell i j hi hj
    | vs0 b c => exact .vs0 _ _
  | vp him _ ih =>
    intro Φ Φ2 Z Z2 w w2 rv h hz
    cases h with
    | vp _ a c hs hzb hcell hh =>
      refine .vp _ a c hs ((hz him).1 _ hzb) (fun j hj => ?_) fun j hj => ih j hj (hh j hj) hz
      rw [show w2.cell? ⟨a.block, _, none⟩ = w.cell? ⟨a.block, _, none⟩ from World.cell?_of_block (w := w) ((hz him).2 _ hzb)]
      exact hcell j hj
  | fn f _ _ ih ih' =>
    intro Φ Φ2 Z Z2 w w2 rv h hz
    cases h with
    | fn _ _ _ rf rc h1 h2 h3 h4 => exact .fn f _ _ rf rc h1 h2 (fun i hi => ih i hi (h3 i hi) hz) fun i hi => ih' i hi (h4 i hi) hz

/-- A value as one sees it once nothing is written any more. -/
inductive Frz (im : Bool) (H : List Blk) : V → V → Prop where
  | free {v : V} (h : Free im v) : Frz im H v v
  | hs {b n i len : Nat} {cap : Option Nat} {sz : Nat} {xs ys : List V} {opn frz : Bool} (hH : getB H b = .row sz xs opn frz) (hn : xs.length = n) (hi : i + len ≤ n) (hl : ys.length = len) (hc : ∀ k, k < len → (ys.getD k .junk).cells.length = sz)
      (he : ∀ k j, k < len → j < sz → Frz im H ((xs.getD (i + k) .junk).cells.getD j .junk) ((ys.getD k .junk).cells.getD j .junk)) : Frz im H (.hs b n i 0 len cap sz) (.vs ys)
  | hsi {b n i j len : Nat} {cap : Option Nat} {sz : Nat} {xs ys : List V} {opn frz : Bool} (hH : getB H b = .row sz xs opn frz) (hn : xs.length = n) (hi : i < n) (hj : j + len ≤ sz) (hl : ys.length = len) (hc : ∀ k, k < len → (ys.getD k .junk).cells = [ys.getD k .junk])
      (he : ∀ k, k < len → Frz im H ((xs.getD i .junk).cells.getD (j + k) .junk) (ys.getD k .junk)) : Frz im H (.hs b n i j len cap 1) (.vs ys)
  | ptr {b n i j sz : Nat} {xs ds : List V} {opn frz : Bool} (hH : getB H b = .row sz xs opn frz) (hn : xs.length = n) (hi : i < n) (hl : j + ds.length ≤ sz)
      (he : ∀ k, k < ds.length → Frz im H ((xs.getD i .junk).cells.getD (j + k) .junk) (ds.getD k .junk)) : Frz im H (.ptr b n i j) (.vp ds)
  | agg {cs ds : List V} (hl : ds.length = cs.length) (h : ∀ i, i < cs.length → Frz im H (cs.getD i .junk) (ds.getD i .junk)) : Frz im H (.agg cs) (.agg ds)
  | tup {cs ds : List V} (hl : ds.length = cs.length) (h : ∀ i, i < cs.length → Frz im H (cs.getD i .junk) (ds.getD i .junk)) : Frz im H (.tup cs) (.tup ds)
  | fn (f : Fn) {fs cs fs' cs' : List V} (hl : fs'.length = fs.length) (hl' : cs'.length = cs.length) (h : ∀ i, i < fs.length → Frz im H (fs.getD i .junk) (fs'.getD i .junk)) (h' : ∀ i, i < cs.length → Frz im H (cs.getD i .junk) (cs'.getD i .junk)) : Frz im H (.fn f fs cs) (.fn f fs' cs')

theorem Frz.app {im : Bool} {H : List Blk} {v v' : V} (h : Frz im H v v') (T : List Blk) : Frz im (H ++ T) v v' := by
  induction h with
  | free h => exact .free h
  | hs hH hn hi hl hc _ ih => exact .hs (getB_app hH) hn hi hl hc ih
  | hsi hH hn hi hj hl hc _ ih => exact .hsi (getB_app hH) hn hi hj hl hc ih
  | ptr hH hn hi hl _ ih => exact .ptr (getB_app hH) hn hi hl ih
  | agg hl _ ih => exact .agg hl ih
  | tup hl _ ih => exact .tup hl ih
  | fn f hl hl' _ _ ih ih' => exact .fn f hl hl' ih ih'

theorem Frz.vr {im : Bool} {B : Bd} {Φ : Nat → Option Pl} {Z Z2 : Nat → Prop} {H : List Blk} {w : World} (hrel : Rel G B Φ Z H w) (hz : im = true → ∀ r, Z r → Z2 r) (hp : ∀ b p, Φ b = some p → Z2 p.rb) {v v' : V} (h : Frz im H v v') : ∀ {rv : Value}, VR Φ Z w v rv → ∀ Φ2, VR Φ2 Z2 w v' rv := by
  induction h with
  | free hf => exact fun hv Φ2 => hf.vr hv fun him => ⟨hz him, fun _ _ => rfl⟩
  | @hs b n i len cap sz xs ys opn frz hH hn hi hl hc _ ih =>
    intro rv hv Φ2
    obtain ⟨p, rcap, hpb, ok, rfl, hle, hcap⟩ := hs_inv hrel hv hH hn
    obtain ⟨c, t, fz, hcb, _, h3, h4, _, h5⟩ := ok.row
    have := VR.vs (Φ := Φ2) (Z := Z2) (w := w) ys ⟨p.rb, i * sz + 0, none⟩ sz rcap (fun k j => c.getD ((i + k) * sz + j) undef) rfl (hp b p hpb) (by omega) (fun k hk => hc k (by omega)) (fun k j hk hj => by
      have hin : (i + k) * sz + j < c.size := by
        have := mul_in (i := i + k) (n := xs.length) (sz := sz) (j := j) (by omega) hj
        omega
      simp only [Nat.add_zero]
      rw [← Nat.add_assoc, ← Nat.add_mul]
      exact cell_getD hcb hin) (fun k j hk hj => ih k j (by omega) hj (h5 (i + k) j (by omega) hj) Φ2)
    rw [hl] at this
    exact this
  | @hsi b n i j len cap sz xs ys opn frz hH hn hi hj hl hc _ ih =>
    intro rv hv Φ2
    obtain ⟨p, rcap, hpb, ok, rfl, hle, hcap⟩ := hs_inv hrel hv hH hn
    obtain ⟨c, t, fz, hcb, _, h3, h4, _, h5⟩ := ok.row
    have := VR.vs (Φ := Φ2) (Z := Z2) (w := w) ys ⟨p.rb, i * sz + j, none⟩ 1 rcap (fun k _ => c.getD (i * sz + (j + k)) undef) rfl (hp b p hpb) (by omega) (fun k hk => by rw [hc k (by omega)]; rfl) (fun k q hk hq => by
      obtain rfl : q = 0 := by omega
      have hin : i * sz + (j + k) < c.size := by
        have := mul_in (i := i) (n := xs.length) (sz := sz) (j := j + k) (by omega) (by omega)
        omega
      simp only [Nat.mul_one, Nat.add_zero]
      rw [Nat.add_assoc]
      exact cell_getD hcb hin) (fun k q hk hq => by
      obtain rfl : q = 0 := by omega
      rw [hc k (by omega), List.getD_cons_zero]
      exact ih k (by omega) (h5 i (j + k) (by omega) (by omega)) Φ2)
    rw [hl] at this
    exact this
  | @ptr b n i j sz xs ds opn frz hH hn hi hl _ ih =>
    intro rv hv Φ2
    obtain ⟨p, hpb, ok, rfl⟩ := ptr_inv hrel hv hH hn
    obtain ⟨c, t, fz, hcb, _, h3, h4, _, h5⟩ := ok.row
    refine .vp ds ⟨p.rb, i * sz + j, none⟩ (fun k => c.getD (i * sz + (j + k)) undef) rfl (hp b p hpb) (fun k hk => ?_) fun k hk => ih k hk (h5 i (j + k) (by omega) (by omega)) Φ2
    have hin : i * sz + (j + k) < c.size := by
      have := mul_in (i := i) (n := xs.length) (sz := sz) (j := j + k) (by omega) (by omega)
      omega
    show w.cell? ⟨p.rb, i * sz + j + k, none⟩ = _
    rw [Nat.add_assoc]
    exact cell_getD hcb hin
  | agg hl _ ih =>
    intro rv hv Φ2
    cases hv with
    | agg _ rs h1 h2 => exact .agg _ rs (by rw [h1, hl]) fun i hi => ih i (by omega) (h2 i (by omega)) Φ2
  | tup hl _ ih =>
    intro rv hv Φ2
    cases hv with
    | tup _ rs h1 h2 => exact .tup _ rs (by rw [h1, hl]) fun i hi => ih i (by omega) (h2 i (by omega)) Φ2
  | fn f hl hl' _ _ ih ih' =>
    intro rv hv Φ2
    cases hv with
    | fn _ _ _ rf rc h1 h2 h3 h4 => exact .fn f _ _ rf rc (by rw [h1, hl]) (by rw [h2, hl']) (fun i hi => ih i (by omega) (h3 i (by omega)) Φ2) fun i hi => ih' i (by omega) (h4 i (by omega)) Φ2

/-- A sealed call: its own heap is its own. 'im': the result may be memory that the arguments lead to. -/
def Does (P : Program) (G : Nat → Option (List V)) (im : Bool) (f : Nat) (args : List V) (r : V) : Prop := SimP P G f args [] fun r0 H' => Frz im H' r0 r

theorem Does.intro (hP : P.follows .mixedOrders = true) {im : Bool} {f : Nat} {args : List V} {r : V} {c : MC} {rs : List RS} (hc : Compiled P f args.length c rs)
    (h : mwp P G c (fun e st => (e = .normal ∨ e = .ret) ∧ resK st.fr st.H rs fun us => Frz im st.H (packV us) r) ⟨argFr 0 args, []⟩) : Does P G im f args r := SimP.intro hP hc h

/-- Blocks that are there are as good as frozen for what begins now. -/
theorem Rel.enter {B : Bd} {Φ : Nat → Option Pl} {Z Z1 : Nat → Prop} {H : List Blk} {w : World} (hrel : Rel G B Φ Z H w) (h1 : ∀ r, Z r → Z1 r) (h2 : ∀ r, Z1 r → r < w.heap.size) : Rel G ⟨w.heap.size, fun _ => none⟩ (fun _ => none) Z1 [] w := by
  refine ⟨fun b p hp => (by cases hp), fun b b' p p' hp => (by cases hp), fun b p hp => (by cases hp), h2, Nat.le_refl _, hrel.glob.mono h1 fun _ _ => rfl, fun b k hb => (by cases hb)⟩

/-- A sealed call on immutable arguments. -/
theorem Does.quiet {im : Bool} {f : Nat} {args : List V} {r : V} (h : Does P G im f args r) (ha : ∀ a ∈ args, Free true a) (H : List Blk) : QSim P G f args H r := by
  intro B Φ Z w rargs hrel hargs
  have hargs' : VRs (fun _ => none) Z w args rargs := ⟨hargs.1, fun i hi => (ha _ (getD_mem hi)).vr (hargs.2 i hi) fun _ => ⟨fun _ h => h, fun _ _ => rfl⟩⟩
  refine Calls.mono (h ⟨w.heap.size, fun _ => none⟩ (fun _ => none) Z w rargs (hrel.enter (fun _ h => h) hrel.zin) hargs') ?_
  rintro e w' ⟨rv, r0, H', Φ', Z', rfl, hfr, hv, hr', hev'⟩
  have hbel : Below B w w' := hev'.below.mono hrel.size
  let Z2 : Nat → Prop := fun q => Z' q ∨ ∃ b p, Φ' b = some p ∧ p.rb = q
  have hz2 : ∀ q, Z2 q → q < w.heap.size → Z q := by
    rintro q (hq | ⟨b, p, hp, rfl⟩) hlt
    · rcases hev'.znew q hq hlt with h | h
      · exact h
      · have : w.heap.size ≤ q := h
        omega
    · have : w.heap.size ≤ p.rb := hr'.low b p hp
      omega
  have hsame : ∀ q, q < w.heap.size → w'.heap[q]? = w.heap[q]? := hev'.below.block
  have hvr : ∀ v rv, VR Φ Z w v rv → VR Φ Z2 w' v rv := fun v rv hv => hv.mono (fun q hq => .inl (hev'.z q hq)) (fun q hq => hsame q (hrel.zin q hq)) fun b p hp => ⟨p, hp, .inl rfl⟩
  refine ⟨rv, Z2, rfl, Frz.vr hr' (fun _ q hq => .inl hq) (fun b p hp => .inr ⟨b, p, hp, rfl⟩) hfr hv Φ, ⟨fun b p hp => ?_, hrel.inj, hrel.low, ?_, Nat.le_trans hrel.size hev'.below.size, hrel.glob.mono (fun q hq => .inl (hev'.z q hq)) fun q hq => hsame q (hrel.zin q hq), hrel.pend⟩, ⟨fun q hq => .inl (hev'.z q hq), fun q hq => hsame q (hrel.zin q hq), fun b p hp => ⟨p, hp, .inl rfl⟩, hbel, fun q hq hlt => .inl (hz2 q hq hlt)⟩⟩
  · obtain ⟨k, hk, ok⟩ := hrel.blk b p hp
    have hlt := ok.lt
    have ok' := ok.mono (Z := Z) (Φ' := Φ) (w' := w') (hsame _ hlt)
    refine ⟨k, hk, ?_⟩
    cases k with
    | row sz xs opn frz =>
      obtain ⟨n, s, cs, ⟨c, t, fz, hc, h0, h1, h2, h3, h4⟩, z⟩ := ok
      refine ⟨n, s, cs, ⟨c, t, fz, by rw [hsame _ hlt]; exact hc, h0, h1, h2, h3, fun i j hi hj => hvr _ _ (h4 i j hi hj)⟩, fun hf => .inl (hev'.z _ (z.1 hf)), fun hf hq => z.2 hf (hz2 _ hq hlt)⟩
    | map es clk =>
      obtain ⟨n, ⟨c, hc, h1, h2⟩, z⟩ := ok
      exact ⟨n, ⟨c, by rw [hsame _ hlt]; exact hc, h1, fun i hi => ⟨(h2 i hi).1, hvr _ _ (h2 i hi).2.1, hvr _ _ (h2 i hi).2.2⟩⟩, fun hq => z (hz2 _ hq hlt)⟩
    | iter m s sn l =>
      obtain ⟨n, ⟨r, hv, hc⟩, z⟩ := ok
      exact ⟨n, ⟨r, hvr _ _ hv, by rw [hsame _ hlt]; exact hc⟩, fun hq => z (hz2 _ hq hlt)⟩
  · rintro q (hq | ⟨b, p, hp, rfl⟩)
    · exact hr'.zin q hq
    · obtain ⟨k, _, ok⟩ := hr'.blk b p hp
      exact ok.lt

/-- A list of values, each as one sees it. -/
def Frzs (im : Bool) (H : List Blk) (vs vs' : List V) : Prop := vs'.length = vs.length ∧ ∀ i, i < vs.length → Frz im H (vs.getD i .junk) (vs'.getD i .junk)

/-- A sealed call that borrows: what it is given, it reads; what it gives back is its own. -/
theorem Does.borrow {f : Nat} {args args' : List V} {r : V} {H0 : List Blk} (h : Does P G false f args' r) (ha : Frzs true H0 args args') (T : List Blk) : QSim P G f args (H0 ++ T) r := by
  intro B Φ Z w rargs hrel hargs
  let Z1 : Nat → Prop := fun q => q < w.heap.size
  have hargs' : VRs (fun _ => none) Z1 w args' rargs := ⟨by rw [hargs.1, ha.1], fun i hi => by
    have hi' : i < args.length := by rw [← ha.1]; exact hi
    exact Frz.vr hrel (fun _ q hq => hrel.zin q hq) (fun b p hp => by obtain ⟨k, _, ok⟩ := hrel.blk b p hp; exact ok.lt) ((ha.2 i hi').app T) (hargs.2 i hi') _⟩
  refine Calls.mono (h ⟨w.heap.size, fun _ => none⟩ (fun _ => none) Z1 w rargs (hrel.enter (fun q hq => hrel.zin q hq) fun _ h => h) hargs') ?_
  rintro e w' ⟨rv, r0, H', Φ', Z', rfl, hfr, hv, hr', hev'⟩
  have hbel : Below B w w' := hev'.below.mono hrel.size
  let Z2 : Nat → Prop := fun q => Z q ∨ ∃ b p, Φ' b = some p ∧ p.rb = q
  have hz2 : ∀ q, Z2 q → q < w.heap.size → Z q := by
    rintro q (hq | ⟨b, p, hp, rfl⟩) hlt
    · exact hq
    · have : w.heap.size ≤ p.rb := hr'.low b p hp
      omega
  have hsame : ∀ q, q < w.heap.size → w'.heap[q]? = w.heap[q]? := hev'.below.block
  have hvr : ∀ v rv, VR Φ Z w v rv → VR Φ Z2 w' v rv := fun v rv hv => hv.mono (fun q hq => .inl hq) (fun q hq => hsame q (hrel.zin q hq)) fun b p hp => ⟨p, hp, .inl rfl⟩
  refine ⟨rv, Z2, rfl, Frz.vr hr' (fun h => by cases h) (fun b p hp => .inr ⟨b, p, hp, rfl⟩) hfr hv Φ, ⟨fun b p hp => ?_, hrel.inj, hrel.low, ?_, Nat.le_trans hrel.size hev'.below.size, hrel.glob.mono (fun q hq => .inl hq) fun q hq => hsame q (hrel.zin q hq), hrel.pend⟩, ⟨fun q hq => .inl hq, fun q hq => hsame q (hrel.zin q hq), fun b p hp => ⟨p, hp, .inl rfl⟩, hbel, fun q hq hlt => .inl (hz2 q hq hlt)⟩⟩
  · obtain ⟨k, hk, ok⟩ := hrel.blk b p hp
    have hlt := ok.lt
    refine ⟨k, hk, ?_⟩
    cases k with
    | row sz xs opn frz =>
      obtain ⟨n, s, cs, ⟨c, t, fz, hc, h0, h1, h2, h3, h4⟩, z⟩ := ok
      refine ⟨n, s, cs, ⟨c, t, fz, by rw [hsame _ hlt]; exact hc, h0, h1, h2, h3, fun i j hi hj => hvr _ _ (h4 i j hi hj)⟩, fun hf => .inl (z.1 hf), fun hf hq => z.2 hf (hz2 _ hq hlt)⟩
    | map es clk =>
      obtain ⟨n, ⟨c, hc, h1, h2⟩, z⟩ := ok
      exact ⟨n, ⟨c, by rw [hsame _ hlt]; exact hc, h1, fun i hi => ⟨(h2 i hi).1, hvr _ _ (h2 i hi).2.1, hvr _ _ (h2 i hi).2.2⟩⟩, fun hq => z (hz2 _ hq hlt)⟩
    | iter m s sn l =>
      obtain ⟨n, ⟨r, hv, hc⟩, z⟩ := ok
      exact ⟨n, ⟨r, hvr _ _ hv, by rw [hsame _ hlt]; exact hc⟩, fun hq => z (hz2 _ hq hlt)⟩
  · rintro q (hq | ⟨b, p, hp, rfl⟩)
    · have := hrel.zin q hq; have := hev'.below.size; omega
    · obtain ⟨k, _, ok⟩ := hr'.blk b p hp
      exact ok.lt

theorem QSim.sim {f : Nat} {args : List V} {r : V} {H : List Blk} (h : QSim P G f args H r) : Sim P G f args H r H := by
  intro B Φ Z w rargs hrel ha
  refine Calls.mono (h B Φ Z w rargs hrel ha) ?_
  rintro e w' ⟨rv, Z', he, hv, hr, hev⟩
  exact ⟨rv, Φ, Z', he, hv, hr, hev⟩

theorem callK_of_quiet {q : Bool} {f : Nat} {args : List V} {H : List Blk} {K : V → List Blk → Prop} {r : V} (h : ∀ T, QSim P G f args (H ++ T) r) (hk : K r H) : callK P G q f args H K := by
  unfold callK
  cases q with
  | true => exact ⟨r, h, hk⟩
  | false =>
    have := h []
    rw [List.append_nil] at this
    exact ⟨r, H, this.sim, hk⟩

/-- A sealed call, on immutable arguments. -/
theorem Does.call {q im : Bool} {f : Nat} {args : List V} {H : List Blk} {K : V → List Blk → Prop} {r : V} (h : Does P G im f args r) (ha : ∀ a ∈ args, Free true a) (hk : K r H) : callK P G q f args H K :=
  callK_of_quiet (fun T => h.quiet ha _) hk

/-- A sealed call that borrows. -/
theorem Does.callB {q : Bool} {f : Nat} {args args' : List V} {H : List Blk} {K : V → List Blk → Prop} {r : V} (h : Does P G false f args' r) (ha : Frzs true H args args') (hk : K r H) : callK P G q f args H K :=
  callK_of_quiet (fun T => h.borrow ha T) hk

end
end Go.MW

/- A row's arguments: what they read as, as abstract values; and a row's run. -/
namespace Go.MW
open Go Go.RowKit Go.ChangeShapes Go.WideShapes Go.ChangeAt
set_option linter.unusedVariables false
set_option linter.unusedSimpArgs false

/-- A value from its cells. -/
def mkV (P : Program) (t : TypeId) (cs : List V) : V :=
  match P.underlying t with
  | some (.struct _) => .agg cs
  | _ => cs.getD 0 .junk

def TypFs (p : TypeId → List V → Prop) : List Field → List V → Prop
  | [], vs => vs = []
  | f :: fs, vs => ∃ a b, vs = a ++ b ∧ p f.type a ∧ TypFs p fs b

/-- Cells of a value of a type; no text and no slice is longer than M. -/
def TypN (P : Program) (M : Nat) : Nat → TypeId → List V → Prop
  | 0, _, _ => False
  | n + 1, t, vs => match P.underlying t with
    | some .bool => ∃ b, vs = [.bool b]
    | some (.int k) => ∃ m, vs = [.int k m] ∧ (Lit.int k m).wf = true
    | some .string => ∃ s, vs = [.str s] ∧ s.length ≤ M
    | some (.slice e) => vs = [.nils] ∨ ∃ xs, vs = [.vs xs] ∧ xs.length ≤ M ∧ ∀ x ∈ xs, ∃ cs, x = mkV P e cs ∧ TypN P M n e cs
    | some (.struct fs) => TypFs (TypN P M n) fs.toList vs
    | _ => False

/-- A value of a type. -/
def Typ (P : Program) (M : Nat) (t : TypeId) (v : V) : Prop := ∃ n cs, v = mkV P t cs ∧ TypN P M n t cs

/-- Fields that lie one behind the other. -/
def laidFs (P : Program) : Nat → List Field → Option Nat
  | off, [] => some off
  | off, f :: fs => if f.offset = off then laidFs P (off + P.cellsOf f.type) fs else none

/-- Types that are read here. -/
def okT (P : Program) : Nat → TypeId → Bool
  | 0, _ => false
  | n + 1, t => match P.underlying t with
    | some .bool | some (.int _) | some .string => true
    | some (.slice e) => P.cellsOf e != 0 && okT P n e
    | some (.struct fs) => laidFs P 0 fs.toList == some (P.cellsOf t) && fs.toList.all fun f => okT P n f.type
    | _ => false

/-- A measure that bounds lengths. -/
structure Meas {H : Type} (μ : DataW H → Nat) : Prop where
  str : ∀ bs, bs.length ≤ μ (.lit (.string bs))
  len : ∀ es sp, es.length ≤ μ (.slice es sp)
  el : ∀ es sp, ∀ e ∈ es, μ e ≤ μ (.slice es sp)
  part : ∀ ps, ∀ p ∈ ps, μ p ≤ μ (.agg ps)

section
variable {P : Program} {H : Type} {enc : TypeId × Value → H} {w : World} {spare : Nat → Bool}

/-- Cells that are free values, and stand so. -/
structure Cs (w : World) (vs : List V) (cs : List Value) : Prop where
  len : vs.length = cs.length
  vr : ∀ i, i < vs.length → VR (fun _ => none) (fun r => r < w.heap.size) w (vs.getD i .junk) (cs.getD i undef)
  free : ∀ i, i < vs.length → Free true (vs.getD i .junk)

theorem Cs.append {vs vs' : List V} {cs cs' : List Value} (h : Cs w vs cs) (k : Cs w vs' cs') : Cs w (vs ++ vs') (cs ++ cs') := by
  refine ⟨by simp [h.len, k.len], fun i hi => ?_, fun i hi => ?_⟩
  · by_cases h1 : i < vs.length
    · rw [getD_left h1]
      have := h.vr i h1
      simpa [List.getD_eq_getElem?_getD, List.getElem?_append_left (show i < cs.length by rw [← h.len]; exact h1)] using this
    · rw [getD_right (by omega)]
      have := k.vr (i - vs.length) (by simp at hi; omega)
      simpa [List.getD_eq_getElem?_getD, List.getElem?_append_right (show cs.length ≤ i by rw [← h.len]; omega), h.len] using this
  · by_cases h1 : i < vs.length
    · rw [getD_left h1]; exact h.free i h1
    · rw [getD_right (by omega)]; exact k.free _ (by simp at hi; omega)

theorem Cs.one {v : V} {c : Value} (h : VR (fun _ => none) (fun r => r < w.heap.size) w v c) (hf : Free true v) : Cs w [v] [c] :=
  ⟨rfl, fun i hi => by obtain rfl : i = 0 := (by simpa using hi); exact h, fun i hi => by obtain rfl : i = 0 := (by simpa using hi); exact hf⟩

theorem mapM_some {α β : Type} {g : α → Option β} : ∀ {l : List α} {r : List β}, l.mapM g = some r → r.length = l.length ∧ ∀ (i : Nat) (x : α), l[i]? = some x → ∃ y, g x = some y ∧ r[i]? = some y
  | [], r, h => by simp at h; subst h; simp
  | x :: l, r, h => by
    simp only [List.mapM_cons, Option.bind_eq_bind, Option.pure_def] at h
    cases hx : g x with
    | none => simp [hx] at h
    | some y =>
      cases hl : l.mapM g with
      | none => simp [hx, hl] at h
      | some ys =>
        simp [hx, hl] at h
        subst h
        obtain ⟨h1, h2⟩ := mapM_some hl
        refine ⟨by simp [h1], fun i z hz => ?_⟩
        cases i with
        | zero => simp at hz; subst hz; exact ⟨y, hx, rfl⟩
        | succ i => simpa using h2 i z (by simpa using hz)

theorem cells_spec {base n : Nat} {a : Addr} {cs : List Value} (h : w.cells? base a n = some cs) : cs.length = n ∧ ∀ i, i < n → w.cell? (a.add i) = some (cs.getD i undef) := by
  unfold World.cells? at h
  split at h
  · obtain ⟨h1, h2⟩ := mapM_some h
    refine ⟨by simpa using h1, fun i hi => ?_⟩
    obtain ⟨y, h3, h4⟩ := h2 i i (by simp [hi])
    rw [h3, List.getD_eq_getElem?_getD, h4]
    rfl
  · cases h

theorem cell_spot {a : Addr} {v : Value} (h : w.cell? a = some v) : a.spot = none ∧ a.block < w.heap.size := by
  unfold World.cell? at h
  split at h
  · rename_i c t fz hb
    split at h
    · cases h
    · rename_i hs
      exact ⟨by simpa using hs, (Array.getElem?_eq_some_iff.1 hb).1⟩
  · cases h

theorem add_add (a : Addr) (i j : Nat) (hs : a.spot = none) : (a.add i).add j = ⟨a.block, a.off + (i + j), none⟩ := by
  rw [add_eq hs, add_eq rfl]
  simp [Nat.add_assoc]

theorem mkV_cells {M n : Nat} {t : TypeId} {cs : List V} (h : TypN P M n t cs) : (mkV P t cs).cells = cs := by
  cases n with
  | zero => exact h.elim
  | succ n =>
    unfold TypN at h
    unfold mkV
    split at h
    · obtain ⟨b, rfl⟩ := h; simp [*, V.cells]
    · obtain ⟨m, rfl, _⟩ := h; simp [*, V.cells]
    · obtain ⟨s, rfl, _⟩ := h; simp [*, V.cells]
    · rcases h with rfl | ⟨xs, rfl, _⟩ <;> simp [*, V.cells]
    · simp [*, V.cells]
    · exact h.elim

theorem fs_typ {M n fuel : Nat} {held : Bool} {base : Nat} {μ : DataW H → Nat} {cs : List Value} (hb : ∀ (t : TypeId) (cs : List Value) (x : DataW H × List MemPlace), okT P n t = true → DataW.trod enc P w base spare held fuel t cs = some x → (M = maxLen ∨ Meas μ ∧ μ x.1 ≤ M) → cs.length = P.cellsOf t → ∃ vs, TypN P M n t vs ∧ Cs w vs cs) :
    ∀ (fs : List Field) (off e : Nat), laidFs P off fs = some e → (∀ f ∈ fs, okT P n f.type = true ∧ ∃ x, DataW.trod enc P w base spare held fuel f.type ((cs.drop f.offset).take (P.cellsOf f.type)) = some x ∧ (M = maxLen ∨ Meas μ ∧ μ x.1 ≤ M)) → e ≤ cs.length →
      off ≤ e ∧ ∃ vs, TypFs (TypN P M n) fs vs ∧ Cs w vs ((cs.drop off).take (e - off))
  | [], off, e, hl, _, _ => by
    simp [laidFs] at hl
    subst hl
    exact ⟨Nat.le_refl _, [], rfl, by simp, by simp, by simp⟩
  | f :: fs, off, e, hl, hf, he => by
    simp only [laidFs] at hl
    split at hl <;> try (simp at hl; done)
    rename_i hoff
    obtain ⟨hle, vs, h1, h2⟩ := fs_typ hb fs _ e hl (fun g hg => hf g (List.mem_cons_of_mem _ hg)) he
    obtain ⟨hok, x, hx, hm⟩ := hf f List.mem_cons_self
    obtain ⟨ws, h3, h4⟩ := hb f.type _ x hok hx hm (by simp; omega)
    refine ⟨by omega, ws ++ vs, ⟨ws, vs, rfl, h3, h1⟩, ?_⟩
    have := h4.append h2
    rw [hoff] at this
    have e1 : (cs.drop off).take (e - off) = (cs.drop off).take (P.cellsOf f.type) ++ (cs.drop (off + P.cellsOf f.type)).take (e - (off + P.cellsOf f.type)) := by
      rw [← List.drop_drop, show e - off = P.cellsOf f.type + (e - (off + P.cellsOf f.type)) by omega, List.take_add]
    rw [e1]
    exact this

theorem trod_typ {M : Nat} {held : Bool} {base : Nat} {μ : DataW H → Nat} : ∀ (n fuel : Nat) (t : TypeId) (cs : List Value) (x : DataW H × List MemPlace), okT P n t = true → DataW.trod enc P w base spare held fuel t cs = some x → (M = maxLen ∨ Meas μ ∧ μ x.1 ≤ M) → cs.length = P.cellsOf t →
    ∃ vs, TypN P M n t vs ∧ Cs w vs cs
  | 0, fuel, t, cs, x, hok, _, _, _ => by simp [okT] at hok
  | n + 1, fuel, t, cs, x, hok, h, hm, hl => by
    unfold okT at hok
    split at hok
    · rename_i hu
      obtain ⟨b, rfl, rfl⟩ := DataW.trod_bool hu h
      exact ⟨[.bool b], by simp [TypN, hu], .one (.bool b) (.bool b)⟩
    · rename_i k hu
      obtain ⟨m, rfl, rfl, hw⟩ := DataW.trod_int hu h
      exact ⟨[.int k m], by simp only [TypN, hu]; exact ⟨m, rfl, hw⟩, .one (.int k m) (.int k m)⟩
    · rename_i hu
      obtain ⟨s, rfl, rfl, hs⟩ := DataW.trod_string hu h
      refine ⟨[.str s.data.toList], ?_, ?_⟩
      · simp only [TypN, hu]
        refine ⟨_, rfl, ?_⟩
        have hsz : s.data.toList.length = s.size := Array.length_toList
        rcases hm with rfl | ⟨hM, hm⟩
        · omega
        · exact Nat.le_trans (hM.str _) hm
      · have := VR.str (Φ := fun _ => none) (Z := fun r => r < w.heap.size) (w := w) s.data.toList
        rw [Array.toArray_toList] at this
        exact .one this (.str _)
    · rename_i e hu
      rw [Bool.and_eq_true, bne_iff_ne] at hok
      obtain ⟨hce, hok⟩ := hok
      rcases DataW.trod_slice hu h with ⟨rfl, rfl⟩ | ⟨a, len, cap, elems, rest, fuel', rfl, rfl, rfl, _, hlc, hcm, hel, helem, _⟩
      · exact ⟨[.nils], by simp [TypN, hu], .one .nils .nils⟩
      · have hexp : ∀ i, i < len → ∃ (y : DataW H × List MemPlace) (ec : List Value) (vs : List V), elems[i]? = some y ∧ w.cells? base (a.add (i * P.cellsOf e)) (P.cellsOf e) = some ec ∧ TypN P M n e vs ∧ Cs w vs ec := by
          intro i hi
          have h1 := helem i hi
          have h2 : elems[i]? = some (elems[i]'(by omega)) := List.getElem?_eq_getElem (by omega)
          rw [h2] at h1
          cases hc : w.cells? base (a.add (i * P.cellsOf e)) (P.cellsOf e) with
          | none => rw [hc] at h1; simp at h1
          | some ec =>
            rw [hc] at h1
            simp only [Option.bind_some] at h1
            have hec := (cells_spec hc).1
            have hmem : (elems[i]'(by omega)).1 ∈ elems.map (·.1) := List.mem_map.2 ⟨_, List.getElem_mem _, rfl⟩
            obtain ⟨vs, h3, h4⟩ := trod_typ n fuel' e ec _ hok h1 (hm.imp id fun ⟨hM, hm⟩ => ⟨hM, Nat.le_trans (hM.el _ _ _ hmem) hm⟩) hec
            exact ⟨_, ec, vs, h2, rfl, h3, h4⟩
        have hch : ∃ F : Nat → List V, ∀ i, i < len → ∃ ec : List Value, w.cells? base (a.add (i * P.cellsOf e)) (P.cellsOf e) = some ec ∧ TypN P M n e (F i) ∧ Cs w (F i) ec := by
          refine ⟨fun i => if hi : i < len then Classical.choose (Classical.choose_spec (Classical.choose_spec (hexp i hi))) else [], fun i hi => ?_⟩
          have := Classical.choose_spec (Classical.choose_spec (Classical.choose_spec (hexp i hi)))
          simp only [hi, dif_pos]
          exact ⟨_, this.2.1, this.2.2.1, this.2.2.2⟩
        obtain ⟨F, hF⟩ := hch
        have hxs : ∀ i, i < len → ((List.range len).map fun i => mkV P e (F i)).getD i .junk = mkV P e (F i) := by
          intro i hi
          simp [List.getD_eq_getElem?_getD, hi]
        have hlen : ((List.range len).map fun i => mkV P e (F i)).length = len := by simp
        refine ⟨[.vs ((List.range len).map fun i => mkV P e (F i))], ?_, ?_⟩
        · simp only [TypN, hu]
          refine .inr ⟨_, rfl, ?_, fun y hy => ?_⟩
          · rw [hlen]
            rcases hm with rfl | ⟨hM, hm⟩
            · omega
            · refine Nat.le_trans ?_ (Nat.le_trans (hM.len _ _) hm)
              simp [hel]
          · simp only [List.mem_map, List.mem_range] at hy
            obtain ⟨i, hi, rfl⟩ := hy
            obtain ⟨ec, _, h2, _⟩ := hF i hi
            exact ⟨_, rfl, h2⟩
        · have hspot : 0 < len → a.spot = none ∧ a.block < w.heap.size := by
            intro h0
            obtain ⟨ec, h1, _⟩ := hF 0 h0
            have h2 := (cells_spec h1).2 0 (by omega)
            rw [Nat.zero_mul] at h2
            exact cell_spot h2
          have hcells : ∀ i, i < len → (F i).length = P.cellsOf e := by
            intro i hi
            obtain ⟨ec, h1, _, h3⟩ := hF i hi
            rw [h3.len, (cells_spec h1).1]
          have hmk : ∀ i, i < len → (mkV P e (F i)).cells = F i := fun i hi => by
            obtain ⟨ec, _, h2, _⟩ := hF i hi
            exact mkV_cells h2
          refine .one ?_ ?_
          · rcases Nat.eq_zero_or_pos len with h0 | h0
            · subst h0
              exact .vs0 _ _
            · have := VR.vs (Φ := fun _ => none) (Z := fun r => r < w.heap.size) (w := w) ((List.range len).map fun i => mkV P e (F i)) a (P.cellsOf e) cap (fun i j => (w.cell? ⟨a.block, a.off + (i * P.cellsOf e + j), none⟩).getD undef) (hspot h0).1 (hspot h0).2 (by omega)
                (fun i hi => by rw [hlen] at hi; rw [hxs i hi, hmk i hi, hcells i hi]) (fun i j hi hj => by
                  rw [hlen] at hi
                  obtain ⟨ec, h1, _⟩ := hF i hi
                  have := (cells_spec h1).2 j hj
                  rw [add_add _ _ _ (hspot h0).1] at this
                  rw [this]; rfl) (fun i j hi hj => by
                  rw [hlen] at hi
                  rw [hxs i hi, hmk i hi]
                  obtain ⟨ec, h1, _, h3⟩ := hF i hi
                  have := (cells_spec h1).2 j hj
                  rw [add_add _ _ _ (hspot h0).1] at this
                  rw [this]
                  exact h3.vr j (by rw [hcells i hi]; exact hj))
              rw [hlen] at this
              exact this
          · refine .vs rfl fun i j hi hj => ?_
            rw [hlen] at hi
            rw [hxs i hi, hmk i hi] at hj ⊢
            obtain ⟨ec, h1, _, h3⟩ := hF i hi
            exact h3.free j hj
    · rename_i fs hu
      rw [Bool.and_eq_true, beq_iff_eq, List.all_eq_true] at hok
      obtain ⟨hlaid, hall⟩ := hok
      obtain ⟨xs, fuel', rfl, rfl, _, hxl, hxs⟩ := DataW.trod_struct hu h
      obtain ⟨_, vs, h1, h2⟩ := fs_typ (M := M) (n := n) (fuel := fuel') (μ := μ) (cs := cs) (fun t cs x a b c d => trod_typ n fuel' t cs x a b c d) fs.toList 0 _ hlaid (fun f hf => by
        refine ⟨hall f hf, ?_⟩
        obtain ⟨i, hi, rfl⟩ := List.getElem_of_mem hf
        have hi' : i < fs.size := by simpa using hi
        have := hxs i fs[i] (Array.getElem?_eq_getElem hi')
        have hix : i < xs.length := by omega
        rw [List.getElem?_eq_getElem hix] at this
        refine ⟨xs[i], by simpa using this, hm.imp id fun ⟨hM, hm⟩ => ⟨hM, Nat.le_trans (hM.part _ _ (List.mem_map.2 ⟨_, List.getElem_mem _, rfl⟩)) hm⟩⟩) (by omega)
      refine ⟨vs, by simpa only [TypN, hu] using h1, ?_⟩
      have e1 : (cs.drop 0).take (P.cellsOf t - 0) = cs := by
        rw [List.drop_zero, Nat.sub_zero, ← hl, List.take_length]
      rwa [e1] at h2
    · cases hok

end
end Go.MW

/- A row of the kind 'it returns true; its arguments read as they did', from what its function does on abstract values. -/
namespace Go.MW
open Go Go.RowKit Go.ChangeShapes Go.WideShapes Go.ChangeAt
set_option linter.unusedVariables false
set_option linter.unusedSimpArgs false

def TypAll (P : Program) (M : Nat) : List TypeId → List V → Prop
  | [], [] => True
  | t :: ts, v :: vs => Typ P M t v ∧ TypAll P M ts vs
  | _, _ => False

/-- A type that an argument may have here. -/
def okA (P : Program) (n : Nat) (t : TypeId) : Bool :=
  okT P n t && (match P.underlying t with | some (.struct _) => true | _ => P.cellsOf t == 1) && P.readableRec t && Nat.blt t P.types.size

section
variable {P : Program} {H : Type} {enc : TypeId × Value → H} {W W' : World} {M : Nat} {μ : DataW H → Nat}

theorem value_open {n base : Nat} {t : TypeId} {v : Value} {d : DataW H} {ps : List MemPlace} {sp : Nat → Bool} (hok : okT P n t = true) (hc : (match P.underlying t with | some (.struct _) => true | _ => P.cellsOf t == 1) = true) (hw : Value.okWide P W .any base t v)
    (h : DataW.Trod enc P W 0 sp true t v d ps) (hm : M = maxLen ∨ Meas μ ∧ μ d ≤ M) : ∃ V, Typ P M t V ∧ VR (fun _ => none) (fun r => r < W.heap.size) W V v ∧ Free true V := by
  obtain ⟨fuel, hf⟩ := h
  by_cases hs : ∃ fs, P.underlying t = some (.struct fs)
  · obtain ⟨fs, hu⟩ := hs
    unfold Value.okWide at hw
    rw [hu] at hw
    obtain ⟨cs, rfl, hsz, _⟩ := hw
    obtain ⟨vs, h1, h2⟩ := trod_typ (M := M) (μ := μ) n fuel t _ _ hok hf hm (by simpa [Value.cells] using hsz)
    refine ⟨.agg vs, ⟨n, vs, by simp [mkV, hu], h1⟩, .agg _ _ ?_ fun i hi => ?_, .agg h2.free⟩
    · have := h2.len; simp [Value.cells] at this; omega
    · have := h2.vr i hi
      simpa [Value.cells, Array.getD_eq_getD_getElem?, List.getD_eq_getElem?_getD] using this
  · have hc1 : P.cellsOf t = 1 := by
      split at hc
      · rename_i fs hu; exact absurd ⟨fs, hu⟩ hs
      · simpa using hc
    have hone : v.cells = #[v] := by
      cases v <;> try rfl
      rename_i cs
      exfalso
      cases n with
      | zero => simp [okT] at hok
      | succ n =>
        unfold okT at hok
        split at hok
        · rename_i hu; simp [Value.okWide, hu, Cell.okWide, Cell.ok] at hw
        · rename_i hu; simp [Value.okWide, hu, Cell.okWide, Cell.ok] at hw
        · rename_i hu; simp [Value.okWide, hu, Cell.okWide, Cell.ok] at hw
        · rename_i hu; simp [Value.okWide, hu, Cell.okWide, Cell.ok] at hw
        · rename_i fs hu; exact hs ⟨fs, hu⟩
        · cases hok
    rw [hone] at hf
    obtain ⟨vs, h1, h2⟩ := trod_typ (M := M) (μ := μ) n fuel t _ _ hok hf hm (by simpa using hc1.symm)
    have hl : vs.length = 1 := by simpa using h2.len
    obtain ⟨x, rfl⟩ := List.length_eq_one_iff.1 hl
    refine ⟨x, ⟨n, [x], ?_, h1⟩, by simpa using h2.vr 0 (by simp), by simpa using h2.free 0 (by simp)⟩
    unfold mkV
    split
    · rename_i fs hu; exact absurd ⟨fs, hu⟩ hs
    · rfl

theorem args_open {n base : Nat} {sp : Nat → Bool} : ∀ (ts : List TypeId) (vs : List Value) (ds : List (DataW H)) (ps : List MemPlace), DataW.TrodAll enc P W 0 sp true ts vs ds ps → (∀ (j : Nat) t v, ts[j]? = some t → vs[j]? = some v → Value.okWide P W .any base t v) →
    ts.all (okA P n) = true → (M = maxLen ∨ Meas μ ∧ ∀ d ∈ ds, μ d ≤ M) → ∃ Vs, TypAll P M ts Vs ∧ Vs.length = vs.length ∧ ds.length = ts.length ∧ ∀ i, i < Vs.length → VR (fun _ => none) (fun r => r < W.heap.size) W (Vs.getD i .junk) (vs.getD i undef) ∧ Free true (Vs.getD i .junk)
  | [], [], [], ps, _, _, _, _ => ⟨[], trivial, rfl, rfl, by simp⟩
  | t :: ts, v :: vs, d :: ds, ps, h, hv, hok, hm => by
    obtain ⟨p, q, h1, h2, rfl⟩ := h
    simp only [List.all_cons, Bool.and_eq_true, okA] at hok
    obtain ⟨⟨⟨⟨h3, h4⟩, _⟩, _⟩, h6⟩ := hok
    obtain ⟨V0, g1, g2, g3⟩ := value_open (M := M) (μ := μ) h3 h4 (hv 0 t v rfl rfl) h1 (hm.imp id fun ⟨a, b⟩ => ⟨a, b d (by simp)⟩)
    obtain ⟨Vs, k1, k2, k3, k4⟩ := args_open ts vs ds q h2 (fun j t v a b => hv (j + 1) t v (by simpa using a) (by simpa using b)) (by simpa [okA] using h6) (hm.imp id fun ⟨a, b⟩ => ⟨a, fun d hd => b d (by simp [hd])⟩)
    refine ⟨V0 :: Vs, ⟨g1, k1⟩, by simp [k2], by simp [k3], fun i hi => ?_⟩
    cases i with
    | zero => exact ⟨g2, g3⟩
    | succ i => simpa using k4 i (by simpa using hi)
  | [], [], _ :: _, _, h, _, _, _ => h.elim
  | [], _ :: _, _, _, h, _, _, _ => h.elim
  | _ :: _, [], _, _, h, _, _, _ => h.elim
  | _ :: _, _ :: _, [], _, h, _, _, _ => h.elim

theorem args_stay {n : Nat} (hl : laidOutB P = true) (hb : Below W.heap.size W W') : ∀ (ts : List TypeId) (vs : List Value) (ds : List (DataW H)) (ps : List MemPlace), DataW.TrodAll enc P W 0 (fun _ => true) true ts vs ds ps → ts.all (okA P n) = true →
    DataW.TrodAll enc P W' 0 (fun b => decide (b < W.heap.size)) true ts vs ds ps
  | [], [], [], ps, h, _ => h
  | t :: ts, v :: vs, d :: ds, ps, h, hok => by
    obtain ⟨p, q, h1, h2, rfl⟩ := h
    simp only [List.all_cons, Bool.and_eq_true, okA] at hok
    obtain ⟨⟨⟨_, h5⟩, h5'⟩, h6⟩ := hok
    refine ⟨p, q, ?_, args_stay hl hb ts vs ds q h2 (by simpa [okA] using h6), rfl⟩
    refine Below.trod hl h5 (Nat.le_of_ble_eq_true h5') h1 hb ?_
    obtain ⟨m, hm⟩ := h1
    exact DataW.trod_lt m _ _ _ hm
  | [], [], _ :: _, _, h, _ => h.elim
  | [], _ :: _, _, _, h, _ => h.elim
  | _ :: _, [], _, _, h, _ => h.elim
  | _ :: _, _ :: _, [], _, h, _ => h.elim

variable {G : Nat → Option (List V)}

/-- A sealed call's run, on values that are told. -/
theorem Does.run {im : Bool} {f : Nat} {args : List V} {rargs : Array Value} {b : Bool} (h : Does P G im f args (.bool b)) (hg : GlobOK G (fun r => r < W.heap.size) W) (ha : VRs (fun _ => none) (fun r => r < W.heap.size) W args rargs) :
    Calls P f rargs W fun e W' => e = .returned (.bool b) ∧ Below W.heap.size W W' := by
  have hrel : Rel G ⟨W.heap.size, fun _ => none⟩ (fun _ => none) (fun r => r < W.heap.size) [] W := ⟨fun b p hp => (by cases hp), fun b b' p p' hp => (by cases hp), fun b p hp => (by cases hp), fun _ h => h, Nat.le_refl _, hg, fun b k hb => (by cases hb)⟩
  refine (h ⟨W.heap.size, fun _ => none⟩ _ _ W rargs hrel ha).mono ?_
  rintro e W' ⟨rv, r0, H', Φ', Z', rfl, hfr, hv, hr', hev⟩
  have : r0 = .bool b := by cases hfr; rfl
  subst this
  obtain rfl := hv.bool_inv
  exact ⟨rfl, hev.below⟩

/-- The row's contract. -/
theorem law_contract {f n : Nat} {fn : Func} {s : ChangeSpec} {tb : TypeId} (hlaid : laidOutB P = true) (hok : fn.params.toList.all (okA P n) = true) (hres : fn.resultTypes = #[tb]) (hb : P.underlying tb = some .bool) (hvars : s.vars = [])
    (hs : ∀ ds : List (DataW H), ds.length = fn.params.size → s.fn H ds = { results := [.lit (.bool true)], args := ds }) {base : Nat} {args : Array Value} {ds gs : List (DataW H)} {before : List MemPlace} (hm : M = maxLen ∨ Meas μ ∧ ∀ d ∈ ds, μ d ≤ M)
    (hg : GlobOK G (fun r => r < W.heap.size) W) (hfn : ∀ Vs, TypAll P M fn.params.toList Vs → (∀ V ∈ Vs, Free true V) → Does P G true f Vs (.bool true))
    (hval : ∀ (j : Nat) t v, fn.params[j]? = some t → args[j]? = some v → Value.okWide P W .any base t v) (hW : DataW.Whole enc P fn.params.toList s.vars false W args.toList ds gs before) :
    Calls P f args W fun e W' => ∃ v, e = .returned v ∧ s.post enc P fn false true false false W args v W' := by
  have hW' := hW
  obtain ⟨p, q, hA, hV, rfl, hfz, hnd⟩ := hW
  obtain ⟨Vs, h1, h2, h3, h4⟩ := args_open (M := M) (μ := μ) (n := n) (base := base) _ _ _ _ hA (fun j t v a b => hval j t v (by simpa using a) (by simpa using b)) hok hm
  have ha : VRs (fun _ => none) (fun r => r < W.heap.size) W Vs args := ⟨by simpa using h2.symm, fun i hi => by
    have := (h4 i hi).1
    simpa [Array.getD_eq_getD_getElem?, List.getD_eq_getElem?_getD] using this⟩
  have hfree : ∀ V ∈ Vs, Free true V := by
    intro V hV'
    obtain ⟨i, hi, rfl⟩ := List.getElem_of_mem hV'
    have := (h4 i hi).2
    simpa [List.getD_eq_getElem?_getD, hi] using this
  refine (Does.run (hfn Vs h1 hfree) hg ha).mono ?_
  rintro e W' ⟨rfl, hbel⟩
  rw [hvars] at hV
  obtain ⟨rfl, rfl⟩ := trodVars_none hV
  have hse := hs ds (by simpa using h3)
  refine ⟨_, rfl, ds, [], p ++ [], [], p, [], hW', ?_, ?_, ?_, hbel.frame _, fun h => by cases h⟩
  · rw [List.append_nil, hse, hres]
    exact trodAll_mk1 ⟨1, by simp [DataW.trod, hb, Value.cells]⟩
  · rw [List.append_nil, hse]
    exact args_stay hlaid hbel _ _ _ _ hA hok
  · rw [List.append_nil, hse, hvars]
    rfl

end
end Go.MW

/- Symbolic steps as equations; how tests are split. -/
namespace Go.MW
open Go Go.RowKit
set_option linter.unusedVariables false
set_option linter.unusedSimpArgs false

def s2bK (x : V) (C : (Nat → V) → Blk → Prop) : Prop := match x with
  | .str s => C (fun q => .hs q s.length 0 0 s.length none 1) (.row 1 (s.map u8V) true false)
  | _ => False

def atH (K : V → List Blk → Prop) (H : List Blk) : V → Prop := fun v => K v H
theorem atH_ap {K : V → List Blk → Prop} {H : List Blk} {v : V} : atH K H v = (K v H) := rfl
def bdk (K : V → List Blk → Prop) (H : List Blk) : List V → Prop := fun cs => K (.agg cs) H
theorem bdk_ap {K : V → List Blk → Prop} {H : List Blk} {cs : List V} : bdk K H cs = (K (.agg cs) H) := rfl
def bsk (len : Nat) (sz : Nat) (K : V → List Blk → Prop) (H : List Blk) : List V → Prop := fun xs => K (.hs H.length len 0 0 len (some len) sz) (H ++ [.row sz xs false false])
theorem bsk_ap {len : Nat} {sz : Nat} {K : V → List Blk → Prop} {H : List Blk} {xs : List V} : bsk len sz K H xs = (K (.hs H.length len 0 0 len (some len) sz) (H ++ [.row sz xs false false])) := rfl
def mkk (K : V → List Blk → Prop) (H : List Blk) : (Nat → V) → Blk → Prop := fun r k => K (r H.length) (H ++ [k])
theorem mkk_ap {K : V → List Blk → Prop} {H : List Blk} {r : Nat → V} {k : Blk} : mkk K H r k = (K (r H.length) (H ++ [k])) := rfl
def apk (sz : Nat) (by_ : Nat) (x : V) (H : List Blk) (K : V → List Blk → Prop) : List V → Prop := fun ys => appK sz by_ x ys H K
theorem apk_ap {sz : Nat} {by_ : Nat} {x : V} {H : List Blk} {K : V → List Blk → Prop} {ys : List V} : apk sz by_ x H K ys = (appK sz by_ x ys H K) := rfl
def cpn (K : V → List Blk → Prop) (n : Nat) : List Blk → Prop := fun H' => K (.int .i64 n) H'
theorem cpn_ap {K : V → List Blk → Prop} {n : Nat} {H' : List Blk} : cpn K n H' = (K (.int .i64 n) H') := rfl
def jkk (K : V → List Blk → Prop) : List Blk → Prop := fun H' => K .junk H'
theorem jkk_ap {K : V → List Blk → Prop} {H' : List Blk} : jkk K H' = (K .junk H') := rfl
def cpl (sz : Nat) (x : V) (ys : List V) (H : List Blk) (K : V → List Blk → Prop) : V → Prop := fun l => match l with
  | .int _ n => wrK sz x (ys.take n.toNat) H fun H' => K (.int .i64 (Nat.min ys.length n.toNat)) H'
  | _ => False
theorem cpl_ap {sz : Nat} {x : V} {ys : List V} {H : List Blk} {K : V → List Blk → Prop} {k : IntKind} {n : Int} : cpl sz x ys H K (.int k n) = wrK sz x (ys.take n.toNat) H (cpn K (Nat.min ys.length n.toNat)) := rfl
def cll (sz : Nat) (x z : V) (H : List Blk) (K : V → List Blk → Prop) : V → Prop := fun l => match l with
  | .int _ n => wrK sz x (List.replicate n.toNat z) H fun H' => K .junk H'
  | _ => False
theorem cll_ap {sz : Nat} {x z : V} {H : List Blk} {K : V → List Blk → Prop} {k : IntKind} {n : Int} : cll sz x z H K (.int k n) = wrK sz x (List.replicate n.toNat z) H (jkk K) := rfl
def azk (sz by_ : Nat) (z x : V) (H : List Blk) (K : V → List Blk → Prop) : V → Prop := fun l => match l with
  | .int _ n => (0 ≤ n ∧ n < 2 ^ 63 ∧ n * (by_ : Int) ≤ 2 ^ 48) ∧ appK sz by_ x (List.replicate n.toNat z) H K
  | _ => False
theorem azk_ap {sz by_ : Nat} {z x : V} {H : List Blk} {K : V → List Blk → Prop} {k : IntKind} {n : Int} : azk sz by_ z x H K (.int k n) = ((0 ≤ n ∧ n < 2 ^ 63 ∧ n * (by_ : Int) ≤ 2 ^ 48) ∧ appK sz by_ x (List.replicate n.toNat z) H K) := rfl
def cpk (sz : Nat) (x : V) (H : List Blk) (K : V → List Blk → Prop) : List V → Prop := fun ys => lenK 1 H x (cpl sz x ys H K)
theorem cpk_ap {sz : Nat} {x : V} {H : List Blk} {K : V → List Blk → Prop} {ys : List V} : cpk sz x H K ys = (lenK 1 H x (cpl sz x ys H K)) := rfl
def b2k (K : V → List Blk → Prop) (H : List Blk) : List V → Prop := fun xs => bytesK xs (atH K H)
theorem b2k_ap {K : V → List Blk → Prop} {H : List Blk} {xs : List V} : b2k K H xs = (bytesK xs (atH K H)) := rfl

theorem stepM_mono {P : Program} {G : Nat → Option (List V)} {q : Bool} {m : MOp} {fr : Fr} {H : List Blk} {K K' : V → List Blk → Prop} (h : stepM P G q m fr H K) (hk : ∀ v H', K v H' → K' v H') : stepM P G q m fr H K' := by
  by_cases hd : m.det = true
  · obtain ⟨v, H', h1, h2⟩ := stepM_det hd h
    exact h2 K' (hk v H' h1)
  · cases m <;> first | exact absurd rfl hd | skip
    simp only [stepM, nxtK] at h ⊢
    split at h
    · obtain ⟨h1, h⟩ := h
      refine ⟨h1, ?_⟩
      split at h
      · obtain ⟨h2, h⟩ := h
        refine ⟨h2, ?_⟩
        split at h
        · exact ⟨h.1, fun hs => hk _ _ (h.2.1 hs), fun e he hn => hk _ _ (h.2.2 e he hn)⟩
        · exact h.elim
      · exact h.elim
    · exact h.elim
theorem gdK_mono {fr : Fr} {g : Option (Nat × Bool)} {p q p' q' : Prop} (h : gdK fr g p q) (hp : p → p') (hq : q → q') : gdK fr g p' q' := by
  unfold gdK at h ⊢
  split at h
  · exact hp h
  · split at h
    · exact ⟨fun e => hp (h.1 e), fun e => hq (h.2 e)⟩
    · exact hq h
    · exact h
theorem mops_mono {P : Program} {G : Nat → Option (List V)} : ∀ (l : List MO) {K K' : St → Prop} (st : St), (∀ st, K st → K' st) → mops P G l K st → mops P G l K' st
  | [], _, _, st, hk, h => hk st h
  | m :: r, _, _, st, hk, h => gdK_mono h (fun h => stepM_mono h fun _ _ h => mops_mono r _ hk h) (fun h => mops_mono r _ hk h)
theorem mwp_mono {P : Program} {G : Nat → Option (List V)} : ∀ (c : MC) {Q Q' : Exit → St → Prop} {st : St}, (∀ e st, Q e st → Q' e st) → mwp P G c Q st → mwp P G c Q' st
  | .skip, _, _, _, hq, h => hq _ _ h
  | .reg _ ops, _, _, _, hq, h => mops_mono ops _ (hq .normal) h
  | .seq a b, _, _, _, hq, h => mwp_mono a (fun e st h => by
      cases e with
      | normal => exact mwp_mono b hq h
      | _ => exact hq _ _ h) h
  | .cond c a b, _, _, st, hq, h => by
    simp only [mwp, condK] at h ⊢
    split at h
    · exact ⟨fun e => mwp_mono a hq (h.1 e), fun e => mwp_mono b hq (h.2 e)⟩
    · exact h
  | .block id c, _, _, _, hq, h => mwp_mono c (fun e st h => by
      cases e with
      | exit i =>
        simp only [blockK] at h ⊢
        split at h
        · rename_i hi; rw [if_pos hi]; exact hq _ _ h
        · rename_i hi; rw [if_neg hi]; exact hq _ _ h
      | _ => exact hq _ _ h) h
  | .loop c, _, _, _, hq, ⟨I, h0, h⟩ => ⟨I, h0, fun n st hI => mwp_mono c (fun e st h => by
      cases e with
      | normal => exact h
      | _ => exact hq _ _ h) (h n st hI)⟩
  | .scope c, _, _, _, hq, h => mwp_mono c (fun e st h => by
      cases e with
      | goto l => exact h
      | _ => exact hq _ _ h) h
  | .scopeL l c r, _, _, _, hq, ⟨I, h0, h⟩ => ⟨I, mwp_mono c (fun e st h => by
      cases e with
      | goto l => exact h
      | _ => exact hq _ _ h) h0, fun n st hI => mwp_mono r (fun e st h => by
      cases e with
      | goto l => exact h
      | _ => exact hq _ _ h) (h n st hI)⟩
  | .exit _, _, _, _, hq, h => hq _ _ h
  | .ret, _, _, _, hq, h => hq _ _ h
  | .label _, _, _, _, hq, h => hq _ _ h
  | .goto _, _, _, _, hq, h => hq _ _ h
  | .bad, _, _, _, _, h => h

section
variable {P : Program} {G : Nat → Option (List V)} {q : Bool} {fr : Fr} {H : List Blk} {K : V → List Blk → Prop}
theorem st_mv {x : Opd} : stepM P G q (.mv x) fr H K = (K (ev G fr x) H) := rfl
theorem st_pick {c a b : Opd} : stepM P G q (.pick c a b) fr H K = (pickK (ev G fr c) (ev G fr a) (ev G fr b) (atH K H)) := rfl
theorem st_new {sz : Nat} {x : V} : stepM P G q (.new sz x) fr H K = (K (.ptr H.length 1 0 0) (H ++ [.row sz [x] false false])) := rfl
theorem st_box {sz : Nat} {x : Opd} : stepM P G q (.box sz x) fr H K = ((ev G fr x).solid = true ∧ (ev G fr x).cells.length = sz ∧ K (.ptr H.length 1 0 0) (H ++ [.row sz [ev G fr x] false false])) := rfl
theorem st_bslice {sz len : Nat} {z : V} {p : List (Nat × Opd)} : stepM P G q (.bslice sz z len p) fr H K = (partsS G fr sz (List.replicate len z) p (bsk len sz K H)) := rfl
theorem st_s2b {x : Opd} : stepM P G q (.s2b x) fr H K = (s2bK (ev G fr x) (mkk K H)) := rfl
theorem st_mks {sz b : Nat} {z : V} {l c : Opd} : stepM P G q (.mks sz b z l c) fr H K = (mksK sz b z (ev G fr l) (ev G fr c) (mkk K H)) := rfl
theorem st_mkm  : stepM P G q (.mkm) fr H K = (K (.map H.length) (H ++ [.map [] 0])) := rfl
theorem st_build {z : List V} {p : List (Nat × Nat × Opd)} : stepM P G q (.build z p) fr H K = (partsV G fr z p (bdk K H)) := rfl
theorem st_ld {a : Option Nat} {x : Opd} : stepM P G q (.ld a x) fr H K = (ldK a (ev G fr x) H K) := rfl
theorem st_st {n : Nat} {x y : Opd} : stepM P G q (.st n x y) fr H K = (stK n (ev G fr x) (ev G fr y) H K) := rfl
theorem st_nchk {x : Opd} : stepM P G q (.nchk x) fr H K = (nchkK (ev G fr x) (atH K H)) := rfl
theorem st_bin {op : BinOp} {x y : Opd} : stepM P G q (.bin op x y) fr H K = (binK op (ev G fr x) (ev G fr y) (atH K H)) := rfl
theorem st_eqT {neg : Bool} {ks : List Nat} {x y : Opd} : stepM P G q (.eqT neg ks x y) fr H K = (eqTK neg ks (ev G fr x) (ev G fr y) (atH K H)) := rfl
theorem st_eqB {neg : Bool} {x y : Opd} : stepM P G q (.eqB neg x y) fr H K = (eqBK neg (ev G fr x) (ev G fr y) (atH K H)) := rfl
theorem st_nilq {neg : Bool} {x : Opd} : stepM P G q (.nilq neg x) fr H K = (nilqK neg (ev G fr x) (atH K H)) := rfl
theorem st_un {op : UnOp} {x : Opd} : stepM P G q (.un op x) fr H K = (unK op (ev G fr x) (atH K H)) := rfl
theorem st_cvi {k : IntKind} {x : Opd} : stepM P G q (.cvi k x) fr H K = (cviK k (ev G fr x) (atH K H)) := rfl
theorem st_b2s {x : Opd} : stepM P G q (.b2s x) fr H K = ((ev G fr x).isStr = false ∧ elemsK H (ev G fr x) (b2k K H)) := rfl
theorem st_mkf {f : Fn} {a b : List Opd} : stepM P G q (.mkf f a b) fr H K = (K (.fn f (evs G fr a) (evs G fr b)) H) := rfl
theorem st_slS {x : Opd} {lo hi : Option Opd} : stepM P G q (.slS x lo hi) fr H K = (slSK (ev G fr x) (lo.map (ev G fr)) (hi.map (ev G fr)) (atH K H)) := rfl
theorem st_sl {sz : Nat} {x : Opd} {lo hi mx : Option Opd} : stepM P G q (.sl sz x lo hi mx) fr H K = (slK H sz (ev G fr x) (lo.map (ev G fr)) (hi.map (ev G fr)) (mx.map (ev G fr)) (atH K H)) := rfl
theorem st_slA {n sz : Nat} {x : Opd} {lo hi mx : Option Opd} : stepM P G q (.slA n sz x lo hi mx) fr H K = (slAK H n sz (ev G fr x) (lo.map (ev G fr)) (hi.map (ev G fr)) (mx.map (ev G fr)) (atH K H)) := rfl
theorem st_fa {off : Nat} {x : Opd} : stepM P G q (.fa off x) fr H K = (faK off (ev G fr x) (atH K H)) := rfl
theorem st_fld {a : Option Nat} {off : Nat} {x : Opd} : stepM P G q (.fld a off x) fr H K = (fldK a off (ev G fr x) (atH K H)) := rfl
theorem st_ia {sz : Nat} {x i : Opd} : stepM P G q (.ia sz x i) fr H K = (iaK H sz (ev G fr x) (ev G fr i) (atH K H)) := rfl
theorem st_iaA {n sz : Nat} {x i : Opd} : stepM P G q (.iaA n sz x i) fr H K = (iaAK n sz (ev G fr x) (ev G fr i) (atH K H)) := rfl
theorem st_ixA {n sz : Nat} {a : Bool} {x i : Opd} : stepM P G q (.ixA n sz a x i) fr H K = (ixAK n sz a (ev G fr x) (ev G fr i) (atH K H)) := rfl
theorem st_ixS {x i : Opd} : stepM P G q (.ixS x i) fr H K = (ixSK (ev G fr x) (ev G fr i) (atH K H)) := rfl
theorem st_ext {x : Opd} {i : Nat} : stepM P G q (.ext x i) fr H K = (extK (ev G fr x) i (atH K H)) := rfl
theorem st_len {k : Nat} {x : Opd} : stepM P G q (.len k x) fr H K = (lenK k H (ev G fr x) (atH K H)) := rfl
theorem st_lenC {n : Nat} : stepM P G q (.lenC n) fr H K = (K (.int .i64 n) H) := rfl
theorem st_app {sz b : Nat} {z : V} {x y : Opd} : stepM P G q (.app sz b z x y) fr H K = (elemsK H (ev G fr y) (apk sz b (ev G fr x) H K)) := rfl
theorem st_appZ {sz b : Nat} {z : V} {x y : Opd} : stepM P G q (.appZ sz b z x y) fr H K = (azk sz b z (ev G fr x) H K (ev G fr y)) := rfl
theorem st_capa {x : Opd} : stepM P G q (.capa x) fr H K = (capaK H (ev G fr x) (atH K H)) := rfl
theorem st_cpy {sz : Nat} {x y : Opd} : stepM P G q (.cpy sz x y) fr H K = (elemsK H (ev G fr y) (cpk sz (ev G fr x) H K)) := rfl
theorem st_clr {sz : Nat} {z : V} {x : Opd} : stepM P G q (.clr sz z x) fr H K = (lenK 1 H (ev G fr x) (cll sz (ev G fr x) z H K)) := rfl
theorem st_look {ks : List Nat} {ok : Bool} {z : V} {m k : Opd} : stepM P G q (.look ks ok z m k) fr H K = (lookK ks ok z (ev G fr m) (ev G fr k) H (atH K H)) := rfl
theorem st_mset {ks : List Nat} {m k v : Opd} : stepM P G q (.mset ks m k v) fr H K = (msetK ks (ev G fr m) (ev G fr k) (ev G fr v) H K) := rfl
theorem st_mdel {ks : List Nat} {m k : Opd} : stepM P G q (.mdel ks m k) fr H K = (mdelK ks (ev G fr m) (ev G fr k) H K) := rfl
theorem st_rng {x : Opd} : stepM P G q (.rng x) fr H K = (rngK (ev G fr x) H K) := rfl
theorem st_nxt {x : Opd} : stepM P G q (.nxt x) fr H K = (nxtK (ev G fr x) H K) := rfl
theorem st_ent {x : Opd} : stepM P G q (.ent x) fr H K = (entK (ev G fr x) H (atH K H)) := rfl
theorem st_min {x y : Opd} : stepM P G q (.min x y) fr H K = (minK true (ev G fr x) (ev G fr y) (atH K H)) := rfl
theorem st_max {x y : Opd} : stepM P G q (.max x y) fr H K = (minK false (ev G fr x) (ev G fr y) (atH K H)) := rfl
theorem st_call {f : Nat} {as : List Opd} : stepM P G q (.call f as) fr H K = (callK P G q f (evs G fr as) H K) := rfl
theorem st_callv {x : Opd} {as : List Opd} : stepM P G q (.callv x as) fr H K = (callvK P G q (ev G fr x) (evs G fr as) H K) := rfl
end

/-- What stands behind a piece of code. -/
inductive Kt where
  | seq (c : MC)
  | blk (id : Nat)
  | lp (J : St → Prop)
  | sc
  | jp (l : Nat) (J : St → Prop)

section
variable (P : Program) (G : Nat → Option (List V))
def kq : List Kt → (Exit → St → Prop) → Exit → St → Prop
  | [], Q => Q
  | .seq b :: ks, Q => thenK (mwp P G b (kq ks Q)) (kq ks Q)
  | .blk id :: ks, Q => blockK id (kq ks Q)
  | .lp J :: ks, Q => thenK J (kq ks Q)
  | .sc :: ks, Q => scopeK (kq ks Q)
  | .jp l J :: ks, Q => jumpK l J (kq ks Q)

def xw (c : MC) (ks : List Kt) (Q : Exit → St → Prop) (st : St) : Prop := mwp P G c (kq P G ks Q) st
def xo (ops : List MO) (ks : List Kt) (Q : Exit → St → Prop) (st : St) : Prop := mops P G ops (kq P G ks Q .normal) st
def xe (e : Exit) (ks : List Kt) (Q : Exit → St → Prop) (st : St) : Prop := kq P G ks Q e st
/-- Behind an operation. -/
def xk (d : Option Nat) (r : List MO) (ks : List Kt) (Q : Exit → St → Prop) (fr : Fr) : V → List Blk → Prop := fun v H' => xo P G r ks Q ⟨put d v fr, H'⟩
/-- A guarded operation. -/
def xg (v : V) (w q : Bool) (d : Option Nat) (m : MOp) (r : List MO) (ks : List Kt) (Q : Exit → St → Prop) (fr : Fr) (H : List Blk) : Prop := match v with
  | .bool b => br (b == w) (stepM P G q m fr H (xk P G d r ks Q fr)) (xo P G r ks Q ⟨put d (.tup []) fr, H⟩)
  | .tup [] => xo P G r ks Q ⟨put d (.tup []) fr, H⟩
  | _ => False
/-- A test. -/
def xc (v : V) (a b : MC) (ks : List Kt) (Q : Exit → St → Prop) (st : St) : Prop := condK v (xw P G a ks Q st) (xw P G b ks Q st)
end

theorem br_true {p q : Prop} : br true p q = p := by simp [br]
theorem br_false {p q : Prop} : br false p q = q := by simp [br]

section
variable {P : Program} {G : Nat → Option (List V)} {c a b : MC} {ks : List Kt} {Q : Exit → St → Prop} {st : St} {id i j : Nat} {ops r : List MO} {d t : Nat} {d' : Option Nat} {w q : Bool} {m : MOp} {fr : Fr} {H : List Blk} {J : St → Prop}
theorem xw_start : mwp P G c Q st = xw P G c [] Q st := rfl
theorem xw_skip : xw P G .skip ks Q st = xe P G .normal ks Q st := rfl
theorem xw_reg {dr : Bool} : xw P G (.reg dr ops) ks Q st = xo P G ops ks Q st := rfl
theorem xw_seq : xw P G (.seq a b) ks Q st = xw P G a (.seq b :: ks) Q st := rfl
theorem xw_cond {x : Opd} : xw P G (.cond x a b) ks Q ⟨fr, H⟩ = xc P G (ev G fr x) a b ks Q ⟨fr, H⟩ := rfl
theorem xw_block : xw P G (.block id c) ks Q st = xw P G c (.blk id :: ks) Q st := rfl
theorem xw_loop : xw P G (.loop c) ks Q st = ∃ I : Nat → St → Prop, (∃ n, I n st) ∧ ∀ n st, I n st → xw P G c (.lp (fun st' => ∃ n', n' < n ∧ I n' st') :: ks) Q st := rfl
theorem xw_exit : xw P G (.exit id) ks Q st = xe P G (.exit id) ks Q st := rfl
theorem xw_ret : xw P G .ret ks Q st = xe P G .ret ks Q st := rfl
theorem xw_label : xw P G (.label id) ks Q st = xe P G .normal ks Q st := rfl
theorem xw_scope : xw P G (.scope c) ks Q st = xw P G c (.sc :: ks) Q st := rfl
theorem xe_n_sc : xe P G .normal (.sc :: ks) Q st = xe P G .normal ks Q st := rfl
theorem xe_x_sc : xe P G (.exit i) (.sc :: ks) Q st = xe P G (.exit i) ks Q st := rfl
theorem xe_r_sc : xe P G .ret (.sc :: ks) Q st = xe P G .ret ks Q st := rfl
theorem xe_n_jp : xe P G .normal (.jp id J :: ks) Q st = xe P G .normal ks Q st := rfl
theorem xe_x_jp : xe P G (.exit i) (.jp id J :: ks) Q st = xe P G (.exit i) ks Q st := rfl
theorem xe_r_jp : xe P G .ret (.jp id J :: ks) Q st = xe P G .ret ks Q st := rfl
theorem xw_goto : xw P G (.goto id) ks Q st = xe P G (.goto id) ks Q st := rfl
theorem xe_g_jp : xe P G (.goto id) (.jp id J :: ks) Q st = J st := by show (id = id ∧ J st) = _; simp
theorem xe_g_seq : xe P G (.goto i) (.seq b :: ks) Q st = xe P G (.goto i) ks Q st := rfl
theorem xe_g_blk : xe P G (.goto i) (.blk j :: ks) Q st = xe P G (.goto i) ks Q st := rfl
theorem xe_g_lp : xe P G (.goto i) (.lp J :: ks) Q st = xe P G (.goto i) ks Q st := rfl
theorem xe_nil {e : Exit} : xe P G e [] Q st = Q e st := rfl
theorem xe_n_seq : xe P G .normal (.seq b :: ks) Q st = xw P G b ks Q st := rfl
theorem xe_n_blk : xe P G .normal (.blk id :: ks) Q st = xe P G .normal ks Q st := rfl
theorem xe_n_lp : xe P G .normal (.lp J :: ks) Q st = J st := rfl
theorem xe_x_seq : xe P G (.exit i) (.seq b :: ks) Q st = xe P G (.exit i) ks Q st := rfl
theorem xe_x_lp : xe P G (.exit i) (.lp J :: ks) Q st = xe P G (.exit i) ks Q st := rfl
theorem xe_x_hit : xe P G (.exit i) (.blk i :: ks) Q st = xe P G .normal ks Q st := by show (if i = i then _ else _) = _; rw [if_pos rfl]; rfl
theorem xe_x_miss (h : i ≠ j) : xe P G (.exit i) (.blk j :: ks) Q st = xe P G (.exit i) ks Q st := by show (if i = j then _ else _) = _; rw [if_neg h]; rfl
theorem xe_r_seq : xe P G .ret (.seq b :: ks) Q st = xe P G .ret ks Q st := rfl
theorem xe_r_lp : xe P G .ret (.lp J :: ks) Q st = xe P G .ret ks Q st := rfl
theorem xe_r_blk : xe P G .ret (.blk j :: ks) Q st = xe P G .ret ks Q st := rfl
theorem xk_some {v : V} : xk P G (some d) r ks Q fr v H = xo P G r ks Q ⟨(d, v) :: fr, H⟩ := rfl
theorem xk_none {v : V} : xk P G none r ks Q fr v H = xo P G r ks Q ⟨fr, H⟩ := rfl
theorem xo_nil : xo P G [] ks Q st = xe P G .normal ks Q st := rfl
theorem xo_o : xo P G (o d m :: r) ks Q ⟨fr, H⟩ = stepM P G false m fr H (xk P G (some d) r ks Q fr) := rfl
theorem xo_s : xo P G (s m :: r) ks Q ⟨fr, H⟩ = stepM P G false m fr H (xk P G none r ks Q fr) := rfl
theorem xo_go : xo P G (go d t w m :: r) ks Q ⟨fr, H⟩ = xg P G (get fr t) w false (some d) m r ks Q fr H := rfl
theorem xo_gs : xo P G (gs t w m :: r) ks Q ⟨fr, H⟩ = xg P G (get fr t) w false none m r ks Q fr H := rfl
theorem xo_qq : xo P G (qq d' none m :: r) ks Q ⟨fr, H⟩ = stepM P G true m fr H (xk P G d' r ks Q fr) := rfl
theorem xo_qg : xo P G (qq d' (some (t, w)) m :: r) ks Q ⟨fr, H⟩ = xg P G (get fr t) w true d' m r ks Q fr H := rfl
theorem xg_sk : xg P G (.tup []) w q d' m r ks Q fr H = xk P G d' r ks Q fr (.tup []) H := rfl
theorem xg_tt : xg P G (.bool true) true q d' m r ks Q fr H = stepM P G q m fr H (xk P G d' r ks Q fr) := br_true
theorem xg_tf : xg P G (.bool true) false q d' m r ks Q fr H = xk P G d' r ks Q fr (.tup []) H := br_false
theorem xg_ft : xg P G (.bool false) true q d' m r ks Q fr H = xk P G d' r ks Q fr (.tup []) H := br_false
theorem xg_ff : xg P G (.bool false) false q d' m r ks Q fr H = stepM P G q m fr H (xk P G d' r ks Q fr) := br_true
theorem xg_nt {x : Bool} : xg P G (.bool !x) true q d' m r ks Q fr H = xg P G (.bool x) false q d' m r ks Q fr H := by cases x <;> rfl
theorem xg_nf {x : Bool} : xg P G (.bool !x) false q d' m r ks Q fr H = xg P G (.bool x) true q d' m r ks Q fr H := by cases x <;> rfl
theorem xc_t : xc P G (.bool true) a b ks Q st = xw P G a ks Q st := br_true
theorem xc_f : xc P G (.bool false) a b ks Q st = xw P G b ks Q st := br_false
theorem xc_n {x : Bool} : xc P G (.bool !x) a b ks Q st = xc P G (.bool x) b a ks Q st := by cases x <;> simp [xc, condK, br]

/-- A loop: an invariant that bears a number. What a round must hand on stands behind a variable. -/
theorem xl_loop (I : Nat → St → Prop) (n : Nat) (h0 : I n st) (h : ∀ J : Nat → St → Prop, (∀ n st, I n st → J n st) → ∀ n fr H, I n ⟨fr, H⟩ → xw P G c (.lp (fun st' => ∃ n', n' < n ∧ J n' st') :: ks) Q ⟨fr, H⟩) : xw P G (.loop c) ks Q st := by
  rw [xw_loop]
  exact ⟨I, ⟨n, h0⟩, fun n st hI => h I (fun _ _ h => h) n st.fr st.H hI⟩

/-- A piece that is jumped back into: an invariant that bears a number holds at each jump. -/
theorem xl_jump {c' : MC} (I : Nat → St → Prop) (h0 : ∀ J : St → Prop, (∀ n st, I n st → J st) → xw P G c (.jp id J :: ks) Q st)
    (h : ∀ J : Nat → St → Prop, (∀ n st, I n st → J n st) → ∀ n fr H, I n ⟨fr, H⟩ → xw P G c' (.jp id (fun st' => ∃ n', n' < n ∧ J n' st') :: ks) Q ⟨fr, H⟩) : xw P G (.scopeL id c c') ks Q st :=
  ⟨I, h0 _ (fun n st hI => ⟨n, hI⟩), fun n st hI => h I (fun _ _ h => h) n st.fr st.H hI⟩

/-- A loop that is left by more than one road: what holds behind it is told once. -/
theorem xl_blk (R : St → Prop) (I : Nat → St → Prop) (n : Nat) (h0 : I n st) (hR : ∀ fr H, R ⟨fr, H⟩ → xe P G .normal ks Q ⟨fr, H⟩)
    (h : ∀ (J : Nat → St → Prop) (Q' : Exit → St → Prop), (∀ n st, I n st → J n st) → (∀ st, Q' .normal st = R st) → (∀ st, Q' .ret st = xe P G .ret ks Q st) → (∀ i st, Q' (.exit i) st = xe P G (.exit i) ks Q st) → ∀ n fr H, I n ⟨fr, H⟩ → xw P G c [.lp (fun st' => ∃ n', n' < n ∧ J n' st'), .blk id] Q' ⟨fr, H⟩) : xw P G (.loop c) (.blk id :: ks) Q st := by
  rw [xw_loop]
  refine ⟨I, ⟨n, h0⟩, fun n st hI => ?_⟩
  have h1 := h I (fun e st => match e with | .normal => R st | e => xe P G e ks Q st) (fun _ _ h => h) (fun _ => rfl) (fun _ => rfl) (fun _ _ => rfl) n st.fr st.H hI
  refine mwp_mono c ?_ h1
  intro e st' he
  cases e with
  | normal => exact he
  | ret => exact he
  | goto l => exact he
  | panic l => exact he
  | outgrown => exact he
  | exit i =>
    show blockK id (kq P G ks Q) (.exit i) st'
    have he' : blockK id (fun e st => match e with | .normal => R st | e => xe P G e ks Q st) (.exit i) st' := he
    simp only [blockK] at he' ⊢
    split at he'
    · rename_i hi
      rw [if_pos hi]
      exact hR _ _ he'
    · rename_i hi
      rw [if_neg hi]
      exact he'

/-- A guard splits. -/
theorem xg_dec {p : Prop} [Decidable p] (h1 : p → stepM P G q m fr H (xk P G d' r ks Q fr)) (h2 : ¬ p → xk P G d' r ks Q fr (.tup []) H) : xg P G (.bool (decide p)) true q d' m r ks Q fr H := by
  by_cases h : p
  · rw [decide_eq_true h, xg_tt]; exact h1 h
  · rw [decide_eq_false h, xg_ft]; exact h2 h
theorem xg_decf {p : Prop} [Decidable p] (h1 : p → xk P G d' r ks Q fr (.tup []) H) (h2 : ¬ p → stepM P G q m fr H (xk P G d' r ks Q fr)) : xg P G (.bool (decide p)) false q d' m r ks Q fr H := by
  by_cases h : p
  · rw [decide_eq_true h, xg_tf]; exact h1 h
  · rw [decide_eq_false h, xg_ff]; exact h2 h
/-- A test splits. -/
theorem xc_dec {p : Prop} [Decidable p] (h1 : p → xw P G a ks Q st) (h2 : ¬ p → xw P G b ks Q st) : xc P G (.bool (decide p)) a b ks Q st := by
  by_cases h : p
  · rw [decide_eq_true h, xc_t]; exact h1 h
  · rw [decide_eq_false h, xc_f]; exact h2 h
theorem xg_any {x : Bool} (h1 : x = w → stepM P G q m fr H (xk P G d' r ks Q fr)) (h2 : x = (!w) → xk P G d' r ks Q fr (.tup []) H) : xg P G (.bool x) w q d' m r ks Q fr H := by
  cases x <;> cases w <;> first | (rw [xg_tt]; exact h1 rfl) | (rw [xg_tf]; exact h2 rfl) | (rw [xg_ft]; exact h2 rfl) | (rw [xg_ff]; exact h1 rfl)
theorem xc_any {x : Bool} (h1 : x = true → xw P G a ks Q st) (h2 : x = false → xw P G b ks Q st) : xc P G (.bool x) a b ks Q st := by
  cases x
  · rw [xc_f]; exact h2 rfl
  · rw [xc_t]; exact h1 rfl
end

theorem eq_ld1 {cs : List V} {H : List Blk}{K : V → List Blk → Prop} : ldK none (.vp cs) H K = (0 < cs.length ∧ K (cs.getD 0 .junk) H) := rfl
theorem eq_ld2 {cs : List V} {n : Nat} {H : List Blk}{K : V → List Blk → Prop} : ldK (some n) (.vp cs) H K = (n ≤ cs.length ∧ K (.agg (cs.take n)) H) := rfl
theorem eq_ld3 {b n i j : Nat} {H : List Blk}{K : V → List Blk → Prop} : ldK none (.ptr b n i j) H K = (match getB H b with | .row sz xs _ _ => xs.length = n ∧ i < n ∧ j < sz ∧ K ((xs.getD i .junk).cells.getD j .junk) H | _ => False) := rfl
theorem eq_ld4 {b n i j m : Nat} {H : List Blk}{K : V → List Blk → Prop} : ldK (some m) (.ptr b n i j) H K = (match getB H b with | .row sz xs _ _ => xs.length = n ∧ i < n ∧ j + m ≤ sz ∧ K (sub (xs.getD i .junk) sz j m) H | _ => False) := rfl
theorem eq_st {b n i j m : Nat} {v : V} {H : List Blk}{K : V → List Blk → Prop} : stK m (.ptr b n i j) v H K = (Good m v ∧ match getB H b with | .row sz xs opn frz => xs.length = n ∧ i < n ∧ j + m ≤ sz ∧ frz = false ∧ K .junk (H.set b (.row sz (xs.set i (upd (xs.getD i .junk) sz j m v)) opn false)) | _ => False) := rfl
theorem eq_nchk1 {cs : List V} {K : V → Prop} : nchkK (.vp cs) K = (K (.vp cs)) := rfl
theorem eq_nchk2 {b n i j : Nat} {K : V → Prop} : nchkK (.ptr b n i j) K = (K (.ptr b n i j)) := rfl
theorem eq_nchk3 {f : Nat} {a b : List V} {K : V → Prop} : nchkK (.fn (.func f) a b) K = (K (.fn (.func f) a b)) := rfl
theorem eq_iadd {k k' : IntKind} {a b : Int} {K : V → Prop} : binK .add (.int k a) (.int k' b) K = (k = k' ∧ K (.int k (k.wrap (a + b)))) := rfl
theorem eq_isub {k k' : IntKind} {a b : Int} {K : V → Prop} : binK .sub (.int k a) (.int k' b) K = (k = k' ∧ K (.int k (k.wrap (a - b)))) := rfl
theorem eq_imul {k k' : IntKind} {a b : Int} {K : V → Prop} : binK .mul (.int k a) (.int k' b) K = (k = k' ∧ K (.int k (k.wrap (a * b)))) := rfl
theorem eq_iquo {k k' : IntKind} {a b : Int} {K : V → Prop} : binK .quo (.int k a) (.int k' b) K = (k = k' ∧ b ≠ 0 ∧ K (.int k (k.wrap (a.tdiv b)))) := rfl
theorem eq_irem {k k' : IntKind} {a b : Int} {K : V → Prop} : binK .rem (.int k a) (.int k' b) K = (k = k' ∧ b ≠ 0 ∧ K (.int k (a.tmod b))) := rfl
theorem eq_iand {k k' : IntKind} {a b : Int} {K : V → Prop} : binK .and (.int k a) (.int k' b) K = (k = k' ∧ K (.int k (bitOp .and k a b))) := rfl
theorem eq_ior {k k' : IntKind} {a b : Int} {K : V → Prop} : binK .or (.int k a) (.int k' b) K = (k = k' ∧ K (.int k (bitOp .or k a b))) := rfl
theorem eq_ixor {k k' : IntKind} {a b : Int} {K : V → Prop} : binK .xor (.int k a) (.int k' b) K = (k = k' ∧ K (.int k (bitOp .xor k a b))) := rfl
theorem eq_iandNot {k k' : IntKind} {a b : Int} {K : V → Prop} : binK .andNot (.int k a) (.int k' b) K = (k = k' ∧ K (.int k (bitOp .andNot k a b))) := rfl
theorem eq_ishl {k k' : IntKind} {a b : Int} {K : V → Prop} : binK .shl (.int k a) (.int k' b) K = (0 ≤ b ∧ K (.int k (k.wrap (a * 2 ^ (Nat.min b.toNat k.bits))))) := rfl
theorem eq_ishr {k k' : IntKind} {a b : Int} {K : V → Prop} : binK .shr (.int k a) (.int k' b) K = (0 ≤ b ∧ K (.int k (a.fdiv (2 ^ (Nat.min b.toNat k.bits))))) := rfl
theorem eq_ieql {k k' : IntKind} {a b : Int} {K : V → Prop} : binK .eql (.int k a) (.int k' b) K = (k = k' ∧ K (.bool (decide (a = b)))) := rfl
theorem eq_ineq {k k' : IntKind} {a b : Int} {K : V → Prop} : binK .neq (.int k a) (.int k' b) K = (k = k' ∧ K (.bool (!decide (a = b)))) := rfl
theorem eq_ilss {k k' : IntKind} {a b : Int} {K : V → Prop} : binK .lss (.int k a) (.int k' b) K = (k = k' ∧ K (.bool (decide (a < b)))) := rfl
theorem eq_ileq {k k' : IntKind} {a b : Int} {K : V → Prop} : binK .leq (.int k a) (.int k' b) K = (k = k' ∧ K (.bool (decide (a ≤ b)))) := rfl
theorem eq_igtr {k k' : IntKind} {a b : Int} {K : V → Prop} : binK .gtr (.int k a) (.int k' b) K = (k = k' ∧ K (.bool (decide (b < a)))) := rfl
theorem eq_igeq {k k' : IntKind} {a b : Int} {K : V → Prop} : binK .geq (.int k a) (.int k' b) K = (k = k' ∧ K (.bool (decide (b ≤ a)))) := rfl
theorem eq_sadd {a b : List UInt8} {K : V → Prop} : binK .add (.str a) (.str b) K = (a.length + b.length < 2 ^ 63 ∧ K (.str (a ++ b))) := rfl
theorem eq_seql {a b : List UInt8} {K : V → Prop} : binK .eql (.str a) (.str b) K = (K (.bool (a == b))) := rfl
theorem eq_sneq {a b : List UInt8} {K : V → Prop} : binK .neq (.str a) (.str b) K = (K (.bool (a != b))) := rfl
theorem eq_slss {a b : List UInt8} {K : V → Prop} : binK .lss (.str a) (.str b) K = (K (.bool (Op.bytesLess a b))) := rfl
theorem eq_sleq {a b : List UInt8} {K : V → Prop} : binK .leq (.str a) (.str b) K = (K (.bool (Op.bytesLess a b || a == b))) := rfl
theorem eq_sgtr {a b : List UInt8} {K : V → Prop} : binK .gtr (.str a) (.str b) K = (K (.bool (!(Op.bytesLess a b || a == b)))) := rfl
theorem eq_sgeq {a b : List UInt8} {K : V → Prop} : binK .geq (.str a) (.str b) K = (K (.bool (!Op.bytesLess a b))) := rfl
theorem eq_not {b : Bool} {K : V → Prop} : unK .not (.bool b) K = (K (.bool !b)) := rfl
theorem eq_neg {k : IntKind} {n : Int} {K : V → Prop} : unK .neg (.int k n) K = (K (.int k (k.wrap (0 - n)))) := rfl
theorem eq_com {k : IntKind} {n : Int} {K : V → Prop} : unK .xor (.int k n) K = (K (.int k (bitOp .xor k (if k.signed then -1 else k.max) n))) := rfl
theorem eq_cvi {k k' : IntKind} {n : Int} {K : V → Prop} : cviK k (.int k' n) K = (K (.int k (k.wrap n))) := rfl
theorem eq_el1 {xs : List V} {H : List Blk}{C : List V → Prop}  : elemsK H (.vs xs) C = (C xs) := rfl
theorem eq_el2 {H : List Blk}{C : List V → Prop}  : elemsK H .nils C = (C []) := rfl
theorem eq_el3 {s : List UInt8} {H : List Blk}{C : List V → Prop}  : elemsK H (.str s) C = (C (s.map u8V)) := rfl
theorem eq_el4 {b n i j len sz : Nat} {cap : Option Nat} {H : List Blk}{C : List V → Prop}  : elemsK H (.hs b n i j len cap sz) C = (match getB H b with | .row rsz xs _ _ => xs.length = n ∧ (if rsz = sz ∧ j = 0 then i + len ≤ n ∧ C ((xs.drop i).take len) else sz = 1 ∧ i < n ∧ j + len ≤ rsz ∧ (∀ y ∈ ((xs.getD i .junk).cells.drop j).take len, y.one = true) ∧ C (((xs.getD i .junk).cells.drop j).take len)) | _ => False) := rfl
theorem eq_len0 {s : List UInt8} {H : List Blk}{K : V → Prop} : lenK 0 H (.str s) K = (K (.int .i64 s.length)) := rfl
theorem eq_len1 {xs : List V} {H : List Blk}{K : V → Prop} : lenK 1 H (.vs xs) K = (K (.int .i64 xs.length)) := rfl
theorem eq_len2 {H : List Blk}{K : V → Prop} : lenK 1 H .nils K = (K (.int .i64 0)) := rfl
theorem eq_len3 {b n i j len sz : Nat} {cap : Option Nat} {H : List Blk}{K : V → Prop} : lenK 1 H (.hs b n i j len cap sz) K = (K (.int .i64 len)) := rfl
theorem eq_bnd1 {d : Nat} {C : Nat → Prop} : bnd d none C = (C d) := rfl
theorem eq_bnd2 {d : Nat} {k : IntKind} {n : Int} {C : Nat → Prop} : bnd d (some (.int k n)) C = (0 ≤ n ∧ C n.toNat) := rfl
theorem eq_slS {s : List UInt8} {lo hi : Option V} {K : V → Prop} : slSK (.str s) lo hi K = (bnd s.length hi fun h => h ≤ s.length ∧ bnd 0 lo fun l => l ≤ h ∧ K (.str ((s.drop l).take (h - l)))) := rfl
theorem eq_sl1 {sz : Nat} {xs : List V} {lo hi mx : Option V} {H : List Blk}{K : V → Prop} : slK H sz (.vs xs) lo hi mx K = ((mx.isSome = true → hi.isSome = true) ∧ (∀ y ∈ xs, y.cells.length = sz) ∧ bnd xs.length mx fun m => m ≤ xs.length ∧ bnd xs.length hi fun h => h ≤ m ∧ bnd 0 lo fun l => l ≤ h ∧ K (.vs ((xs.drop l).take (h - l)))) := rfl
theorem eq_sl2 {sz : Nat} {lo hi mx : Option V} {H : List Blk}{K : V → Prop} : slK H sz .nils lo hi mx K = ((mx.isSome = true → hi.isSome = true) ∧ bnd 0 mx fun m => m = 0 ∧ bnd 0 hi fun h => h = 0 ∧ bnd 0 lo fun l => l = 0 ∧ K .nils) := rfl
theorem eq_slA {b m i j n sz : Nat} {lo hi mx : Option V} {H : List Blk}{K : V → Prop} : slAK H n sz (.ptr b m i j) lo hi mx K = ((mx.isSome = true → hi.isSome = true) ∧ bnd n mx fun mm => mm ≤ n ∧ bnd n hi fun h => h ≤ mm ∧ bnd 0 lo fun l => l ≤ h ∧ slHK H b m i j (some mm) sz l h K) := rfl
theorem eq_fa1 {off : Nat} {cs : List V} {K : V → Prop} : faK off (.vp cs) K = (off ≤ cs.length ∧ K (.vp (cs.drop off))) := rfl
theorem eq_fa2 {off b n i j : Nat} {K : V → Prop} : faK off (.ptr b n i j) K = (K (.ptr b n i (j + off))) := rfl
theorem eq_fld1 {off : Nat} {cs : List V} {K : V → Prop} : fldK none off (.agg cs) K = (off < cs.length ∧ K (cs.getD off .junk)) := rfl
theorem eq_fld2 {off n : Nat} {cs : List V} {K : V → Prop} : fldK (some n) off (.agg cs) K = (off + n ≤ cs.length ∧ K (.agg ((cs.drop off).take n))) := rfl
theorem eq_ia1 {sz : Nat} {xs : List V} {k : IntKind} {n : Int} {H : List Blk}{K : V → Prop} : iaK H sz (.vs xs) (.int k n) K = (0 ≤ n ∧ n.toNat < xs.length ∧ (xs.getD n.toNat .junk).cells.length = sz ∧ K (.vp (xs.getD n.toNat .junk).cells)) := rfl
theorem eq_ia2 {b m i j len sz sz' : Nat} {cap : Option Nat} {k : IntKind} {n : Int} {H : List Blk}{K : V → Prop} : iaK H sz (.hs b m i j len cap sz') (.int k n) K = (sz' = sz ∧ 0 ≤ n ∧ n.toNat < len ∧ match getB H b with | .row rsz xs _ _ => xs.length = m ∧ K (if rsz = sz then .ptr b m (i + n.toNat) j else .ptr b m i (j + n.toNat * sz)) | _ => False) := rfl
theorem eq_iaA1 {n sz b m e j : Nat} {k : IntKind} {q : Int} {K : V → Prop} : iaAK n sz (.ptr b m e j) (.int k q) K = (0 ≤ q ∧ q.toNat < n ∧ K (.ptr b m e (j + q.toNat * sz))) := rfl
theorem eq_iaA2 {n sz : Nat} {cs : List V} {k : IntKind} {q : Int} {K : V → Prop} : iaAK n sz (.vp cs) (.int k q) K = (0 ≤ q ∧ q.toNat < n ∧ n * sz ≤ cs.length ∧ K (.vp (cs.drop (q.toNat * sz)))) := rfl
theorem eq_ixA {n sz : Nat} {g : Bool} {cs : List V} {k : IntKind} {q : Int} {K : V → Prop} : ixAK n sz g (.agg cs) (.int k q) K = (0 ≤ q ∧ q.toNat < n ∧ n * sz ≤ cs.length ∧ K (if g then .agg ((cs.drop (q.toNat * sz)).take sz) else cs.getD (q.toNat * sz) .junk)) := rfl
theorem eq_ixS {s : List UInt8} {k : IntKind} {n : Int} {K : V → Prop} : ixSK (.str s) (.int k n) K = (0 ≤ n ∧ n.toNat < s.length ∧ K (u8V (s.getD n.toNat 0))) := rfl
theorem eq_ext {vs : List V} {i : Nat} {K : V → Prop} : extK (.tup vs) i K = (i < vs.length ∧ K (vs.getD i .junk)) := rfl
theorem eq_app1 {sz b : Nat} {ys : List V} {H : List Blk}{K : V → List Blk → Prop} : appK sz b .nils ys H K = (Goods sz ys ∧ if ys = [] then K .nils H else roomy ys.length b ∧ K (.hs H.length ys.length 0 0 ys.length none sz) (H ++ [.row sz ys true false])) := rfl
theorem eq_app2 {xs : List V} {sz b : Nat} {ys : List V} {H : List Blk}{K : V → List Blk → Prop} : appK sz b (.vs xs) ys H K = (Goods sz ys ∧ ys = [] ∧ K (.vs xs) H) := rfl
theorem eq_app3 {r n i j len c sz' : Nat} {sz b : Nat} {ys : List V} {H : List Blk}{K : V → List Blk → Prop} : appK sz b (.hs r n i j len (some c) sz') ys H K = (Goods sz ys ∧ sz' = sz ∧ j = 0 ∧ match getB H r with | .row rsz xs opn frz => rsz = sz ∧ xs.length = n ∧ i + len ≤ n ∧ Goods sz xs ∧ (if len + ys.length ≤ c then i + c ≤ n ∧ frz = false ∧ K (.hs r n i 0 (len + ys.length) (some c) sz) (H.set r (.row sz (xs.take (i + len) ++ ys ++ xs.drop (i + len + ys.length)) opn false)) else roomy (len + ys.length) b ∧ K (.hs H.length (len + ys.length) 0 0 (len + ys.length) none sz) (H ++ [.row sz ((xs.drop i).take len ++ ys) true false])) | _ => False) := rfl
theorem eq_app4 {r n i j len sz' : Nat} {sz b : Nat} {ys : List V} {H : List Blk}{K : V → List Blk → Prop} : appK sz b (.hs r n i j len none sz') ys H K = (Goods sz ys ∧ sz' = sz ∧ j = 0 ∧ match getB H r with | .row rsz xs opn frz => rsz = sz ∧ xs.length = n ∧ i + len ≤ n ∧ Goods sz xs ∧ (if i + len + ys.length ≤ n then frz = false ∧ K (.hs r n i 0 (len + ys.length) none sz) (H.set r (.row sz (xs.take (i + len) ++ ys ++ xs.drop (i + len + ys.length)) opn false)) else i = 0 ∧ frz = false ∧ roomy (len + ys.length) b ∧ K (.hs r (len + ys.length) 0 0 (len + ys.length) none sz) (H.set r (.row sz (xs.take len ++ ys) true false))) | _ => False) := rfl
theorem eq_wr1 {b n i j len sz' : Nat} {cap : Option Nat} {sz : Nat} {ys : List V} {H : List Blk}{K : List Blk → Prop} : wrK sz (.hs b n i j len cap sz') ys H K = (Goods sz ys ∧ sz' = sz ∧ ys.length ≤ len ∧ match getB H b with | .row rsz xs opn frz => xs.length = n ∧ frz = false ∧ (if rsz = sz ∧ j = 0 then i + len ≤ n ∧ K (H.set b (.row rsz (xs.take i ++ ys ++ xs.drop (i + ys.length)) opn false)) else sz = 1 ∧ i < n ∧ j + len ≤ rsz ∧ (∀ y ∈ ys, y.one = true) ∧ K (H.set b (.row rsz (xs.set i (.agg (setR (xs.getD i .junk).cells j ys))) opn false))) | _ => False) := rfl
theorem eq_wr2 {sz : Nat} {ys : List V} {H : List Blk}{K : List Blk → Prop} : wrK sz .nils ys H K = (Goods sz ys ∧ ys = [] ∧ K H) := rfl
theorem eq_wr3 {xs : List V} {sz : Nat} {ys : List V} {H : List Blk}{K : List Blk → Prop} : wrK sz (.vs xs) ys H K = (Goods sz ys ∧ ys = [] ∧ K H) := rfl
theorem eq_min {lt : Bool} {k k' : IntKind} {a b : Int} {K : V → Prop} : minK lt (.int k a) (.int k' b) K = (k = k' ∧ K (.int k (if lt then (if b < a then b else a) else (if a < b then b else a)))) := rfl
theorem eq_mks {sz by_ : Nat} {z : V} {C : (Nat → V) → Blk → Prop} {k k' : IntKind} {a b : Int}  : mksK sz by_ z (.int k a) (.int k' b) C = (0 ≤ a ∧ a ≤ b ∧ b < 2 ^ 63 ∧ by_ * b ≤ 2 ^ 48 ∧ C (fun q => .hs q b.toNat 0 0 a.toNat (some b.toNat) sz) (.row sz (List.replicate b.toNat z) false false)) := rfl
theorem eq_s2b {s : List UInt8} {C : (Nat → V) → Blk → Prop} : s2bK (.str s) C = (C (fun q => .hs q s.length 0 0 s.length none 1) (.row 1 (s.map u8V) true false)) := rfl
theorem eq_sl3 {b n i j len sz sz' : Nat} {lo hi : Option V} {c : Nat} {H : List Blk} {K : V → Prop} : slK H sz (.hs b n i j len (some c) sz') lo hi none K = ((Option.isSome (none : Option V) = true → hi.isSome = true) ∧ sz' = sz ∧ bnd len hi fun h => h ≤ c ∧ bnd 0 lo fun l => l ≤ h ∧ slHK H b n i j (some c) sz l h K) := rfl
theorem eq_sl4 {b n i j len sz sz' : Nat} {lo hi : Option V} {H : List Blk} {K : V → Prop} : slK H sz (.hs b n i j len none sz') lo hi none K = ((Option.isSome (none : Option V) = true → hi.isSome = true) ∧ sz' = sz ∧ bnd len hi fun h => h ≤ len ∧ bnd 0 lo fun l => l ≤ h ∧ slHK H b n i j none sz l h K) := rfl
theorem eq_sl5 {b n i j len sz sz' : Nat} {lo hi : Option V} {c : Nat} {mv : V} {H : List Blk} {K : V → Prop} : slK H sz (.hs b n i j len (some c) sz') lo hi (some mv) K = ((Option.isSome (some mv) = true → hi.isSome = true) ∧ sz' = sz ∧ bnd c (some mv) fun m => m ≤ c ∧ bnd len hi fun h => h ≤ m ∧ bnd 0 lo fun l => l ≤ h ∧ slHK H b n i j (some m) sz l h K) := rfl
theorem eq_sl6 {b n i j len sz sz' : Nat} {lo hi : Option V} {mv : V} {H : List Blk} {K : V → Prop} : slK H sz (.hs b n i j len none sz') lo hi (some mv) K = ((Option.isSome (some mv) = true → hi.isSome = true) ∧ sz' = sz ∧ bnd len (some mv) fun m => m ≤ len ∧ bnd len hi fun h => h ≤ m ∧ bnd 0 lo fun l => l ≤ h ∧ slHK H b n i j (some m) sz l h K) := rfl
theorem eq_cells_int {k : IntKind} {n : Int} : V.cells (.int k n) = [.int k n] := rfl
theorem eq_solid_int {k : IntKind} {n : Int} : V.solid (.int k n) = true := rfl
theorem eq_one_int {k : IntKind} {n : Int} : V.one (.int k n) = true := rfl
theorem eq_isStr_int {k : IntKind} {n : Int} : V.isStr (.int k n) = false := rfl
theorem eq_cells_bool {b : Bool} : V.cells (.bool b) = [.bool b] := rfl
theorem eq_solid_bool {b : Bool} : V.solid (.bool b) = true := rfl
theorem eq_one_bool {b : Bool} : V.one (.bool b) = true := rfl
theorem eq_isStr_bool {b : Bool} : V.isStr (.bool b) = false := rfl
theorem eq_cells_str {s : List UInt8} : V.cells (.str s) = [.str s] := rfl
theorem eq_solid_str {s : List UInt8} : V.solid (.str s) = true := rfl
theorem eq_one_str {s : List UInt8} : V.one (.str s) = true := rfl
theorem eq_isStr_str {s : List UInt8} : V.isStr (.str s) = true := rfl
theorem eq_cells_vs {xs : List V} : V.cells (.vs xs) = [.vs xs] := rfl
theorem eq_solid_vs {xs : List V} : V.solid (.vs xs) = true := rfl
theorem eq_one_vs {xs : List V} : V.one (.vs xs) = true := rfl
theorem eq_isStr_vs {xs : List V} : V.isStr (.vs xs) = false := rfl
theorem eq_cells_vp {xs : List V} : V.cells (.vp xs) = [.vp xs] := rfl
theorem eq_solid_vp {xs : List V} : V.solid (.vp xs) = true := rfl
theorem eq_one_vp {xs : List V} : V.one (.vp xs) = true := rfl
theorem eq_isStr_vp {xs : List V} : V.isStr (.vp xs) = false := rfl
theorem eq_cells_nils  : V.cells (.nils) = [.nils] := rfl
theorem eq_solid_nils  : V.solid (.nils) = true := rfl
theorem eq_one_nils  : V.one (.nils) = true := rfl
theorem eq_isStr_nils  : V.isStr (.nils) = false := rfl
theorem eq_cells_nilp  : V.cells (.nilp) = [.nilp] := rfl
theorem eq_solid_nilp  : V.solid (.nilp) = true := rfl
theorem eq_one_nilp  : V.one (.nilp) = true := rfl
theorem eq_isStr_nilp  : V.isStr (.nilp) = false := rfl
theorem eq_cells_nilf  : V.cells (.nilf) = [.nilf] := rfl
theorem eq_solid_nilf  : V.solid (.nilf) = true := rfl
theorem eq_one_nilf  : V.one (.nilf) = true := rfl
theorem eq_isStr_nilf  : V.isStr (.nilf) = false := rfl
theorem eq_cells_hs {b n i j l sz : Nat} {c : Option Nat} : V.cells (.hs b n i j l c sz) = [.hs b n i j l c sz] := rfl
theorem eq_solid_hs {b n i j l sz : Nat} {c : Option Nat} : V.solid (.hs b n i j l c sz) = true := rfl
theorem eq_one_hs {b n i j l sz : Nat} {c : Option Nat} : V.one (.hs b n i j l c sz) = true := rfl
theorem eq_isStr_hs {b n i j l sz : Nat} {c : Option Nat} : V.isStr (.hs b n i j l c sz) = false := rfl
theorem eq_cells_ptr {b n i j : Nat} : V.cells (.ptr b n i j) = [.ptr b n i j] := rfl
theorem eq_solid_ptr {b n i j : Nat} : V.solid (.ptr b n i j) = true := rfl
theorem eq_one_ptr {b n i j : Nat} : V.one (.ptr b n i j) = true := rfl
theorem eq_isStr_ptr {b n i j : Nat} : V.isStr (.ptr b n i j) = false := rfl
theorem eq_cells_map {b : Nat} : V.cells (.map b) = [.map b] := rfl
theorem eq_solid_map {b : Nat} : V.solid (.map b) = true := rfl
theorem eq_one_map {b : Nat} : V.one (.map b) = true := rfl
theorem eq_isStr_map {b : Nat} : V.isStr (.map b) = false := rfl
theorem eq_cells_fn {f : Fn} {x y : List V} : V.cells (.fn f x y) = [.fn f x y] := rfl
theorem eq_solid_fn {f : Fn} {x y : List V} : V.solid (.fn f x y) = true := rfl
theorem eq_one_fn {f : Fn} {x y : List V} : V.one (.fn f x y) = true := rfl
theorem eq_isStr_fn {f : Fn} {x y : List V} : V.isStr (.fn f x y) = false := rfl
theorem eq_cells_agg {cs : List V} : V.cells (.agg cs) = cs := rfl
theorem eq_solid_agg {cs : List V} : V.solid (.agg cs) = true := rfl
theorem eq_one_agg {cs : List V} : V.one (.agg cs) = false := rfl
theorem eq_isStr_agg {cs : List V} : V.isStr (.agg cs) = false := rfl
theorem eq_cells_tup {cs : List V} : V.cells (.tup cs) = [.tup cs] := rfl
theorem eq_solid_tup {cs : List V} : V.solid (.tup cs) = false := rfl
theorem eq_one_tup {cs : List V} : V.one (.tup cs) = false := rfl
theorem eq_isStr_tup {cs : List V} : V.isStr (.tup cs) = false := rfl
theorem eq_cells_junk  : V.cells (.junk) = [.junk] := rfl
theorem eq_solid_junk  : V.solid (.junk) = false := rfl
theorem eq_one_junk  : V.one (.junk) = false := rfl
theorem eq_isStr_junk  : V.isStr (.junk) = false := rfl
theorem eq_eqT {neg : Bool} {ks : List Nat} {as bs : List V} {K : V → Prop} : eqTK neg ks (.agg as) (.agg bs) K = (match eqs ks as bs with | some r => K (.bool (bif neg then !r else r)) | none => False) := rfl
theorem eq_eqs0 : eqs [] [] [] = some true := rfl
theorem eq_eqs1 {k : Nat} {ks : List Nat} {a b : V} {as bs : List V} : eqs (k :: ks) (a :: as) (b :: bs) = (match eq1 k a b, eqs ks as bs with | some x, some y => some (x && y) | _, _ => none) := rfl
theorem eq_one0 {k : IntKind} {a b : Int} : eq1 0 (.int k a) (.int k b) = some (decide (a = b)) := by simp [eq1]
theorem eq_one1 {a b : Bool} : eq1 1 (.bool a) (.bool b) = some (a == b) := rfl
theorem eq_one2 {a b : List UInt8} : eq1 2 (.str a) (.str b) = some (a == b) := rfl
theorem eq_nilq1 {neg : Bool} {K : V → Prop} : nilqK neg .nils K = K (.bool !neg) := rfl
theorem eq_nilq2 {neg : Bool} {xs : List V} {K : V → Prop} : nilqK neg (.vs xs) K = K (.bool neg) := rfl
theorem eq_updf {x v : V} {n : Nat} : upd x n 0 n v = v := by simp [upd]
theorem eq_updp {x v : V} {sz j m : Nat} (h : ¬ (j = 0 ∧ m = sz)) : upd x sz j m v = .agg (setR x.cells j v.cells) := by simp only [upd, if_neg h]
theorem eq_subf {x : V} {n : Nat} : sub x n 0 n = .agg x.cells := by simp [sub]
theorem eq_subp {x : V} {sz j m : Nat} (h : ¬ (j = 0 ∧ m = sz)) : sub x sz j m = .agg ((x.cells.drop j).take m) := by simp only [sub, if_neg h]
theorem eq_setnew {H : List Blk} {k k' : Blk} : (H ++ [k]).set H.length k' = H ++ [k'] := by simp
theorem eq_eqB0 {a b : Bool} {K : V → Prop} : eqBK false (.bool a) (.bool b) K = K (.bool (a == b)) := rfl
theorem eq_eqB1 {a b : Bool} {K : V → Prop} : eqBK true (.bool a) (.bool b) K = K (.bool (!(a == b))) := rfl
theorem eq_capa1 {H : List Blk} {K : V → Prop} : capaK H .nils K = K (.int .i64 0) := rfl
theorem eq_capa2 {H : List Blk} {b n i j len c sz : Nat} {K : V → Prop} : capaK H (.hs b n i j len (some c) sz) K = (match getB H b with | .row _ xs _ _ => xs.length = n ∧ K (.int .i64 c) | _ => False) := rfl



theorem pickK_t {a b : V} {K : V → Prop} : pickK (.bool true) a b K = K a := rfl
theorem pickK_f {a b : V} {K : V → Prop} : pickK (.bool false) a b K = K b := rfl
theorem pickK_n {x : Bool} {a b : V} {K : V → Prop} : pickK (.bool !x) a b K = pickK (.bool x) b a K := by cases x <;> rfl

theorem ieq (a b : Int) : (a == b) = decide (a = b) := rfl
theorem ine (a b : Int) : (a != b) = !decide (a = b) := rfl
theorem frz_int {im : Bool} {H : List Blk} {k : IntKind} {a b : Int} (h : a = b) : Frz im H (.int k a) (.int k b) := by subst h; exact .free (.int _ _)
theorem frz_bool {im : Bool} {H : List Blk} {a b : Bool} (h : a = b) : Frz im H (.bool a) (.bool b) := by subst h; exact .free (.bool _)

/-- A list of numbers. -/
def ints (l : List Int) : List V := l.map (.int .i64)
theorem ints_nil : ints [] = [] := rfl
theorem ints_length (l : List Int) : (ints l).length = l.length := by simp [ints]
theorem ints_getD {l : List Int} {i : Nat} (h : i < l.length) : (ints l).getD i .junk = .int .i64 (l.getD i 0) := by simp [ints, List.getD_eq_getElem?_getD, h]
theorem ints_take (l : List Int) (n : Nat) : (ints l).take n = ints (l.take n) := by simp [ints]
theorem ints_drop (l : List Int) (n : Nat) : (ints l).drop n = ints (l.drop n) := by simp [ints]
theorem ints_append (l m : List Int) : ints l ++ ints m = ints (l ++ m) := by simp [ints]
theorem ints_goods (l : List Int) : Goods 1 (ints l) := by
  intro y hy
  simp only [ints, List.mem_map] at hy
  obtain ⟨n, _, rfl⟩ := hy
  exact ⟨rfl, by simp [V.cells, V.one]⟩
theorem ints_free (im : Bool) (l : List Int) : ∀ i j, i < (ints l).length → j < ((ints l).getD i .junk).cells.length → Free im (((ints l).getD i .junk).cells.getD j .junk) := by
  intro i j hi hj
  rw [ints_length] at hi
  rw [ints_getD hi] at hj ⊢
  simp [V.cells] at hj
  subst hj
  exact .int _ _
theorem free_ints (l : List Int) : Free true (.vs (ints l)) := .vs rfl (ints_free true l)
/-- A slice of numbers, nil or not. -/
def IsI (v : V) (l : List Int) : Prop := (v = .nils ∧ l = []) ∨ v = .vs (ints l)
theorem IsI.free {v : V} {l : List Int} (h : IsI v l) : Free true v := by
  rcases h with ⟨rfl, _⟩ | rfl
  · exact .nils
  · exact free_ints l
theorem lenK_isI {v : V} {l : List Int} (h : IsI v l) {H : List Blk} {K : V → Prop} : lenK 1 H v K = K (.int .i64 l.length) := by
  rcases h with ⟨rfl, rfl⟩ | rfl
  · rfl
  · simp only [lenK, ints_length]
theorem iaK_isI {v : V} {l : List Int} (h : IsI v l) {H : List Blk} {k : IntKind} {n : Int} {K : V → Prop} (h0 : 0 ≤ n) (hn : n.toNat < l.length) : iaK H 1 v (.int k n) K = K (.vp [.int .i64 (l.getD n.toNat 0)]) := by
  rcases h with ⟨rfl, rfl⟩ | rfl
  · simp at hn
  · simp only [iaK, ints_length, ints_getD hn, V.cells, List.length_cons, List.length_nil]
    simp [h0, hn]
theorem elemsK_isI {v : V} {l : List Int} (h : IsI v l) {H : List Blk} {K : List V → Prop} : elemsK H v K = K (ints l) := by
  rcases h with ⟨rfl, rfl⟩ | rfl <;> rfl
theorem isI_vs (l : List Int) : IsI (.vs (ints l)) l := .inr rfl
theorem isI_nil : IsI .nils [] := .inl ⟨rfl, rfl⟩
theorem fr0 : ∀ a ∈ ([] : List V), Free true a := by simp
theorem fr1 {x : V} (h : Free true x) : ∀ a ∈ [x], Free true a := by simpa using h
theorem fr2 {x y : V} (h : Free true x) (h' : Free true y) : ∀ a ∈ [x, y], Free true a := by simp [h, h']
theorem fr3 {x y z : V} (h : Free true x) (h' : Free true y) (h'' : Free true z) : ∀ a ∈ [x, y, z], Free true a := by simp [h, h', h'']
theorem ints_cons (n : Int) (l : List Int) : ints (n :: l) = .int .i64 n :: ints l := rfl
/-- A row of numbers, frozen. -/
theorem frz_row {im : Bool} {H : List Blk} {b n len : Nat} {cap : Option Nat} {l : List Int} {opn frz : Bool} (hH : getB H b = .row 1 (ints l) opn frz) (hn : l.length = n) (hl : len = n) : Frz im H (.hs b n 0 0 len cap 1) (.vs (ints l)) := by
  subst hl hn
  refine .hs hH (ints_length l) (by omega) (ints_length l) (fun k hk => by rw [ints_getD hk]; rfl) fun k j hk hj => ?_
  obtain rfl : j = 0 := by omega
  rw [Nat.zero_add, ints_getD hk]
  exact .free (.int _ _)

/-- A row of numbers. -/
theorem frz_ints {im : Bool} {H : List Blk} {b len : Nat} {cap : Option Nat} {xs : List V} {l : List Int} {opn frz : Bool} (hH : getB H b = .row 1 xs opn frz) (hx : xs = ints l) (hl : len = l.length) : Frz im H (.hs b len 0 0 len cap 1) (.vs (ints l)) := by
  subst hx hl
  exact frz_row hH rfl rfl

theorem getB_hd (k : Blk) (H : List Blk) : getB (k :: H) 0 = k := rfl
theorem getB_tl (k : Blk) (H : List Blk) (n : Nat) : getB (k :: H) (n + 1) = getB H n := rfl
theorem getB_new (H : List Blk) (k : Blk) : getB (H ++ [k]) H.length = k := by simp [getB, List.getD_eq_getElem?_getD]
theorem goods_nil (sz : Nat) : Goods sz [] = True := by simp [Goods]
theorem goods_cons (sz : Nat) (y : V) (ys : List V) : Goods sz (y :: ys) = (Good sz y ∧ Goods sz ys) := by simp [Goods]
theorem good_int (k : IntKind) (n : Int) : Good 1 (.int k n) = True := by simp [Good, V.cells, V.one]
theorem good_bool (b : Bool) : Good 1 (.bool b) = True := by simp [Good, V.cells, V.one]
theorem good_str (s : List UInt8) : Good 1 (.str s) = True := by simp [Good, V.cells, V.one]
theorem good_vs (l : List V) : Good 1 (.vs l) = True := by simp [Good, V.cells, V.one]
theorem good_nils : Good 1 .nils = True := by simp [Good, V.cells, V.one]
theorem good_ptr (b n i j : Nat) : Good 1 (.ptr b n i j) = True := by simp [Good, V.cells, V.one]
theorem good_hs (b n i j l sz : Nat) (c : Option Nat) : Good 1 (.hs b n i j l c sz) = True := by simp [Good, V.cells, V.one]
theorem good_agg (n : Nat) (cs : List V) : Good n (.agg cs) = (cs.length = n ∧ ∀ c ∈ cs, c.one = true) := rfl
theorem ints_goods' (l : List Int) : Goods 1 (ints l) = True := eq_true (ints_goods l)
theorem ints_cells (l : List Int) : (∀ y ∈ ints l, y.cells.length = 1) = True := eq_true (goods_len (ints_goods l))
theorem roomy_of {n b : Nat} (h1 : n ≤ 1099511627776) (h2 : b ≤ 128) : roomy n b := by
  unfold roomy
  have := Nat.mul_le_mul h1 h2
  omega

/-- A slice that is all of its row; or nil, as long as it has nothing. -/
def Own (sz : Nat) (H : List Blk) (v : V) (xs : List V) : Prop := (v = .nils ∧ xs = []) ∨ ∃ b cap opn, v = .hs b xs.length 0 0 xs.length cap sz ∧ getB H b = .row sz xs opn false ∧ (cap = none ∨ cap = some xs.length)
theorem Own.nil (sz : Nat) (H : List Blk) : Own sz H .nils [] := .inl ⟨rfl, rfl⟩
theorem Own.hs {sz b n : Nat} {H : List Blk} {cap : Option Nat} {xs : List V} {opn : Bool} (hn : n = xs.length) (h : getB H b = .row sz xs opn false) (hc : cap = none ∨ cap = some xs.length) : Own sz H (.hs b n 0 0 n cap sz) xs := by
  subst hn; exact .inr ⟨b, cap, opn, rfl, h, hc⟩
theorem Own.grow {sz : Nat} {H : List Blk} {v : V} {xs : List V} (h : Own sz H v xs) (T : List Blk) : Own sz (H ++ T) v xs := by
  rcases h with h | ⟨b, cap, opn, h1, h2, h3⟩
  · exact .inl h
  · exact .inr ⟨b, cap, opn, h1, getB_app h2, h3⟩
theorem getB_lt' {H : List Blk} {b : Nat} {sz : Nat} {xs : List V} {opn frz : Bool} (h : getB H b = .row sz xs opn frz) : b < H.length := by
  rcases Nat.lt_or_ge b H.length with h' | h'
  · exact h'
  · simp [getB, List.getD_eq_getElem?_getD, List.getElem?_eq_none h'] at h
theorem getB_set {H : List Blk} {b : Nat} (k : Blk) (h : b < H.length) : getB (H.set b k) b = k := by simp [getB, List.getD_eq_getElem?_getD, h]
theorem getB_set_ne {H : List Blk} {b c : Nat} (k : Blk) (h : b ≠ c) : getB (H.set b k) c = getB H c := by simp [getB, List.getD_eq_getElem?_getD, h]
/-- Appending to such a slice: the blocks of others stay. -/
theorem Own.app' {sz by_ : Nat} {H : List Blk} {v : V} {xs ys : List V} {K : V → List Blk → Prop} (h : Own sz H v xs) (hx : Goods sz xs) (hy : Goods sz ys) (hr : roomy (xs.length + ys.length) by_)
    (hk : ∀ v' H', Own sz H' v' (xs ++ ys) → H.length ≤ H'.length → (∀ c, c < H.length → (∀ n i j l cap s, v ≠ .hs c n i j l cap s) → getB H' c = getB H c) → K v' H') : appK sz by_ v ys H K := by
  have new : ∀ (k : Blk) c, c < H.length → getB (H ++ [k]) c = getB H c := fun k c hc => getB_app' hc
  rcases h with ⟨rfl, rfl⟩ | ⟨b, cap, opn, rfl, hb, hc⟩
  · rw [eq_app1]
    refine ⟨hy, ?_⟩
    split
    · rename_i h0
      subst h0
      exact hk _ _ (Own.nil _ _) (Nat.le_refl _) fun _ _ _ => rfl
    · exact ⟨by simpa using hr, hk _ _ (Own.hs (by simp) (getB_new _ _) (.inl rfl)) (by simp) fun c hc _ => new _ c hc⟩
  · have hne : ∀ (k : Blk) c, c < H.length → (∀ n i j l cap s, V.hs b xs.length 0 0 xs.length cap sz ≠ .hs c n i j l cap s) → getB (H.set b k) c = getB H c := by
      intro k c hcl hn
      refine getB_set_ne _ ?_
      rintro rfl
      exact hn _ _ _ _ none _ rfl
    rcases hc with rfl | rfl
    · rw [eq_app4]
      refine ⟨hy, rfl, rfl, ?_⟩
      rw [hb]
      refine ⟨rfl, rfl, by omega, hx, ?_⟩
      split
      · rename_i h0
        have : ys = [] := List.length_eq_zero_iff.1 (by omega)
        subst this
        refine ⟨rfl, hk _ _ (.inr ⟨b, none, opn, by simp, ?_, .inl rfl⟩) (by simp) fun c hcl hn => getB_set_ne _ (by rintro rfl; exact hn _ _ _ _ _ _ rfl)⟩
        rw [getB_set _ (getB_lt' hb)]
        simp
      · refine ⟨rfl, rfl, hr, hk _ _ (.inr ⟨b, none, true, by simp, ?_, .inl rfl⟩) (by simp) fun c hcl hn => getB_set_ne _ (by rintro rfl; exact hn _ _ _ _ _ _ rfl)⟩
        rw [getB_set _ (getB_lt' hb), List.take_length]
    · rw [eq_app3]
      refine ⟨hy, rfl, rfl, ?_⟩
      rw [hb]
      refine ⟨rfl, rfl, by omega, hx, ?_⟩
      split
      · rename_i h0
        have : ys = [] := List.length_eq_zero_iff.1 (by omega)
        subst this
        refine ⟨by omega, rfl, hk _ _ (.inr ⟨b, some xs.length, opn, by simp, ?_, .inr (by simp)⟩) (by simp) fun c hcl hn => getB_set_ne _ (by rintro rfl; exact hn _ _ _ _ _ _ rfl)⟩
        rw [getB_set _ (getB_lt' hb)]
        simp
      · refine ⟨hr, hk _ _ (Own.hs (by simp) (by rw [getB_new, List.drop_zero, List.take_length]) (.inl rfl)) (by simp) fun c hcl _ => new _ c hcl⟩
theorem Own.app {sz by_ : Nat} {H : List Blk} {v : V} {xs ys : List V} {K : V → List Blk → Prop} (h : Own sz H v xs) (hx : Goods sz xs) (hy : Goods sz ys) (hr : roomy (xs.length + ys.length) by_) (hk : ∀ v' H', Own sz H' v' (xs ++ ys) → K v' H') : appK sz by_ v ys H K :=
  h.app' hx hy hr fun v' H' h' _ _ => hk v' H' h'
theorem Own.frz {im : Bool} {H : List Blk} {v : V} {l : List Int} (h : Own 1 H v (ints l)) (hl : l ≠ []) : Frz im H v (.vs (ints l)) := by
  rcases h with ⟨_, h⟩ | ⟨b, cap, opn, rfl, hb, _⟩
  · exact absurd (by simpa [ints] using h) hl
  · rw [ints_length]
    exact frz_row hb rfl rfl
theorem Own.isI {im : Bool} {H : List Blk} {v : V} {l : List Int} (h : Own 1 H v (ints l)) : ∃ v', IsI v' l ∧ Frz im H v v' := by
  rcases h with ⟨rfl, h⟩ | ⟨b, cap, opn, rfl, hb, _⟩
  · exact ⟨.nils, .inl ⟨rfl, by simpa [ints] using h⟩, .free .nils⟩
  · rw [ints_length]
    exact ⟨_, .inr rfl, frz_row hb rfl rfl⟩
theorem frz_tup2 {im : Bool} {H : List Blk} {a b a' b' : V} (h : Frz im H a a') (h' : Frz im H b b') : Frz im H (.tup [a, b]) (.tup [a', b']) := by
  refine .tup rfl fun i hi => ?_
  have : i = 0 ∨ i = 1 := by simp at hi; omega
  rcases this with rfl | rfl
  · exact h
  · exact h'

theorem wrap_of {k : IntKind} {n : Int} (h1 : k.min ≤ n) (h2 : n ≤ k.max) : k.wrap n = n := by
  cases k <;> simp [IntKind.min, IntKind.max, IntKind.signed, IntKind.bits] at h1 h2 <;> simp [IntKind.wrap, IntKind.signed, IntKind.bits] <;> (try split) <;> omega

theorem wrap64 {n : Int} (h1 : -9223372036854775808 ≤ n) (h2 : n ≤ 9223372036854775807) : IntKind.i64.wrap n = n := by
  rw [IntKind.wrap_i64]; omega

theorem typ_int {P : Program} {M : Nat} {t : TypeId} {k : IntKind} {v : V} (hu : P.underlying t = some (.int k)) (h : Typ P M t v) : ∃ n, v = .int k n ∧ k.min ≤ n ∧ n ≤ k.max := by
  obtain ⟨n, cs, rfl, h⟩ := h
  cases n with
  | zero => exact h.elim
  | succ n =>
    simp only [TypN, hu] at h
    obtain ⟨m, rfl, hw⟩ := h
    exact ⟨m, by simp [mkV, hu], by simpa [Lit.wf] using hw⟩

theorem typ_ints {P : Program} {M : Nat} {t e : TypeId} {v : V} (hu : P.underlying t = some (.slice e)) (he : P.underlying e = some (.int .i64)) (h : Typ P M t v) : ∃ l, IsI v l ∧ l.length ≤ M ∧ ∀ n ∈ l, IntKind.i64.min ≤ n ∧ n ≤ IntKind.i64.max := by
  obtain ⟨n, cs, rfl, h⟩ := h
  cases n with
  | zero => exact h.elim
  | succ n =>
    simp only [TypN, hu] at h
    rcases h with rfl | ⟨xs, rfl, hl, hx⟩
    · exact ⟨[], .inl ⟨by simp [mkV, hu], rfl⟩, by simp, by simp⟩
    · have : ∃ l : List Int, xs = ints l ∧ ∀ n ∈ l, IntKind.i64.min ≤ n ∧ n ≤ IntKind.i64.max := by
        clear hl
        induction xs with
        | nil => exact ⟨[], rfl, by simp⟩
        | cons x xs ih =>
          obtain ⟨l, rfl, hl⟩ := ih fun y hy => hx y (by simp [hy])
          obtain ⟨cs, hxe, hc⟩ := hx x (by simp)
          cases n with
          | zero => exact hc.elim
          | succ n =>
            simp only [TypN, he] at hc
            obtain ⟨m, rfl, hw⟩ := hc
            have hm : x = .int .i64 m := by rw [hxe]; simp [mkV, he]
            subst hm
            exact ⟨m :: l, rfl, by
              intro q hq
              rcases List.mem_cons.1 hq with rfl | hq
              · simpa [Lit.wf] using hw
              · exact hl q hq⟩
      obtain ⟨l, rfl, hw⟩ := this
      exact ⟨l, .inr (by simp [mkV, hu]), by simpa [ints_length] using hl, hw⟩

theorem typ_one {P : Program} {M : Nat} {t : TypeId} {Vs : List V} (h : TypAll P M [t] Vs) : ∃ v, Vs = [v] ∧ Typ P M t v := by
  rcases Vs with _ | ⟨v, _ | ⟨_, _⟩⟩ <;> first | exact h.elim | exact h.2.elim | exact ⟨v, rfl, h.1⟩
theorem typ_two {P : Program} {M : Nat} {t u : TypeId} {Vs : List V} (h : TypAll P M [t, u] Vs) : ∃ v x, Vs = [v, x] ∧ Typ P M t v ∧ Typ P M u x := by
  rcases Vs with _ | ⟨v, Vs⟩
  · exact h.elim
  · obtain ⟨x, rfl, hx⟩ := typ_one h.2
    exact ⟨v, x, rfl, h.1, hx⟩
theorem typ_three {P : Program} {M : Nat} {t u s : TypeId} {Vs : List V} (h : TypAll P M [t, u, s] Vs) : ∃ v x y, Vs = [v, x, y] ∧ Typ P M t v ∧ Typ P M u x ∧ Typ P M s y := by
  rcases Vs with _ | ⟨v, Vs⟩
  · exact h.elim
  · obtain ⟨x, y, rfl, hx, hy⟩ := typ_two h.2
    exact ⟨v, x, y, rfl, h.1, hx, hy⟩

theorem frzs1 {im : Bool} {H : List Blk} {a a' : V} (h : Frz im H a a') : Frzs im H [a] [a'] := ⟨rfl, fun i hi => by obtain rfl : i = 0 := (by simpa using hi); exact h⟩
theorem frzs2 {im : Bool} {H : List Blk} {a b a' b' : V} (h : Frz im H a a') (h' : Frz im H b b') : Frzs im H [a, b] [a', b'] := ⟨rfl, fun i hi => by
  have : i = 0 ∨ i = 1 := by simp at hi; omega
  rcases this with rfl | rfl
  · exact h
  · exact h'⟩
theorem glob0 (Z : Nat → Prop) (w : World) : GlobOK (fun _ => none) Z w := fun g cs h => by cases h

set_option linter.defProp false in
/-- The equations of a symbolic step, all in one. -/
def mwx := And.intro (And.intro (And.intro (And.intro (And.intro (And.intro (And.intro (And.intro @xw_start @xw_skip) (And.intro @xw_reg (And.intro @xw_seq @xw_cond))) (And.intro (And.intro @xw_block @xw_exit) (And.intro @xw_ret (And.intro @xw_label @xw_scope)))) (And.intro (And.intro (And.intro @xe_n_sc @xe_x_sc) (And.intro @xe_r_sc (And.intro @xe_n_jp @xe_x_jp))) (And.intro (And.intro @xe_r_jp @xw_goto) (And.intro @xe_g_jp (And.intro @xe_g_seq @xe_g_blk))))) (And.intro (And.intro (And.intro (And.intro @xe_g_lp @xe_nil) (And.intro @xe_n_seq (And.intro @xe_n_blk @xe_n_lp))) (And.intro (And.intro @xe_x_seq @xe_x_lp) (And.intro @xe_x_hit (And.intro @xe_x_miss @xe_r_seq)))) (And.intro (And.intro (And.intro @xe_r_lp @xe_r_blk) (And.intro @xk_some (And.intro @xk_none @xo_nil))) (And.intro (And.intro @xo_o (And.intro @xo_s @xo_go)) (And.intro @xo_gs (And.intro @xo_qq @xo_qg)))))) (And.intro (And.intro (And.intro (And.intro (And.intro @xg_sk @xg_tt) (And.intro @xg_tf (And.intro @xg_ft @xg_ff))) (And.intro (And.intro @xg_nt @xg_nf) (And.intro @xc_t (And.intro @xc_f @xc_n)))) (And.intro (And.intro (And.intro @atH_ap @bdk_ap) (And.intro @bsk_ap (And.intro @mkk_ap @apk_ap))) (And.intro (And.intro @cpn_ap (And.intro @jkk_ap @cpl_ap)) (And.intro @cll_ap (And.intro @azk_ap @cpk_ap))))) (And.intro (And.intro (And.intro (And.intro @b2k_ap @st_mv) (And.intro @st_pick (And.intro @st_new @st_box))) (And.intro (And.intro @st_bslice @st_s2b) (And.intro @st_mks (And.intro @st_mkm @st_build)))) (And.intro (And.intro (And.intro @st_ld @st_st) (And.intro @st_nchk (And.intro @st_bin @st_eqT))) (And.intro (And.intro @st_eqB (And.intro @st_nilq @st_un)) (And.intro @st_cvi (And.intro @st_b2s @st_mkf))))))) (And.intro (And.intro (And.intro (And.intro (And.intro (And.intro @st_slS @st_sl) (And.intro @st_slA (And.intro @st_fa @st_fld))) (And.intro (And.intro @st_ia @st_iaA) (And.intro @st_ixA (And.intro @st_ixS @st_ext)))) (And.intro (And.intro (And.intro @st_len @st_lenC) (And.intro @st_app (And.intro @st_appZ @st_capa))) (And.intro (And.intro @st_cpy (And.intro @st_clr @st_look)) (And.intro @st_mset (And.intro @st_mdel @st_rng))))) (And.intro (And.intro (And.intro (And.intro @st_nxt @st_ent) (And.intro @st_min (And.intro @st_max @st_call))) (And.intro (And.intro @st_callv @ints_cells) (And.intro @ints_take (And.intro @ints_drop @Nat.sub_zero)))) (And.intro (And.intro (And.intro @Nat.zero_le @getB_hd) (And.intro @getB_tl (And.intro @getB_new @goods_nil))) (And.intro (And.intro @goods_cons (And.intro @good_int @good_bool)) (And.intro @good_str (And.intro @good_vs @good_nils)))))) (And.intro (And.intro (And.intro (And.intro (And.intro @good_ptr @good_hs) (And.intro @good_agg (And.intro @ints_goods' @List.drop_zero.{0}))) (And.intro (And.intro @List.take_zero.{0} @List.take_succ_cons.{0}) (And.intro @List.drop_succ_cons.{0} (And.intro @pickK_t @pickK_f)))) (And.intro (And.intro (And.intro @pickK_n @ieq) (And.intro @ine (And.intro @wrap64 @ints_nil))) (And.intro (And.intro @ints_length (And.intro @ints_getD @List.map_cons.{0,0})) (And.intro @List.map_nil.{0,0} (And.intro @List.getD_cons_zero.{0} @List.getD_cons_succ.{0}))))) (And.intro (And.intro (And.intro (And.intro @List.length_cons.{0} @List.length_nil.{0}) (And.intro @Option.map_some.{0,0} (And.intro @Option.map_none.{0,0} @Option.isSome_none.{0}))) (And.intro (And.intro @Option.isSome_some.{0} @if_true.{1}) (And.intro @if_false.{1} (And.intro @decide_true @decide_false)))) (And.intro (And.intro (And.intro @Bool.not_true @Bool.not_false) (And.intro @Bool.not_not (And.intro @true_and @and_true))) (And.intro (And.intro @cond_true.{1} (And.intro @cond_false.{1} @Bool.true_and)) (And.intro @Bool.false_and (And.intro @Nat.zero_add @Nat.add_zero)))))))) (And.intro (And.intro (And.intro (And.intro (And.intro (And.intro (And.intro @List.nil_append.{0} @List.append_nil.{0}) (And.intro @not_false_eq_true (And.intro @not_true_eq_false @Bool.false_eq_true))) (And.intro (And.intro @Nat.lt_irrefl @Nat.le_refl) (And.intro @or_true (And.intro @true_or @false_or)))) (And.intro (And.intro (And.intro @Int.toNat_natCast @Int.natCast_nonneg) (And.intro @List.cons_append.{0} (And.intro @List.append_assoc.{0} @List.mem_cons.{0}))) (And.intro (And.intro @List.not_mem_nil.{0} (And.intro @List.replicate_succ.{0} @List.replicate_zero.{0})) (And.intro @List.set_cons_zero.{0} (And.intro @List.set_cons_succ.{0} @eq_ld1))))) (And.intro (And.intro (And.intro (And.intro @eq_ld2 @eq_ld3) (And.intro @eq_ld4 (And.intro @eq_st @eq_nchk1))) (And.intro (And.intro @eq_nchk2 @eq_nchk3) (And.intro @eq_iadd (And.intro @eq_isub @eq_imul)))) (And.intro (And.intro (And.intro @eq_iquo @eq_irem) (And.intro @eq_iand (And.intro @eq_ior @eq_ixor))) (And.intro (And.intro @eq_iandNot (And.intro @eq_ishl @eq_ishr)) (And.intro @eq_ieql (And.intro @eq_ineq @eq_ilss)))))) (And.intro (And.intro (And.intro (And.intro (And.intro @eq_ileq @eq_igtr) (And.intro @eq_igeq (And.intro @eq_sadd @eq_seql))) (And.intro (And.intro @eq_sneq @eq_slss) (And.intro @eq_sleq (And.intro @eq_sgtr @eq_sgeq)))) (And.intro (And.intro (And.intro @eq_not @eq_neg) (And.intro @eq_com (And.intro @eq_cvi @eq_el1))) (And.intro (And.intro @eq_el2 (And.intro @eq_el3 @eq_el4)) (And.intro @eq_len0 (And.intro @eq_len1 @eq_len2))))) (And.intro (And.intro (And.intro (And.intro @eq_len3 @eq_bnd1) (And.intro @eq_bnd2 (And.intro @eq_slS @eq_sl1))) (And.intro (And.intro @eq_sl2 @eq_slA) (And.intro @eq_fa1 (And.intro @eq_fa2 @eq_fld1)))) (And.intro (And.intro (And.intro @eq_fld2 @eq_ia1) (And.intro @eq_ia2 (And.intro @eq_iaA1 @eq_iaA2))) (And.intro (And.intro @eq_ixA (And.intro @eq_ixS @eq_ext)) (And.intro @eq_wr1 (And.intro @eq_wr2 @eq_wr3))))))) (And.intro (And.intro (And.intro (And.intro (And.intro (And.intro @eq_min @eq_mks) (And.intro @eq_s2b (And.intro @eq_sl3 @eq_sl4))) (And.intro (And.intro @eq_sl5 @eq_sl6) (And.intro @eq_cells_int (And.intro @eq_solid_int @eq_one_int)))) (And.intro (And.intro (And.intro @eq_isStr_int @eq_cells_bool) (And.intro @eq_solid_bool (And.intro @eq_one_bool @eq_isStr_bool))) (And.intro (And.intro @eq_cells_str (And.intro @eq_solid_str @eq_one_str)) (And.intro @eq_isStr_str (And.intro @eq_cells_vs @eq_solid_vs))))) (And.intro (And.intro (And.intro (And.intro @eq_one_vs @eq_isStr_vs) (And.intro @eq_cells_vp (And.intro @eq_solid_vp @eq_one_vp))) (And.intro (And.intro @eq_isStr_vp @eq_cells_nils) (And.intro @eq_solid_nils (And.intro @eq_one_nils @eq_isStr_nils)))) (And.intro (And.intro (And.intro @eq_cells_nilp @eq_solid_nilp) (And.intro @eq_one_nilp (And.intro @eq_isStr_nilp @eq_cells_nilf))) (And.intro (And.intro @eq_solid_nilf (And.intro @eq_one_nilf @eq_isStr_nilf)) (And.intro @eq_cells_hs (And.intro @eq_solid_hs @eq_one_hs)))))) (And.intro (And.intro (And.intro (And.intro (And.intro @eq_isStr_hs @eq_cells_ptr) (And.intro @eq_solid_ptr (And.intro @eq_one_ptr @eq_isStr_ptr))) (And.intro (And.intro @eq_cells_map @eq_solid_map) (And.intro @eq_one_map (And.intro @eq_isStr_map @eq_cells_fn)))) (And.intro (And.intro (And.intro @eq_solid_fn @eq_one_fn) (And.intro @eq_isStr_fn (And.intro @eq_cells_agg @eq_solid_agg))) (And.intro (And.intro @eq_one_agg (And.intro @eq_isStr_agg @eq_cells_tup)) (And.intro @eq_solid_tup (And.intro @eq_one_tup @eq_isStr_tup))))) (And.intro (And.intro (And.intro (And.intro @eq_cells_junk @eq_solid_junk) (And.intro @eq_one_junk (And.intro @eq_isStr_junk @eq_eqT))) (And.intro (And.intro @eq_eqs0 @eq_eqs1) (And.intro @eq_one0 (And.intro @eq_one1 @eq_one2)))) (And.intro (And.intro (And.intro @eq_nilq1 @eq_nilq2) (And.intro @eq_updf (And.intro @eq_updp @eq_subf))) (And.intro (And.intro @eq_subp (And.intro @eq_setnew @eq_eqB0)) (And.intro @eq_eqB1 (And.intro @eq_capa1 @eq_capa2))))))))

end Go.MW

