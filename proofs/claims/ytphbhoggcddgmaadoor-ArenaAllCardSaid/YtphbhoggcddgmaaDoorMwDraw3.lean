/- Regions whose order is drawn: all of it. -/
import Derived.Test.YtphbhoggcddgmaaDoorMwDraw2
namespace Go.MW
open Go Go.RowKit
set_option linter.unusedVariables false
set_option linter.unusedSimpArgs false

/-- How many are not done. -/
def undone (D : Nat → Bool) : Nat → Nat
  | 0 => 0
  | k + 1 => undone D k + if D k then 0 else 1

theorem undone_far {D : Nat → Bool} {i : Nat} : ∀ k, k ≤ i → undone (addD D i) k = undone D k
  | 0, _ => rfl
  | k + 1, h => by
    simp only [undone]
    rw [undone_far k (by omega)]
    have : k ≠ i := by omega
    simp [addD, this]

theorem undone_add {D : Nat → Bool} {i : Nat} (hD : D i = false) : ∀ k, i < k → undone (addD D i) k + 1 = undone D k
  | 0, h => by omega
  | k + 1, h => by
    simp only [undone]
    by_cases hk : k = i
    · subst hk
      rw [undone_far k (Nat.le_refl _)]
      simp [addD, hD]
    · have := undone_add hD k (by omega)
      have e : addD D i k = D k := by simp [addD, hk]
      rw [e]
      omega

theorem undone_zero {D : Nat → Bool} : ∀ k, undone D k = 0 → ∀ i, i < k → D i = true
  | 0, _, i, hi => by omega
  | k + 1, h, i, hi => by
    simp only [undone] at h
    by_cases hk : i = k
    · subst hk
      cases hd : D i with
      | true => rfl
      | false => rw [hd] at h; simp at h
    · exact undone_zero k (by omega) i (by omega)

theorem undone_none {D : Nat → Bool} (h : ∀ i, D i = false) : ∀ k, undone D k = k
  | 0 => rfl
  | k + 1 => by simp [undone, undone_none h k, h k]

theorem undone_congr {D D' : Nat → Bool} (h : ∀ i, D i = D' i) (k : Nat) : undone D k = undone D' k := by
  have : D = D' := funext h
  rw [this]

section
variable {P : Program} {G : Nat → Option (List V)} {B nt : Nat} {Φ0 : Nat → Option Pl} {Z0 : Nat → Prop} {w0 : World}

theorem compOps_get {ops : Array Oper} : ∀ (l : List Oper) (ms : List MO), compOps P nt ops.toList l = some ms → ms.length = l.length ∧ ∀ (i : Nat) (o : Oper), l[i]? = some o → ∃ m, ms[i]? = some m ∧ compOp P o.op = some m.op ∧ compGuard ops.toList nt o.guard = some m.gd ∧ dstOK nt o.dst = true ∧ m.dst = o.dst
  | [], ms, h => by simp [compOps] at h; subst h; simp
  | o :: l, ms, h => by
    simp only [compOps] at h
    split at h <;> try (simp at h; done)
    rename_i m g ms' hm hg hms
    split at h <;> simp at h
    rename_i hdst
    subst h
    obtain ⟨h1, h2⟩ := compOps_get l ms' hms
    refine ⟨by simp [h1], fun i o' hi => ?_⟩
    cases i with
    | zero =>
      simp at hi
      subst hi
      exact ⟨_, rfl, hm, hg, hdst, rfl⟩
    | succ i => simpa using h2 i o' (by simpa using hi)

theorem exists_first {p : Nat → Bool} {n : Nat} (h : ∃ i, i < n ∧ p i = false) : ∃ i, i < n ∧ p i = false ∧ ∀ j, j < i → p j = true := by
  obtain ⟨i, hi, hp⟩ := h
  induction i using Nat.strongRecOn with
  | _ i ih =>
    by_cases hj : ∃ j, j < i ∧ p j = false
    · obtain ⟨j, hj, hpj⟩ := hj
      exact ih j hj (by omega) hpj
    · refine ⟨i, hi, hp, fun j hj' => ?_⟩
      cases hpj : p j with
      | true => rfl
      | false => exact absurd ⟨j, hj', hpj⟩ hj

theorem getD_ft {listed : Array Bool} {i : Nat} (h : i < listed.size) (d : Bool) : listed.getD i d = listed.getD i false := by
  simp [Array.getD, h]

section
variable {ops : Array Oper} {ms : List MO} {v : Nat → V} {h : Nat → List Blk} {fr : Nat → Fr} {run : Nat → Bool} {M : Exit → St → Prop}

theorem draw_any (cx : DCtx P G nt ops ms (ancs ops.toList []) v h fr run) (hed : edgesOK 0 ops.toList = true) (hM : M .normal ⟨fr ms.length, h ms.length⟩) :
    ∀ (fuel : Nat) (listed : Array Bool) (a : Act) (w : World) (Φ : Nat → Option Pl) (Z : Nat → Prop) (c : Nat), listed.size = ops.size → undone (fun i => listed.getD i false) ms.length = fuel →
      Inv P G B nt Φ0 Z0 w0 ms (ancs ops.toList []) v h fr run (fun i => listed.getD i false) a w Φ Z c → wpAny P .any ops (Lift G B nt Φ0 Z0 w0 M) fuel listed a w := by
  have done : ∀ (listed : Array Bool) (a : Act) (w : World) (Φ : Nat → Option Pl) (Z : Nat → Prop) (c : Nat), (∀ i, i < ms.length → listed.getD i false = true) →
      Inv P G B nt Φ0 Z0 w0 ms (ancs ops.toList []) v h fr run (fun i => listed.getD i false) a w Φ Z c → Lift G B nt Φ0 Z0 w0 M .normal a w := by
    intro listed a w Φ Z c hall inv
    have hc : c = ms.length := by
      rcases Nat.lt_or_ge c ms.length with h1 | h1
      · have := (inv.cat h1).1
        rw [hall c h1] at this
        cases this
      · have := inv.cle; omega
    have hrel := inv.rel
    rw [hc] at hrel
    refine ⟨_, hM, Φ, Z, hrel, fun t => ?_, inv.ev, inv.sz, inv.df⟩
    have := inv.frr t
    rw [frl_ext (D' := fun _ => true) _ (fun j hj _ => hall j hj), text_frame cx.tr t _ (Nat.le_refl _)] at this
    exact this
  have rest : ∀ (listed : Array Bool), listed.size = ops.size → Region.ready .any ops listed = [] → ∀ i, i < ms.length → listed.getD i false = true := by
    intro listed hsz hr i hi
    cases hd : listed.getD i false with
    | true => rfl
    | false =>
      exfalso
      obtain ⟨k, hk, hkd, hbe⟩ := exists_first (p := fun i => listed.getD i false) (n := ms.length) ⟨i, hi, hd⟩
      have hkl : k < ops.size := by rw [← cx.len]; exact hk
      have : k ∈ Region.ready .any ops listed := by
        rw [mem_ready]
        refine ⟨by rw [getD_ft (by omega)]; exact hkd, ops[k], Array.getElem?_eq_getElem hkl, fun e he hb => ?_⟩
        have := edgesOK_spec ops.toList 0 k ops[k] hed (by simp [hkl]) e he hb
        exact hbe e.on (by omega)
      rw [hr] at this
      cases this
  intro fuel
  induction fuel with
  | zero =>
    intro listed a w Φ Z c hsz hu inv
    have hall := undone_zero ms.length hu
    refine ⟨?_, done listed a w Φ Z c hall inv⟩
    refine List.eq_nil_iff_forall_not_mem.2 fun j hj => ?_
    rw [mem_ready] at hj
    obtain ⟨h1, o, ho, _⟩ := hj
    have hjl : j < ops.size := (Array.getElem?_eq_some_iff.1 ho).1
    rw [getD_ft (by omega), hall j (by rw [cx.len]; exact hjl)] at h1
    cases h1
  | succ fuel ih =>
    intro listed a w Φ Z c hsz hu inv
    refine ⟨fun hr => done listed a w Φ Z c (rest listed hsz hr) inv, fun i hi => ?_⟩
    rw [mem_ready] at hi
    obtain ⟨h1, o, ho, hedge⟩ := hi
    have hil : i < ops.size := (Array.getElem?_eq_some_iff.1 ho).1
    have him : i < ms.length := by rw [cx.len]; exact hil
    have hD : listed.getD i false = false := by rw [getD_ft (by omega)] at h1; exact h1
    have hadd : ∀ j, (listed.setIfInBounds i true).getD j false = addD (fun i => listed.getD i false) i j := by
      intro j
      by_cases hj : j = i
      · subst hj
        simp [addD, Array.getD, show j < listed.size by omega]
      · rw [getD_set_ne false (Ne.symm hj)]
        simp [addD, hj]
    have hadd' : (fun j => (listed.setIfInBounds i true).getD j false) = addD (fun i => listed.getD i false) i := funext hadd
    refine draw_step cx him inv hD (fun j hj => ?_) fun a' w' Φ' Z' c' inv' => ?_
    · have hlt := edgesOK_spec ops.toList 0 i o hed (by simpa using ho)
      obtain ⟨e, he, hb, hor⟩ := ancs_spec ops.toList [] i o j (by simpa using ho) (by simpa using hlt) (by simpa [MW.ahead] using hj)
      have hde := hedge e he hb
      rcases hor with rfl | hor
      · exact hde
      · exact (inv.clo e.on hde).2 j hor
    · refine ih _ a' w' Φ' Z' c' (by simpa using hsz) ?_ (by rw [hadd']; exact inv')
      rw [hadd']
      have := undone_add (D := fun i => listed.getD i false) hD ms.length him
      omega

end

theorem markQ_get {bs : List Nat} {ms : List MO} {i : Nat} (h : i < ms.length) : (markQ bs ms)[i]? = some { ms.getD i noMO with q := (ms.getD i noMO).op.kind == 2 && beside bs ms i } := by
  unfold markQ
  rw [List.getElem?_map, List.getElem?_range h]
  rfl

theorem drawn (hP : P.follows .mixedOrders = true) : Drawn P G := by
  intro B nt Φ0 Z0 w0 id ops ms M st a w hc hm hat
  simp only [comp] at hc
  split at hc <;> try (simp at hc; done)
  rename_i ms0 hms
  simp only [if_true] at hc
  split at hc <;> simp at hc
  rename_i hck
  rw [Bool.and_eq_true] at hck
  obtain ⟨hed, hdr⟩ := hck
  rw [hc] at hdr
  obtain ⟨hlen0, hget⟩ := compOps_get _ _ hms
  have hlen : ms.length = ops.size := by rw [← hc]; simp [markQ, hlen0]
  obtain ⟨v, h, fr, run, e1, e2, e3, tr⟩ := mops_trace ms _ st hm
  have cx : DCtx P G nt ops ms (ancs ops.toList []) v h fr run := by
    refine ⟨fun i o ho => ?_, hlen, tr, fun i j hij hj hcf => ?_⟩
    · have hi : i < ops.size := (Array.getElem?_eq_some_iff.1 ho).1
      obtain ⟨m, h1, h2, h3, h4, h5⟩ := hget i o (by simpa using ho)
      have hi0 : i < ms0.length := by rw [hlen0]; simpa using hi
      have hmi := markQ_get (bs := ancs ops.toList []) hi0
      rw [hc] at hmi
      have hm0 : ms0.getD i noMO = m := by simp [List.getD_eq_getElem?_getD, h1]
      rw [hm0] at hmi
      have hmd : ms.getD i noMO = { m with q := m.op.kind == 2 && beside (ancs ops.toList []) ms0 i } := by simp [List.getD_eq_getElem?_getD, hmi]
      rw [hmd]
      exact ⟨hmi, h2, h3, h4, h5⟩
    · simp only [drawOK, List.all_eq_true, List.mem_range, Bool.or_eq_true, Bool.not_eq_true'] at hdr
      rcases hdr j hj i hij with h1 | h1
      · rw [hcf] at h1; cases h1
      · exact h1
  obtain ⟨Φ, Z, hrel, hf, hev, hsz, hdf⟩ := hat
  refine wp_region_any hP ?_
  have hD : ∀ i, (Array.replicate ops.size false).getD i false = false := by
    intro i
    simp only [Array.getD_eq_getD_getElem?, Array.getElem?_replicate]
    split <;> rfl
  obtain ⟨c, _, hc2, hc3, hc4⟩ := nextW ms _ 0 rfl (by omega)
  obtain ⟨T, hT⟩ := tr.seg c (by omega) hc2 hc4
  have hrel' : Rel G B Φ Z (h c) w := by
    rw [hT, e2]; exact hrel.extend T
  refine draw_any cx hed e3 ops.size _ a _ Φ Z c (by simp) (by rw [undone_none (fun i => hD i), hlen]) ⟨hc2, fun h1 => ⟨hD c, hc3 h1⟩, fun j hj hw => ?_, hrel'.heap rfl, fun t => ?_, hev.trans (Ev.drew _ _ _ _), hsz, hdf, fun i hi _ _ _ => ?_, fun j hj => ?_⟩
  · rw [hc4 j (by omega) hj] at hw; cases hw
  · rw [frl_skip (k := 0) ms.length (by omega) (fun j _ _ _ => hD j)]
    have := hf t
    rw [← e1] at this
    exact this.ev (Ev.drew B Φ Z w)
  · obtain ⟨T', hT'⟩ := tr.seg (i := 0) i (by omega) (by omega) fun j h1 h2 => hc4 j h1 (by omega)
    refine hrel.none_of_le ?_
    rw [hT', e2, List.length_append]; omega
  · rw [hD] at hj; cases hj

end
end Go.MW
