/- Regions whose order is drawn: the proof. -/
import Derived.Test.YtphbhoggcddgmaaDoorMwDraw
namespace Go.MW
open Go Go.RowKit
set_option linter.unusedVariables false
set_option linter.unusedSimpArgs false

/-- Rows keep their kind, and do not shrink. -/
def SameK : Blk → Blk → Prop
  | .row sz xs _ _, .row sz' xs' _ _ => sz = sz' ∧ xs.length ≤ xs'.length
  | .map _, .map _ => True
  | _, _ => False
def Grow (H H' : List Blk) : Prop := ∀ (b : Nat) (k : Blk), H[b]? = some k → ∃ k' : Blk, H'[b]? = some k' ∧ SameK k k'
theorem SameK.refl (k : Blk) : SameK k k := by cases k <;> simp [SameK]
theorem SameK.trans {a b c : Blk} (h : SameK a b) (h' : SameK b c) : SameK a c := by
  cases a <;> cases b <;> cases c <;> simp [SameK] at * <;> omega
theorem Grow.refl (H : List Blk) : Grow H H := fun b k h => ⟨k, h, .refl k⟩
theorem Grow.trans {H H' H'' : List Blk} (h : Grow H H') (h' : Grow H' H'') : Grow H H'' := fun b k hb => by
  obtain ⟨k', h1, h2⟩ := h b k hb
  obtain ⟨k'', h3, h4⟩ := h' b k' h1
  exact ⟨k'', h3, h2.trans h4⟩
theorem Grow.app (H T : List Blk) : Grow H (H ++ T) := fun b k h => ⟨k, by rw [List.getElem?_append_left (List.getElem?_eq_some_iff.1 h).1]; exact h, .refl k⟩
theorem getB_some {H : List Blk} {b : Nat} {sz : Nat} {xs : List V} {o f : Bool} (h : getB H b = .row sz xs o f) : H[b]? = some (.row sz xs o f) := by
  unfold getB at h
  rw [List.getD_eq_getElem?_getD] at h
  cases hb : H[b]? with
  | none => rw [hb] at h; cases h
  | some k => rw [hb] at h; exact congrArg some h
theorem Grow.set {H : List Blk} {b sz : Nat} {xs xs' : List V} {o f o' f' : Bool} (h : getB H b = .row sz xs o f) (hl : xs.length ≤ xs'.length) : Grow H (H.set b (.row sz xs' o' f')) := by
  intro c k hc
  have hlt := (List.getElem?_eq_some_iff.1 hc).1
  by_cases e : b = c
  · subst e
    refine ⟨_, by rw [List.getElem?_set_self hlt], ?_⟩
    rw [getB_some h] at hc
    obtain rfl := Option.some.inj hc
    exact ⟨rfl, hl⟩
  · exact ⟨k, by rw [List.getElem?_set_ne e]; exact hc, .refl k⟩

section
variable {P : Program} {G : Nat → Option (List V)}
theorem elemsK_out {H : List Blk} {x : V} {K : List V → Prop} (h : elemsK H x K) : ∃ ys, K ys := by
  unfold elemsK at h
  split at h
  · exact ⟨_, h⟩
  · exact ⟨_, h⟩
  · exact ⟨_, h⟩
  · split at h
    · obtain ⟨_, h⟩ := h
      split at h
      · exact ⟨_, h.2⟩
      · exact ⟨_, h.2.2.2.2⟩
    · exact h.elim
  · exact h.elim
theorem lenK_out {k : Nat} {H : List Blk} {x : V} {K : V → Prop} (h : lenK k H x K) : ∃ v, K v := by
  unfold lenK at h
  split at h <;> first | exact ⟨_, h⟩ | exact h.elim | skip
  obtain ⟨_, h⟩ := h
  split at h
  · exact ⟨_, h⟩
  · exact h.elim
theorem wrK_grow {sz : Nat} {x : V} {ys : List V} {H H1 : List Blk} (h : wrK sz x ys H fun H' => H' = H1) : Grow H H1 := by
  unfold wrK at h
  obtain ⟨_, h⟩ := h
  split at h
  · obtain ⟨_, hlen, h⟩ := h
    split at h
    · rename_i hb
      obtain ⟨hn, hf, h⟩ := h
      split at h
      · obtain ⟨hi, rfl⟩ := h
        exact Grow.set hb (by simp only [List.length_append, List.length_take, List.length_drop]; omega)
      · obtain ⟨_, _, _, _, rfl⟩ := h
        exact Grow.set hb (by simp)
    · exact h.elim
  · obtain ⟨_, rfl⟩ := h; exact .refl _
  · obtain ⟨_, rfl⟩ := h; exact .refl _
  · exact h.elim
theorem appK_grow {sz by_ : Nat} {x : V} {ys : List V} {H H1 : List Blk} (h : appK sz by_ x ys H fun _ H' => H' = H1) : Grow H H1 := by
  unfold appK at h
  obtain ⟨_, h⟩ := h
  split at h
  · split at h
    · obtain rfl := h; exact .refl _
    · obtain ⟨_, rfl⟩ := h; exact .app _ _
  · obtain ⟨_, rfl⟩ := h; exact .refl _
  · obtain ⟨_, _, h⟩ := h
    split at h
    · rename_i hb
      obtain ⟨hsz, hn, hi, _, h⟩ := h
      subst hsz
      split at h
      · split at h
        · obtain ⟨_, _, rfl⟩ := h
          exact Grow.set hb (by simp only [List.length_append, List.length_take, List.length_drop]; omega)
        · obtain ⟨_, rfl⟩ := h; exact .app _ _
      · split at h
        · obtain ⟨_, rfl⟩ := h
          exact Grow.set hb (by simp only [List.length_append, List.length_take, List.length_drop]; omega)
        · obtain ⟨_, _, _, rfl⟩ := h
          exact Grow.set hb (by simp only [List.length_append, List.length_take, List.length_drop]; omega)
    · exact h.elim
  · exact h.elim
/-- What writes keeps the rows. -/
theorem step_grow {q : Bool} {m : MOp} {fr : Fr} {H H1 : List Blk} (hk : m.kind = 3) (h : stepM P G q m fr H fun _ H' => H' = H1) : Grow H H1 := by
  cases m <;> simp [MOp.kind] at hk
  · simp only [stepM, stK] at h
    obtain ⟨_, h⟩ := h
    split at h
    · split at h
      · rename_i hb
        obtain ⟨_, _, _, _, rfl⟩ := h
        exact Grow.set hb (by simp)
      · exact h.elim
    · exact h.elim
  · simp only [stepM] at h
    obtain ⟨ys, h⟩ := elemsK_out h
    exact appK_grow h
  · simp only [stepM] at h
  · simp only [stepM] at h
    obtain ⟨ys, h⟩ := elemsK_out h
    obtain ⟨v, h⟩ := lenK_out h
    split at h
    · exact wrK_grow h
    · exact h.elim
  · simp only [stepM] at h
    obtain ⟨v, h⟩ := lenK_out h
    split at h
    · exact wrK_grow h
    · exact h.elim
  · simp only [stepM] at h
  · simp only [stepM] at h

theorem Trace.rows {ms : List MO} {v : Nat → V} {h : Nat → List Blk} {fr : Nat → Fr} {run : Nat → Bool} (tr : Trace P G ms v h fr run) {i : Nat} : ∀ c, i ≤ c → c ≤ ms.length → (∀ j, i ≤ j → j < c → (ms.getD j noMO).isW = true → (ms.getD j noMO).op.kind = 3) → Grow (h i) (h c)
  | 0, h1, _, _ => by rw [show i = 0 by omega]; exact .refl _
  | c + 1, h1, h2, hw => by
    by_cases hc : i = c + 1
    · rw [hc]; exact .refl _
    · have ih := tr.rows c (by omega) (by omega) fun j hj hj' => hw j hj (by omega)
      refine ih.trans ?_
      have hlt : c < ms.length := by omega
      have hm : ms[c]? = some (ms.getD c noMO) := by simp [List.getD_eq_getElem?_getD, hlt]
      cases hW : (ms.getD c noMO).isW with
      | false =>
        obtain ⟨T, hT⟩ := tr.grow hm hW
        rw [hT]
        exact .app _ _
      | true =>
        have hk := hw c (by omega) (by omega) hW
        cases hr : run c with
        | false => rw [(tr.no c _ hm hr).2]; exact .refl _
        | true => exact step_grow hk (tr.yes c _ hm hr (fun _ H' => H' = h (c + 1)) rfl)

theorem bnd_mono {d : Nat} {x : Option V} {K K' : Nat → Prop} (h : bnd d x K) (hk : ∀ n, K n → K' n) : bnd d x K' := by
  unfold bnd at h ⊢
  split at h
  · exact hk _ h
  · exact ⟨h.1, hk _ h.2⟩
  · exact h.elim
/-- The rows that a slice's head knows are as long in both heaps. -/
def AsLong (H H2 : List Blk) (b n : Nat) : Prop := ∀ sz xs o f, getB H b = .row sz xs o f → xs.length = n → ∃ xs' o' f', getB H2 b = .row sz xs' o' f' ∧ xs'.length = n
theorem slHK_same {H H2 : List Blk} {b n i j : Nat} {cap : Option Nat} {sz l h : Nat} {K : V → Prop} (hs : AsLong H H2 b n) (hh : slHK H b n i j cap sz l h K) : slHK H2 b n i j cap sz l h K := by
  unfold slHK at hh ⊢
  split at hh
  · rename_i hb
    obtain ⟨h1, h2⟩ := hh
    obtain ⟨xs', o', f', h3, h4⟩ := hs _ _ _ _ hb h1
    rw [h3]
    exact ⟨h4, h2⟩
  · exact hh.elim
theorem slK_same {H H2 : List Blk} {sz : Nat} {x : V} {lo hi mx : Option V} {K : V → Prop} (hs : ∀ b n i j len cap sz, x = .hs b n i j len cap sz → AsLong H H2 b n) (hh : slK H sz x lo hi mx K) : slK H2 sz x lo hi mx K := by
  unfold slK at hh ⊢
  obtain ⟨h0, hh⟩ := hh
  refine ⟨h0, ?_⟩
  split at hh
  · exact hh
  · exact hh
  · obtain ⟨h1, hh⟩ := hh
    refine ⟨h1, ?_⟩
    have hs' := hs _ _ _ _ _ _ _ rfl
    split at hh
    · exact bnd_mono hh fun _ h => ⟨h.1, bnd_mono h.2 fun _ h => ⟨h.1, slHK_same hs' h.2⟩⟩
    · exact bnd_mono hh fun _ h => ⟨h.1, bnd_mono h.2 fun _ h => ⟨h.1, slHK_same hs' h.2⟩⟩
    · exact bnd_mono hh fun _ h => ⟨h.1, bnd_mono h.2 fun _ h => ⟨h.1, bnd_mono h.2 fun _ h => ⟨h.1, slHK_same hs' h.2⟩⟩⟩
    · exact bnd_mono hh fun _ h => ⟨h.1, bnd_mono h.2 fun _ h => ⟨h.1, bnd_mono h.2 fun _ h => ⟨h.1, slHK_same hs' h.2⟩⟩⟩
  · exact hh.elim
theorem slAK_same {H H2 : List Blk} {n sz : Nat} {x : V} {lo hi mx : Option V} {K : V → Prop} (hs : ∀ b n i j, x = .ptr b n i j → AsLong H H2 b n) (hh : slAK H n sz x lo hi mx K) : slAK H2 n sz x lo hi mx K := by
  unfold slAK at hh ⊢
  obtain ⟨h0, hh⟩ := hh
  refine ⟨h0, ?_⟩
  split at hh
  · exact bnd_mono hh fun _ h => ⟨h.1, bnd_mono h.2 fun _ h => ⟨h.1, bnd_mono h.2 fun _ h => ⟨h.1, slHK_same (hs _ _ _ _ rfl) h.2⟩⟩⟩
  · exact hh.elim
theorem iaK_same {H H2 : List Blk} {sz : Nat} {x i : V} {K : V → Prop} (hs : ∀ b n i j len cap sz, x = .hs b n i j len cap sz → AsLong H H2 b n) (hh : iaK H sz x i K) : iaK H2 sz x i K := by
  unfold iaK at hh ⊢
  split at hh
  · exact hh
  · obtain ⟨h1, h2, h3, hh⟩ := hh
    refine ⟨h1, h2, h3, ?_⟩
    split at hh
    · rename_i hb
      obtain ⟨h4, h5⟩ := hh
      obtain ⟨xs', o', f', h6, h7⟩ := hs _ _ _ _ _ _ _ rfl _ _ _ _ hb h4
      rw [h6]
      exact ⟨h7, h5⟩
    · exact hh.elim
  · exact hh.elim
/-- An operation that looks at a slice's head alone. -/
theorem hdr_same {q : Bool} {m : MOp} {fr : Fr} {H H2 H0 : List Blk} {v : V} (hm : m.hdr = true) (hs : ∀ t, .t t ∈ m.opds → ∀ b n, (∃ i j, get fr t = .ptr b n i j) ∨ (∃ i j len cap sz, get fr t = .hs b n i j len cap sz) → AsLong H H2 b n)
    (h : stepM P G q m fr H fun v' H' => v' = v ∧ H' = H0) : stepM P G q m fr H2 fun v' H' => v' = v ∧ H' = H2 := by
  have fin : ∀ {u : V}, (u = v ∧ H = H0) → (u = v ∧ True) := fun h => ⟨h.1, trivial⟩
  unfold MOp.hdr at hm
  split at hm
  · simp only [stepM, ev] at h ⊢
    have := slK_same (fun b n i j len cap sz e => hs _ (by simp [MOp.opds]) b n (.inr ⟨_, _, _, _, _, e⟩)) h
    obtain ⟨u, hu, hk⟩ := (slK_det _ _ _ _ _).same this
    exact hk _ (fin hu)
  · simp only [stepM, ev] at h ⊢
    have := slAK_same (fun b n i j e => hs _ (by simp [MOp.opds]) b n (.inl ⟨_, _, e⟩)) h
    obtain ⟨u, hu, hk⟩ := (slAK_det _ _ _ _ _ _).same this
    exact hk _ (fin hu)
  · simp only [stepM, ev] at h ⊢
    have := iaK_same (fun b n i j len cap sz e => hs _ (by simp [MOp.opds]) b n (.inr ⟨_, _, _, _, _, e⟩)) h
    obtain ⟨u, hu, hk⟩ := (iaK_det _ _ _).same this
    exact hk _ (fin hu)
  · rename_i k t
    simp only [stepM, ev] at h ⊢
    unfold lenK at h ⊢
    split at h
    · exact fin h
    · exact fin h
    · exact fin h
    · exact fin h
    · simp at hm
    · exact h.elim
  · cases hm

end

theorem hdr_kind {m : MOp} (h : m.kind ≠ 0) : m.hdr = false := by
  cases hm : m.hdr with
  | false => rfl
  | true =>
    unfold MOp.hdr at hm
    split at hm <;> first | exact absurd rfl h | cases hm

structure DCtx (P : Program) (G : Nat → Option (List V)) (nt : Nat) (ops : Array Oper) (ms : List MO) (bs : List Nat) (v : Nat → V) (h : Nat → List Blk) (fr : Nat → Fr) (run : Nat → Bool) : Prop where
  hops : ∀ i o, ops[i]? = some o → ms[i]? = some (ms.getD i noMO) ∧ compOp P o.op = some (ms.getD i noMO).op ∧ compGuard ops.toList nt o.guard = some (ms.getD i noMO).gd ∧ dstOK nt o.dst = true ∧ (ms.getD i noMO).dst = o.dst
  len : ms.length = ops.size
  tr : Trace P G ms v h fr run
  ord : ∀ i j, i < j → j < ms.length → conflict (ms.getD i noMO) (ms.getD j noMO) = true → MW.ahead bs i j = true

def dstOf (ms : List MO) (i : Nat) : Option Nat := (ms.getD i noMO).dst

def addD (D : Nat → Bool) (i : Nat) : Nat → Bool := fun j => decide (j = i) || D j

structure Inv (P : Program) (G : Nat → Option (List V)) (B nt : Nat) (Φ0 : Nat → Option Pl) (Z0 : Nat → Prop) (w0 : World) (ms : List MO) (bs : List Nat) (v : Nat → V) (h : Nat → List Blk) (fr : Nat → Fr) (run : Nat → Bool) (D : Nat → Bool) (a : Act) (w : World) (Φ : Nat → Option Pl) (Z : Nat → Prop) (c : Nat) : Prop where
  cle : c ≤ ms.length
  cat : c < ms.length → D c = false ∧ (ms.getD c noMO).isW = true
  cbe : ∀ j, j < c → (ms.getD j noMO).isW = true → D j = true
  rel : Rel G B Φ Z (h c) w
  frr : FrR Φ Z w (frl (dstOf ms) v (fr 0) D ms.length) a
  ev : Ev B Φ0 Z0 w0 Φ Z w
  sz : a.tmps.size = nt
  df : a.defers = []
  pend : ∀ i, i < c → D i = false → run i = true → (ms.getD i noMO).op.kind = 1 → Φ (h i).length = none
  clo : ∀ j, D j = true → j < ms.length ∧ ∀ i, MW.ahead bs i j = true → D i = true

section
variable {P : Program} {G : Nat → Option (List V)} {B nt : Nat} {Φ0 : Nat → Option Pl} {Z0 : Nat → Prop} {w0 : World} {ops : Array Oper} {ms : List MO} {bs : List Nat} {v : Nat → V} {h : Nat → List Blk} {fr : Nat → Fr} {run : Nat → Bool} {D : Nat → Bool} {a : Act} {w : World} {Φ : Nat → Option Pl} {Z : Nat → Prop} {c : Nat}

theorem conflict_iff {x y : MO} : conflict x y = true ↔ ((∃ d, x.dst = some d ∧ (d ∈ y.looks ∨ y.dst = some d)) ∨ (∃ d, y.dst = some d ∧ d ∈ x.looks) ∨ (x.isW = true ∧ y.op.heat ≠ 0 ∧ (y.op.hdr = false ∨ x.op.kind ≠ 3)) ∨ (x.op.heat ≠ 0 ∧ y.isW = true)) := by
  unfold conflict
  cases hx : x.dst <;> cases hy : y.dst <;> simp [or_assoc, and_assoc]

theorem text_frame (tr : Trace P G ms v h fr run) (t : Nat) : ∀ k, k ≤ ms.length → get (frl (dstOf ms) v (fr 0) (fun _ => true) k) t = get (fr k) t
  | 0, _ => rfl
  | k + 1, hk => by
    have hm : ms[k]? = some (ms.getD k noMO) := by simp [List.getD_eq_getElem?_getD, show k < ms.length by omega]
    rw [frl_succ, tr.frs k _ hm, get_put, text_frame tr t k (by omega)]
    simp [dstOf]

/-- What an operation that may be next looks at is as in text. -/
theorem look_same (cx : DCtx P G nt ops ms bs v h fr run) (hclo : ∀ j, D j = true → j < ms.length ∧ ∀ i, MW.ahead bs i j = true → D i = true) {i : Nat} (hi : i < ms.length) (hD : D i = false) (hr : ∀ j, MW.ahead bs j i = true → D j = true) {t : Nat} (ht : t ∈ (ms.getD i noMO).looks) :
    get (frl (dstOf ms) v (fr 0) D ms.length) t = get (fr i) t := by
  rw [frl_skip (k := i) ms.length (by omega), frl_ext (D' := fun _ => true) i, text_frame cx.tr t i (by omega)]
  · intro j hj hd
    have := cx.ord j i hj hi (conflict_iff.2 (.inl ⟨t, hd, .inl ht⟩))
    exact hr j this
  · intro j hj hj' hd
    by_cases hji : j = i
    · rw [hji]; exact hD
    · have := cx.ord i j (by omega) hj' (conflict_iff.2 (.inr (.inl ⟨t, hd, ht⟩)))
      cases hDj : D j with
      | false => rfl
      | true =>
        rw [(hclo j hDj).2 i this] at hD
        cases hD

/-- The frame behind an operation. -/
theorem frame_add (cx : DCtx P G nt ops ms bs v h fr run) (hclo : ∀ j, D j = true → j < ms.length ∧ ∀ i, MW.ahead bs i j = true → D i = true) {i : Nat} (hi : i < ms.length) (hD : D i = false) (t : Nat) :
    get (frl (dstOf ms) v (fr 0) (addD D i) ms.length) t = get (put (dstOf ms i) (v i) (frl (dstOf ms) v (fr 0) D ms.length)) t := by
  rw [get_put]
  split
  · rename_i hd
    rw [frl_skip (k := i + 1) ms.length (by omega), frl_succ, if_pos ⟨by simp [addD], hd⟩]
    intro j hj hj' hd'
    have := cx.ord i j (by omega) hj' (conflict_iff.2 (.inl ⟨t, hd, .inr hd'⟩))
    cases hDj : D j with
    | false => simp [addD, hDj]; omega
    | true =>
      rw [(hclo j hDj).2 i this] at hD
      cases hD
  · rename_i hd
    refine frl_ext _ fun j hj hd' => ?_
    have : j ≠ i := by rintro rfl; exact hd hd'
    simp [addD, this]

theorem mem_looks {m : MO} {t : Nat} (h : Opd.t t ∈ m.op.opds) : t ∈ m.looks := by
  unfold MO.looks
  exact List.mem_append_left _ (List.mem_filterMap.2 ⟨.t t, h, rfl⟩)

theorem nextW (ms : List MO) : ∀ d k, ms.length - k = d → k ≤ ms.length → ∃ c, k ≤ c ∧ c ≤ ms.length ∧ (c < ms.length → (ms.getD c noMO).isW = true) ∧ ∀ j, k ≤ j → j < c → (ms.getD j noMO).isW = false
  | 0, k, hd, hk => ⟨ms.length, by omega, Nat.le_refl _, fun h => by omega, fun j h1 h2 => by omega⟩
  | d + 1, k, hd, hk => by
    cases hw : (ms.getD k noMO).isW with
    | true => exact ⟨k, Nat.le_refl _, hk, fun _ => hw, fun j h1 h2 => by omega⟩
    | false =>
      obtain ⟨c, h1, h2, h3, h4⟩ := nextW ms d (k + 1) (by omega) (by omega)
      refine ⟨c, by omega, h2, h3, fun j h5 h6 => ?_⟩
      by_cases hj : j = k
      · rw [hj]; exact hw
      · exact h4 j (by omega) h6

theorem isW_cool {m : MO} (h : m.op.kind = 0 ∨ m.op.kind = 1) : m.isW = false := by
  unfold MO.isW
  rcases h with h | h <;> rw [h] <;> rfl

theorem isW_kind {m : MO} (h : m.isW = true) : 2 ≤ m.op.kind := by
  simp [MO.isW] at h
  omega

theorem Rel.none_of_le {H : List Blk} (hrel : Rel G B Φ Z H w) {b : Nat} (h : H.length ≤ b) : Φ b = none := by
  cases hp : Φ b with
  | none => rfl
  | some p =>
    obtain ⟨k, hk, _⟩ := hrel.blk _ _ hp
    have := (List.getElem?_eq_some_iff.1 hk).1
    omega

/-- One operation, any that may be next. -/
theorem draw_step (cx : DCtx P G nt ops ms bs v h fr run) {Q : Exit → Act → World → Prop} {next : Act → World → Prop} {i : Nat} (hi : i < ms.length) (inv : Inv P G B nt Φ0 Z0 w0 ms bs v h fr run D a w Φ Z c) (hD : D i = false) (hr : ∀ j, MW.ahead bs j i = true → D j = true)
    (hn : ∀ a' w' Φ' Z' c', Inv P G B nt Φ0 Z0 w0 ms bs v h fr run (addD D i) a' w' Φ' Z' c' → next a' w') : wpOp P ops Q i next a w := by
  have hlt : i < ops.size := by rw [← cx.len]; exact hi
  have ho : ops[i]? = some ops[i] := Array.getElem?_eq_getElem hlt
  obtain ⟨hm, hcomp, hgd, hdst, hdsts⟩ := cx.hops i _ ho
  have hok : OpOK P G ops[i] (ms.getD i noMO).op := compOp_ok hcomp
  have hag : ∀ x ∈ (ms.getD i noMO).op.opds, ev G (fr i) x = ev G (frl (dstOf ms) v (fr 0) D ms.length) x := by
    intro x hx
    cases x with
    | t t => simp only [ev]; exact (look_same cx inv.clo hi hD hr (mem_looks hx)).symm
    | _ => rfl
  have hput : ∀ {Φ' : Nat → Option Pl} {Z' : Nat → Prop} {w' : World} {rv : Value}, Ev B Φ Z w Φ' Z' w' → VR Φ' Z' w' (v i) rv → FrR Φ' Z' w' (frl (dstOf ms) v (fr 0) (addD D i) ms.length) (a.put ops[i].dst rv) := by
    intro Φ' Z' w' rv he hv t
    rw [frame_add cx inv.clo hi hD]
    have : dstOf ms i = ops[i].dst := hdsts
    rw [this]
    exact (inv.frr.ev he).put hv (fun t ht => by rw [inv.sz]; exact dstOK_spec hdst t ht) t
  have hclo' : ∀ j, addD D i j = true → j < ms.length ∧ ∀ k, MW.ahead bs k j = true → addD D i k = true := by
    intro j hj
    simp only [addD, Bool.or_eq_true, decide_eq_true_eq] at hj ⊢
    rcases hj with rfl | hj
    · exact ⟨hi, fun k hk => .inr (hr k hk)⟩
    · exact ⟨(inv.clo j hj).1, fun k hk => .inr ((inv.clo j hj).2 k hk)⟩
  -- where a writer stands that is not done
  have hot : (ms.getD i noMO).op.heat ≠ 0 → (ms.getD i noMO).isW = false → i < c ∨ ((ms.getD i noMO).op.hdr = true ∧ c ≤ i ∧ ∀ j, c ≤ j → j < i → (ms.getD j noMO).isW = true → (ms.getD j noMO).op.kind = 3) := by
    intro hh hw
    rcases Nat.lt_or_ge i c with h1 | h1
    · exact .inl h1
    · have hcl : c < ms.length := by omega
      obtain ⟨h2, h3⟩ := inv.cat hcl
      have hne : c ≠ i := by rintro rfl; rw [hw] at h3; cases h3
      have key : ∀ j, c ≤ j → j < i → (ms.getD j noMO).isW = true → (ms.getD i noMO).op.hdr = true ∧ (ms.getD j noMO).op.kind = 3 := by
        intro j hj hji hwj
        refine Classical.byContradiction fun hno => ?_
        have h4 := hr j (cx.ord j i hji hi (conflict_iff.2 (.inr (.inr (.inl ⟨hwj, hh, by
          cases hd : (ms.getD i noMO).op.hdr with
          | false => exact .inl rfl
          | true => exact .inr fun e => hno ⟨hd, e⟩⟩)))))
        by_cases hjc : j = c
        · subst hjc; rw [h2] at h4; cases h4
        · have h5 := (inv.clo j h4).2 c (cx.ord c j (by omega) (by omega) (conflict_iff.2 (.inr (.inr (.inr ⟨kind_heat (by have := isW_kind h3; omega), hwj⟩)))))
          rw [h2] at h5; cases h5
      exact .inr ⟨(key c (Nat.le_refl _) (by omega) h3).1, h1, fun j hj hji hwj => (key j hj hji hwj).2⟩
  have hot_lt : (ms.getD i noMO).op.heat ≠ 0 → (ms.getD i noMO).isW = false → (ms.getD i noMO).op.hdr = false → i < c := by
    intro hh hw hd
    rcases hot hh hw with h1 | ⟨h1, _⟩
    · exact h1
    · rw [hd] at h1; cases h1
  have w_at : (ms.getD i noMO).isW = true → i = c := by
    intro hw
    have hh : (ms.getD i noMO).op.heat ≠ 0 := kind_heat (by have := isW_kind hw; omega)
    rcases Nat.lt_trichotomy i c with h1 | h1 | h1
    · rw [inv.cbe i h1 hw] at hD; cases hD
    · exact h1
    · have hcl : c < ms.length := by omega
      obtain ⟨h2, h3⟩ := inv.cat hcl
      have := hr c (cx.ord c i (by omega) hi (conflict_iff.2 (.inr (.inr (.inr ⟨kind_heat (by have := isW_kind h3; omega), hw⟩)))))
      rw [h2] at this
      cases this
  have noW : ∀ k, k < c → D k = false → (ms.getD k noMO).op.heat ≠ 0 → ∀ j, k ≤ j → j < c → (ms.getD j noMO).isW = false := by
    intro k hk hDk hh j hj hjc
    cases hw : (ms.getD j noMO).isW with
    | false => rfl
    | true =>
      have hDj := inv.cbe j hjc hw
      by_cases hjk : j = k
      · subst hjk; rw [hDk] at hDj; cases hDj
      · have hjl : j < ms.length := by have := inv.cle; omega
        have := (inv.clo j hDj).2 k (cx.ord k j (by omega) hjl (conflict_iff.2 (.inr (.inr (.inr ⟨hh, hw⟩)))))
        rw [hDk] at this; cases this
  -- what stays where nothing is written
  have same : (ms.getD i noMO).isW = false → ∀ {Φ' : Nat → Option Pl} {Z' : Nat → Prop} {w' : World} {rv : Value}, Rel G B Φ' Z' (h c) w' → Ev B Φ Z w Φ' Z' w' → VR Φ' Z' w' (v i) rv →
      (∀ k, k < c → D k = false → k ≠ i → run k = true → (ms.getD k noMO).op.kind = 1 → Φ' (h k).length = none) → next (a.put ops[i].dst rv) w' := by
    intro hw Φ' Z' w' rv hrel hev hv hp
    refine hn _ _ Φ' Z' c ⟨inv.cle, fun hcl => ?_, fun j hj hwj => ?_, hrel, hput hev hv, inv.ev.trans hev, by rw [put_size]; exact inv.sz, by rw [put_defers']; exact inv.df, fun k hk hDk hrk hkk => ?_, hclo'⟩
    · obtain ⟨h2, h3⟩ := inv.cat hcl
      have hne : c ≠ i := by rintro rfl; rw [hw] at h3; cases h3
      exact ⟨by simp [addD, hne, h2], h3⟩
    · simp [addD, inv.cbe j hj hwj]
    · have hki : k ≠ i := by rintro rfl; simp [addD] at hDk
      have : D k = false := by simpa [addD, hki] using hDk
      exact hp k hk this hki hrk hkk
  -- what comes behind a writer
  have wrote : (ms.getD i noMO).isW = true → ∀ {Φ' : Nat → Option Pl} {Z' : Nat → Prop} {w' : World} {rv : Value}, Rel G B Φ' Z' (h (i + 1)) w' → Ev B Φ Z w Φ' Z' w' → VR Φ' Z' w' (v i) rv → next (a.put ops[i].dst rv) w' := by
    intro hw Φ' Z' w' rv hrel hev hv
    have hic := w_at hw
    obtain ⟨c', h1, h2, h3, h4⟩ := nextW ms _ (i + 1) rfl (by omega)
    obtain ⟨T, hT⟩ := cx.tr.seg c' h1 h2 h4
    refine hn _ _ Φ' Z' c' ⟨h2, fun hcl => ⟨?_, h3 hcl⟩, fun j hj hwj => ?_, by rw [hT]; exact hrel.extend T, hput hev hv, inv.ev.trans hev, by rw [put_size]; exact inv.sz, by rw [put_defers']; exact inv.df, fun k hk hDk hrk hkk => ?_, hclo'⟩
    · have hne : c' ≠ i := by omega
      cases hDc : D c' with
      | false => simp [addD, hne, hDc]
      | true =>
        have := (inv.clo c' hDc).2 i (cx.ord i c' (by omega) hcl (conflict_iff.2 (.inr (.inr (.inr ⟨kind_heat (by have := isW_kind hw; omega), h3 hcl⟩)))))
        rw [hD] at this; cases this
    · rcases Nat.lt_trichotomy j i with h5 | h5 | h5
      · simp [addD, inv.cbe j (by omega) hwj]
      · simp [addD, h5]
      · rw [h4 j (by omega) hj] at hwj; cases hwj
    · have hki : k ≠ i := by rintro rfl; simp [addD] at hDk
      have hDk' : D k = false := by simpa [addD, hki] using hDk
      rcases Nat.lt_or_ge k i with h5 | h5
      · have := hr k (cx.ord k i h5 hi (conflict_iff.2 (.inr (.inr (.inr ⟨kind_heat (by omega), hw⟩)))))
        rw [hDk'] at this; cases this
      · obtain ⟨T', hT'⟩ := cx.tr.seg (i := i + 1) k (by omega) (by omega) fun j h6 h7 => h4 j h6 (by omega)
        refine hrel.none_of_le ?_
        rw [hT', List.length_append]; omega
  -- the guard
  have hguard := cx.tr.gd i _ hm
  have hgk : ∀ p q : Prop, gdK (fr i) (ms.getD i noMO).gd p q → gdK (frl (dstOf ms) v (fr 0) D ms.length) (ms.getD i noMO).gd p q := by
    intro p q hh
    cases hg : (ms.getD i noMO).gd with
    | none => rw [hg] at hh; exact hh
    | some tw =>
      obtain ⟨t, want⟩ := tw
      rw [hg] at hh
      have ht : t ∈ (ms.getD i noMO).looks := by
        unfold MO.looks
        rw [hg]
        exact List.mem_append_right _ (by simp)
      simp only [gdK] at hh ⊢
      rw [look_same cx inv.clo hi hD hr ht]
      exact hh
  unfold wpOp
  rw [ho]
  simp only
  have hgs := guard_sound (ops := ops) (o := ops[i]) (p := run i = true) (q := run i = false) inv.frr inv.sz hgd (hgk _ _ (hguard _ _ (by cases run i <;> simp)))
  rcases hgs with ⟨hwant, hrun⟩ | ⟨hwant, hrun⟩
  · rw [hwant, if_pos rfl]
    refine .inl ?_
    have hyes := cx.tr.yes i _ hm hrun
    -- by kind
    rcases hk : (ms.getD i noMO).op.kind with _ | _ | k
    · -- it reads
      have hw : (ms.getD i noMO).isW = false := isW_cool (.inl hk)
      have hs : stepM P G (ms.getD i noMO).q (ms.getD i noMO).op (fr i) (h c) fun v' H' => v' = v i ∧ H' = h c := by
        by_cases h0 : (ms.getD i noMO).op.heat = 0
        · obtain ⟨v', ⟨rfl, _⟩, h2⟩ := stepM_cool h0 (hyes (fun v' H' => v' = v i ∧ H' = h (i + 1)) ⟨rfl, rfl⟩)
          exact h2 _ _ ⟨rfl, rfl⟩
        · rcases hot h0 hw with hic | ⟨hhd, hci, hk3⟩
          · obtain ⟨T, hT⟩ := cx.tr.seg c (by omega) inv.cle (noW i hic hD h0)
            obtain ⟨v', ⟨rfl, _⟩, h2⟩ := stepM_read hk (hyes (fun v' H' => v' = v i ∧ H' = h (i + 1)) ⟨rfl, rfl⟩)
            rw [hT]
            exact h2 T _ ⟨rfl, rfl⟩
          · have hgr := cx.tr.rows i hci (by omega) hk3
            have hs0 : stepM P G (ms.getD i noMO).q (ms.getD i noMO).op (fr i) (h i) fun v' H' => v' = v i ∧ H' = h (i + 1) := hyes _ ⟨rfl, rfl⟩
            refine hdr_same hhd (fun t ht b n hx sz xs o f hb hn => ?_) hs0
            have hvr : VR Φ Z w (get (fr i) t) (a.tmps.getD t undef) := by
              have e := hag _ ht
              simp only [ev] at e
              rw [e]
              exact inv.frr t
            have hp : ∃ p, Φ b = some p ∧ n ≤ p.n := by
              rcases hx with ⟨i', j', e⟩ | ⟨i', j', len, cap, sz', e⟩
              · rw [e] at hvr
                generalize a.tmps.getD t undef = rv at hvr
                cases hvr with
                | ptr _ _ _ _ p a hp hn' hv => exact ⟨p, hp, hn'⟩
              · rw [e] at hvr
                generalize a.tmps.getD t undef = rv at hvr
                cases hvr with
                | hs _ _ _ _ _ _ _ p base rcap hp hn' hv => exact ⟨p, hp, hn'⟩
            obtain ⟨p, hpb, hpn⟩ := hp
            obtain ⟨k, hk1, hk2⟩ := inv.rel.blk b p hpb
            obtain ⟨k', hk3, hk4⟩ := hgr b k hk1
            rw [getB_some hb] at hk3
            obtain rfl := Option.some.inj hk3
            cases k with
            | map es => exact hk4.elim
            | row sz0 xs0 o0 f0 =>
              obtain ⟨e1, e2⟩ := hk4
              subst e1
              have := hk2.len
              exact ⟨xs0, o0, f0, by unfold getB; rw [List.getD_eq_getElem?_getD, hk1]; rfl, by omega⟩
      rw [stepM_congr hag] at hs
      obtain ⟨rv, v', hrun', ⟨rfl, _⟩, hv⟩ := hok.rd hk inv.rel inv.frr hs
      unfold Oper.wp
      rw [hrun', Oper.upon_value]
      exact same hw inv.rel (Ev.refl _ _ _ _) hv fun k hk1 hk2 _ hk3 hk4 => inv.pend k hk1 hk2 hk3 hk4
    · -- it makes
      have hw : (ms.getD i noMO).isW = false := isW_cool (.inr hk)
      have hh : (ms.getD i noMO).op.heat ≠ 0 := kind_heat (by omega)
      have hic := hot_lt hh hw (hdr_kind (by omega))
      have made : ∀ k, k < c → D k = false → run k = true → (ms.getD k noMO).op.kind = 1 → ∃ r b T, v k = r (h k).length ∧ h (k + 1) = h k ++ [b] ∧ h c = h k ++ b :: T ∧ (∀ C : (Nat → V) → Blk → Prop, C r b → mkM G (ms.getD k noMO).op (fr k) C) ∧ ∀ j, k < j → j ≤ c → (h k).length < (h j).length := by
        intro k hkc hDk hrk hkk
        have hkl : k < ms.length := by have := inv.cle; omega
        have hmk : ms[k]? = some (ms.getD k noMO) := by simp [List.getD_eq_getElem?_getD, hkl]
        have hs := cx.tr.yes k _ hmk hrk (fun v' H' => v' = v k ∧ H' = h (k + 1)) ⟨rfl, rfl⟩
        rw [stepM_make hkk] at hs
        obtain ⟨r, b, ⟨h1, h2⟩, h3⟩ := mkM_det hs
        have hnw := noW k hkc hDk (kind_heat (by omega))
        obtain ⟨T, hT⟩ := cx.tr.seg (i := k + 1) c (by omega) inv.cle fun j h4 h5 => hnw j (by omega) h5
        refine ⟨r, b, T, h1.symm, h2.symm, by rw [hT, ← h2]; simp, h3, fun j hj1 hj2 => ?_⟩
        obtain ⟨T', hT'⟩ := cx.tr.seg (i := k + 1) j (by omega) (by have := inv.cle; omega) fun e h4 h5 => hnw e (by omega) (by omega)
        rw [hT', ← h2]
        simp only [List.length_append, List.length_cons, List.length_nil]
        omega
      obtain ⟨r, b, T, h1, h2, h3, h4, h5⟩ := made i hic hD hrun hk
      have hmk := h4 (fun r' b' => r' = r ∧ b' = b) ⟨rfl, rfl⟩
      have hmk' : mkM G (ms.getD i noMO).op (frl (dstOf ms) v (fr 0) D ms.length) fun r' b' => r' = r ∧ b' = b := by
        have e : ∀ f : Fr, mkM G (ms.getD i noMO).op f (fun r' b' => r' = r ∧ b' = b) ↔ stepM P G false (ms.getD i noMO).op f [] fun _ _ => mkM G (ms.getD i noMO).op f fun r' b' => r' = r ∧ b' = b := by
          intro f
          rw [stepM_make hk]
          refine ⟨fun hh => ?_, fun hh => ?_⟩
          · obtain ⟨r2, b2, _, h7⟩ := mkM_det hh
            exact h7 _ hh
          · obtain ⟨r2, b2, h6, _⟩ := mkM_det hh
            exact h6
        have hs := hyes (fun v' H' => v' = v i ∧ H' = h (i + 1)) ⟨rfl, rfl⟩
        exact mkM_congr hag ▸ hmk
      obtain ⟨rv, r', b', w', hrun', ⟨rfl, rfl⟩, hmake⟩ := hok.mkr hk inv.rel inv.frr hmk'
      obtain ⟨p, hrel', hev', hv'⟩ := hmake (h c) (h i).length inv.rel (by rw [h3]; simp) (inv.pend i hic hD hrun hk)
      unfold Oper.wp
      rw [hrun', Oper.upon_value]
      rw [← h1] at hv'
      refine same hw hrel' hev' hv' fun k hk1 hk2 hki hk3 hk4 => ?_
      obtain ⟨_, _, _, _, _, _, _, hlen⟩ := made k hk1 hk2 hk3 hk4
      rw [put1_ne]
      · exact inv.pend k hk1 hk2 hk3 hk4
      · rcases Nat.lt_or_ge k i with h6 | h6
        · have := hlen i h6 (by omega); omega
        · have := h5 k (by omega) (by omega); omega
    · -- it calls, or writes
      cases hw : (ms.getD i noMO).isW with
      | true =>
        have hic := w_at hw
        have hs := hyes (fun v' H' => v' = v i ∧ H' = h (i + 1)) ⟨rfl, rfl⟩
        rw [stepM_congr hag] at hs
        have hrel0 := inv.rel
        rw [← hic] at hrel0
        refine hok.wr (by omega) hrel0 inv.frr hs _ _ ?_
        rintro rv v' H' Φ' Z' w' ⟨rfl, rfl⟩ hv hr' hev'
        exact wrote hw hr' hev' hv
      | false =>
        have hk2 : (ms.getD i noMO).op.kind = 2 ∧ (ms.getD i noMO).q = true := by
          simp only [MO.isW, Bool.or_eq_false_iff, beq_eq_false_iff_ne, Bool.and_eq_false_iff, Bool.not_eq_false', beq_iff_eq] at hw
          have hk3 : (ms.getD i noMO).op.kind ≤ 3 := by cases (ms.getD i noMO).op <;> simp [MOp.kind]
          have hk4 : (ms.getD i noMO).op.kind = 2 := by have := hw.1; omega
          refine ⟨hk4, ?_⟩
          rcases hw.2 with h5 | h5
          · exact absurd hk4 h5
          · exact h5
        have hh : (ms.getD i noMO).op.heat ≠ 0 := kind_heat (by omega)
        have hic := hot_lt hh hw (hdr_kind (by omega))
        obtain ⟨T, hT⟩ := cx.tr.seg c (by omega) inv.cle (noW i hic hD hh)
        have hs := hyes (fun v' H' => v' = v i ∧ H' = h (i + 1)) ⟨rfl, rfl⟩
        rw [hk2.2] at hs
        obtain ⟨v', ⟨rfl, _⟩, h2⟩ := stepM_quiet hk2.1 hs
        have hs2 := h2 T (fun v' H' => v' = v i ∧ H' = h i ++ T) ⟨rfl, rfl⟩
        rw [stepM_congr hag, ← hT] at hs2
        refine hok.qt hk2.1 inv.rel inv.frr hs2 fun rv Z' w' hv hr' hev' => ?_
        exact same hw hr' hev' hv fun k hk1 hk2 _ hk3 hk4 => inv.pend k hk1 hk2 hk3 hk4
  · rw [hwant]
    simp only [Bool.false_eq_true, if_false]
    obtain ⟨hj, hsame⟩ := cx.tr.no i _ hm hrun
    cases hw : (ms.getD i noMO).isW with
    | true =>
      have hic := w_at hw
      refine wrote hw (Φ' := Φ) (Z' := Z) ?_ (Ev.refl _ _ _ _) (by rw [hj]; exact .junk _)
      rw [hsame, hic]
      exact inv.rel
    | false => exact same hw inv.rel (Ev.refl _ _ _ _) (by rw [hj]; exact .junk _) fun k hk1 hk2 _ hk3 hk4 => inv.pend k hk1 hk2 hk3 hk4

end
end Go.MW
