import Derived.Orders
import Derived.ProofKit
import Derived.OpenShut
import Derived.ChangeOld
import Derived.SizedLaws
import Derived.Test.YtgilodbgleogmaaMwB2
/- What an operation of the small code comes to hangs on its operands alone, and on the blocks that there are. -/
namespace Go.MW
open Go Go.RowKit
set_option linter.unusedVariables false
set_option linter.unusedSimpArgs false

section
variable {P : Program} {G : Nat → Option (List V)}

theorem Det.st {f : List Blk → (V → Prop) → Prop} (hf : Det f) {H : List Blk} {K : V → List Blk → Prop} (h : f H (K · H)) : ∃ v, K v H ∧ ∀ T (K' : V → List Blk → Prop), K' v (H ++ T) → f (H ++ T) (K' · (H ++ T)) := by
  obtain ⟨v, h1, h2⟩ := hf H _ h
  exact ⟨v, h1, fun T K' hk => h2 T (K' · (H ++ T)) hk⟩

theorem Det.st0 {f : (V → Prop) → Prop} (hf : Det fun _ => f) {H : List Blk} {K : V → List Blk → Prop} (h : f (K · H)) : ∃ v, K v H ∧ ∀ H2 (K' : V → List Blk → Prop), K' v H2 → f (K' · H2) := by
  obtain ⟨v, h1, h2⟩ := hf H _ h
  exact ⟨v, h1, fun H2 K' hk => h2 [] (K' · H2) hk⟩

theorem Det.map {α β : Type} {f : List Blk → (α → Prop) → Prop} (g : α → β) (hf : Det f) : Det fun H (K : β → Prop) => f H fun a => K (g a) := by
  intro H K h
  obtain ⟨v, h1, h2⟩ := hf H _ h
  exact ⟨g v, h1, fun T K' hk => h2 T _ hk⟩

theorem Det.bind0 {α β : Type} {f : List Blk → (α → Prop) → Prop} {g : α → List Blk → (β → Prop) → Prop} (hf : Det f) (hg : ∀ a, Det (g a)) : Det fun H K => f H fun a => g a H K := by
  intro H K h
  obtain ⟨a, h1, h2⟩ := hf H _ h
  obtain ⟨b, h3, h4⟩ := hg a H K h1
  exact ⟨b, h3, fun T K' hk => h2 T _ (h4 T K' hk)⟩

theorem cviK_det (k : IntKind) (x : V) : Det fun _ => cviK k x := by
  intro H K h
  cases x <;> first | exact h.elim | exact ⟨_, h, fun _ _ hk => hk⟩

theorem eqTK_det (neg : Bool) (ks : List Nat) (x y : V) : Det fun _ => eqTK neg ks x y := by
  intro H K h
  unfold eqTK at h ⊢
  split at h
  · split at h
    · exact ⟨_, h, fun _ _ hk => hk⟩
    · exact h.elim
  · exact h.elim

theorem eqBK_det (neg : Bool) (x y : V) : Det fun _ => eqBK neg x y := by
  intro H K h
  unfold eqBK at h ⊢
  split at h
  · exact ⟨_, h, fun _ _ hk => hk⟩
  · exact h.elim

/-- What touches no memory. -/
theorem stepM_cool {q : Bool} {m : MOp} {fr : Fr} {H : List Blk} {K : V → List Blk → Prop} (hm : m.heat = 0) (h : stepM P G q m fr H K) : ∃ v, K v H ∧ ∀ H2 (K' : V → List Blk → Prop), K' v H2 → stepM P G q m fr H2 K' := by
  cases m <;> simp [MOp.heat] at hm
  case mv x => exact ⟨_, h, fun _ _ hk => hk⟩
  case pick c a b => exact Det.st0 (pickK_det _ _ _) h
  case build z p => exact Det.st0 (Det.map V.agg (partsV_det fr p z)) h
  case nchk x => exact Det.st0 (nchkK_det _) h
  case bin op x y => exact Det.st0 (binK_det op _ _) h
  case eqT neg ks x y => exact Det.st0 (eqTK_det neg ks _ _) h
  case eqB neg x y => exact Det.st0 (eqBK_det neg _ _) h
  case nilq neg x => exact Det.st0 (nilqK_det neg _) h
  case un op x => exact Det.st0 (unK_det op _) h
  case cvi k x =>
    exact Det.st0 (cviK_det k _) h
  case mkf f a b => exact ⟨_, h, fun _ _ hk => hk⟩
  case slS x lo hi => exact Det.st0 (slSK_det _ _ _) h
  case fa off x => exact Det.st0 (faK_det off _) h
  case fld agg off x => exact Det.st0 (fldK_det agg off _) h
  case iaA n sz x i => exact Det.st0 (iaAK_det n sz _ _) h
  case ixA n sz agg x i => exact Det.st0 (ixAK_det n sz agg _ _) h
  case ixS x i => exact Det.st0 (ixSK_det _ _) h
  case ext x i => exact Det.st0 (extK_det _ i) h
  case lenC n => exact ⟨_, h, fun _ _ hk => hk⟩
  case min x y => exact Det.st0 (minK_det true _ _) h
  case max x y => exact Det.st0 (minK_det false _ _) h
  case bad => exact h.elim

/-- What reads alone. -/
theorem stepM_read {q : Bool} {m : MOp} {fr : Fr} {H : List Blk} {K : V → List Blk → Prop} (hm : m.kind = 0) (h : stepM P G q m fr H K) : ∃ v, K v H ∧ ∀ T (K' : V → List Blk → Prop), K' v (H ++ T) → stepM P G q m fr (H ++ T) K' := by
  by_cases h0 : m.heat = 0
  · obtain ⟨v, h1, h2⟩ := stepM_cool h0 h
    exact ⟨v, h1, fun T K' hk => h2 _ K' hk⟩
  cases m <;> simp [MOp.heat, MOp.kind] at hm h0
  case ld agg a => exact ldK_det agg _ H K h
  case b2s x => exact Det.st (Det.and (Det.bind0 (elemsK_det _) fun xs => bytesK_det xs)) h
  case sl sz x lo hi mx => exact Det.st (slK_det sz _ _ _ _) h
  case slA n sz x lo hi mx => exact Det.st (slAK_det n sz _ _ _ _) h
  case ia sz x i => exact Det.st (iaK_det sz _ _) h
  case len k x => exact Det.st (lenK_det k _) h
  case capa x => exact Det.st (capaK_det _) h
  case look => exact h.elim

/-- What makes a block. -/
theorem mkM_det {m : MOp} {fr : Fr} {C : (Nat → V) → Blk → Prop} (h : mkM G m fr C) : ∃ r k, C r k ∧ ∀ C' : (Nat → V) → Blk → Prop, C' r k → mkM G m fr C' := by
  cases m <;> simp only [mkM] at h ⊢ <;> try exact h.elim
  case new sz x => exact ⟨_, _, h, fun _ hk => hk⟩
  case box sz x => exact ⟨_, _, h.2.2, fun _ hk => ⟨h.1, h.2.1, hk⟩⟩
  case bslice sz z len p =>
    obtain ⟨xs, h1, h2⟩ := (partsS_det (G := G) fr sz p (List.replicate len z)).same (H := []) h
    exact ⟨_, _, h1, fun C' hk => h2 _ hk⟩
  case s2b x =>
    split at h
    · rename_i s hs
      exact ⟨_, _, h, fun C' hk => hk⟩
    · exact h.elim
  case mks sz b z l c =>
    unfold mksK at h ⊢
    split at h
    · exact ⟨_, _, h.2.2.2.2, fun _ hk => ⟨h.1, h.2.1, h.2.2.1, h.2.2.2.1, hk⟩⟩
    · exact h.elim
  case mkm => exact ⟨_, _, h, fun _ hk => hk⟩

theorem stepM_make {q : Bool} {m : MOp} {fr : Fr} {H : List Blk} {K : V → List Blk → Prop} (hm : m.kind = 1) : stepM P G q m fr H K ↔ mkM G m fr fun r k => K (r H.length) (H ++ [k]) := by
  cases m <;> simp [MOp.kind] at hm <;> rfl

theorem appK_det {sz by_ : Nat} {x : V} {ys : List V} {H : List Blk} {K : V → List Blk → Prop} (h : appK sz by_ x ys H K) : ∃ v H', K v H' ∧ ∀ K' : V → List Blk → Prop, K' v H' → appK sz by_ x ys H K' := by
  obtain ⟨hg, h⟩ := h
  unfold appK
  cases x <;> simp only at h ⊢ <;> try exact h.elim
  · exact ⟨_, _, h.2, fun _ hk => ⟨hg, h.1, hk⟩⟩
  · split at h
    · rename_i hc
      exact ⟨_, _, h, fun _ hk => ⟨hg, by rw [if_pos hc]; exact hk⟩⟩
    · rename_i hc
      exact ⟨_, _, h.2, fun _ hk => ⟨hg, by rw [if_neg hc]; exact ⟨h.1, hk⟩⟩⟩
  · obtain ⟨h1, h2, h⟩ := h
    split at h
    · rename_i hH
      obtain ⟨h3, h4, h5, h6, h⟩ := h
      split at h
      · split at h
        · rename_i hc
          exact ⟨_, _, h.2.2, fun _ hk => ⟨hg, h1, h2, h3, h4, h5, h6, by rw [if_pos hc]; exact ⟨h.1, h.2.1, hk⟩⟩⟩
        · rename_i hc
          exact ⟨_, _, h.2, fun _ hk => ⟨hg, h1, h2, h3, h4, h5, h6, by rw [if_neg hc]; exact ⟨h.1, hk⟩⟩⟩
      · split at h
        · rename_i hc
          exact ⟨_, _, h.2, fun _ hk => ⟨hg, h1, h2, h3, h4, h5, h6, by rw [if_pos hc]; exact ⟨h.1, hk⟩⟩⟩
        · rename_i hc
          exact ⟨_, _, h.2.2.2, fun _ hk => ⟨hg, h1, h2, h3, h4, h5, h6, by rw [if_neg hc]; exact ⟨h.1, h.2.1, h.2.2.1, hk⟩⟩⟩
    · exact h.elim

theorem wrK_det {sz : Nat} {x : V} {ys : List V} {H : List Blk} {K : List Blk → Prop} (h : wrK sz x ys H K) : ∃ H', K H' ∧ ∀ K' : List Blk → Prop, K' H' → wrK sz x ys H K' := by
  obtain ⟨hg, h⟩ := h
  unfold wrK
  cases x <;> simp only at h ⊢ <;> try exact h.elim
  · exact ⟨_, h.2, fun _ hk => ⟨hg, h.1, hk⟩⟩
  · exact ⟨_, h.2, fun _ hk => ⟨hg, h.1, hk⟩⟩
  · obtain ⟨h1, h2, h⟩ := h
    split at h
    · obtain ⟨h3, h4, h⟩ := h
      split at h
      · rename_i hc
        exact ⟨_, h.2, fun _ hk => ⟨hg, h1, h2, h3, h4, by rw [if_pos hc]; exact ⟨h.1, hk⟩⟩⟩
      · rename_i hc
        exact ⟨_, h.2.2.2.2, fun _ hk => ⟨hg, h1, h2, h3, h4, by rw [if_neg hc]; exact ⟨h.1, h.2.1, h.2.2.1, h.2.2.2.1, hk⟩⟩⟩
    · exact h.elim

theorem callK_det {q : Bool} {f : Nat} {args : List V} {H : List Blk} {K : V → List Blk → Prop} (h : callK P G q f args H K) : ∃ v H', K v H' ∧ ∀ K' : V → List Blk → Prop, K' v H' → callK P G q f args H K' := by
  unfold callK at h ⊢
  cases q with
  | true =>
    simp only [if_true] at h ⊢
    obtain ⟨r, h1, h2⟩ := h
    exact ⟨r, H, h2, fun _ hk => ⟨r, h1, hk⟩⟩
  | false =>
    simp only [Bool.false_eq_true, if_false] at h ⊢
    obtain ⟨r, H', h1, h2⟩ := h
    exact ⟨r, H', h2, fun _ hk => ⟨r, H', h1, hk⟩⟩

theorem callK_quiet {f : Nat} {args : List V} {H : List Blk} {K : V → List Blk → Prop} (h : callK P G true f args H K) : ∃ v, K v H ∧ ∀ T (K' : V → List Blk → Prop), K' v (H ++ T) → callK P G true f args (H ++ T) K' := by
  unfold callK at h ⊢
  simp only [if_true] at h ⊢
  obtain ⟨r, h1, h2⟩ := h
  exact ⟨r, h2, fun T _ hk => ⟨r, fun T' => by rw [List.append_assoc]; exact h1 _, hk⟩⟩

/-- What writes, and calls. -/
theorem stepM_write {q : Bool} {m : MOp} {fr : Fr} {H : List Blk} {K : V → List Blk → Prop} (hm : 2 ≤ m.kind) (h : stepM P G q m fr H K) : ∃ v H', K v H' ∧ ∀ K' : V → List Blk → Prop, K' v H' → stepM P G q m fr H K' := by
  cases m <;> simp [MOp.kind] at hm
  case st n a x =>
    simp only [stepM, stK] at h ⊢
    obtain ⟨hg, h⟩ := h
    split at h
    · split at h
      · rename_i b n i j hp _ sz xs opn frz hH
        exact ⟨_, _, h.2.2.2.2, fun K' hk => ⟨hg, h.1, h.2.1, h.2.2.1, h.2.2.2.1, hk⟩⟩
      · exact h.elim
    · exact h.elim
  case app sz b z x y =>
    obtain ⟨ys, h1, h2⟩ := (elemsK_det (ev G fr y)).same (H := H) h
    obtain ⟨v, H', h3, h4⟩ := appK_det h1
    exact ⟨v, H', h3, fun K' hk => h2 _ (h4 K' hk)⟩
  case appZ sz b z x y =>
    simp only [stepM] at h ⊢
    cases hy : ev G fr y <;> rw [hy] at h <;> simp only at h ⊢ <;> try exact h.elim
    obtain ⟨v, H', h3, h4⟩ := appK_det h.2
    exact ⟨v, H', h3, fun K' hk => ⟨h.1, h4 K' hk⟩⟩
  case cpy sz x y =>
    simp only [stepM] at h ⊢
    obtain ⟨ys, h1, h2⟩ := (elemsK_det (ev G fr y)).same (H := H) h
    obtain ⟨l, h3, h4⟩ := (lenK_det 1 (ev G fr x)).same (H := H) h1
    cases l <;> simp only at h3 <;> try exact h3.elim
    obtain ⟨H', h5, h6⟩ := wrK_det h3
    exact ⟨_, H', h5, fun K' hk => h2 _ (h4 _ (h6 _ hk))⟩
  case clr sz z x =>
    simp only [stepM] at h ⊢
    obtain ⟨l, h3, h4⟩ := (lenK_det 1 (ev G fr x)).same (H := H) h
    cases l <;> simp only at h3 <;> try exact h3.elim
    obtain ⟨H', h5, h6⟩ := wrK_det h3
    exact ⟨_, H', h5, fun K' hk => h4 _ (h6 _ hk)⟩
  case call f as => exact callK_det h
  case callv x as =>
    simp only [stepM, callvK] at h ⊢
    split at h
    · rename_i f first cap hx
      obtain ⟨v, H', h1, h2⟩ := callK_det h.2
      exact ⟨v, H', h1, fun K' hk => ⟨h.1, h2 K' hk⟩⟩
    · exact h.elim
  case mset => exact h.elim
  case mdel => exact h.elim

theorem stepM_quiet {m : MOp} {fr : Fr} {H : List Blk} {K : V → List Blk → Prop} (hm : m.kind = 2) (h : stepM P G true m fr H K) : ∃ v, K v H ∧ ∀ T (K' : V → List Blk → Prop), K' v (H ++ T) → stepM P G true m fr (H ++ T) K' := by
  cases m <;> simp [MOp.kind] at hm
  case call f as => exact callK_quiet h
  case callv x as =>
    simp only [stepM, callvK] at h ⊢
    split at h
    · rename_i f first cap hx
      obtain ⟨v, h1, h2⟩ := callK_quiet h.2
      exact ⟨v, h1, fun T K' hk => ⟨h.1, h2 T K' hk⟩⟩
    · exact h.elim

/-- Every step comes to one value and one heap. -/
theorem stepM_det {q : Bool} {m : MOp} {fr : Fr} {H : List Blk} {K : V → List Blk → Prop} (h : stepM P G q m fr H K) : ∃ v H', K v H' ∧ ∀ K' : V → List Blk → Prop, K' v H' → stepM P G q m fr H K' := by
  rcases hk : m.kind with _ | _ | k
  · obtain ⟨v, h1, h2⟩ := stepM_read hk h
    exact ⟨v, H, h1, fun K' hk => by simpa using h2 [] K' (by simpa using hk)⟩
  · rw [stepM_make hk] at h
    obtain ⟨r, k, h1, h2⟩ := mkM_det h
    exact ⟨_, _, h1, fun K' hk' => by rw [stepM_make hk]; exact h2 _ hk'⟩
  · exact stepM_write (by omega) h

theorem evs_congr {fr fr' : Fr} {xs : List Opd} (h : ∀ x ∈ xs, ev G fr x = ev G fr' x) : evs G fr xs = evs G fr' xs := List.map_congr_left h

theorem partsV_congr {fr fr' : Fr} : ∀ {l : List (Nat × Nat × Opd)} {z : List V} {K : List V → Prop}, (∀ x ∈ l.map (·.2.2), ev G fr x = ev G fr' x) → partsV G fr z l K = partsV G fr' z l K
  | [], z, K, _ => rfl
  | (off, sz, x) :: l, z, K, h => by
    simp only [partsV]
    rw [h x (by simp), partsV_congr (l := l) fun y hy => h y (by simp at hy ⊢; exact .inr hy)]

theorem partsS_congr {fr fr' : Fr} {sz : Nat} : ∀ {l : List (Nat × Opd)} {z : List V} {K : List V → Prop}, (∀ x ∈ l.map (·.2), ev G fr x = ev G fr' x) → partsS G fr sz z l K = partsS G fr' sz z l K
  | [], z, K, _ => rfl
  | (i, x) :: l, z, K, h => by
    simp only [partsS]
    rw [h x (by simp), partsS_congr (l := l) fun y hy => h y (by simp at hy ⊢; exact .inr hy)]

theorem optm_congr {fr fr' : Fr} {x : Option Opd} (h : ∀ y ∈ x.toList, ev G fr y = ev G fr' y) : x.map (ev G fr) = x.map (ev G fr') := by
  cases x with
  | none => rfl
  | some y => simp [h y (by simp)]

theorem stepM_congr {q : Bool} {m : MOp} {fr fr' : Fr} {H : List Blk} {K : V → List Blk → Prop} (h : ∀ x ∈ m.opds, ev G fr x = ev G fr' x) : stepM P G q m fr H K = stepM P G q m fr' H K := by
  cases m <;> simp only [MOp.opds] at h <;> simp only [stepM, mkM]
  case build z p => rw [partsV_congr h]
  case bslice sz z len p => rw [partsS_congr h]
  case mkf f a b => rw [evs_congr fun x hx => h x (by simp [hx]), evs_congr (xs := b) fun x hx => h x (by simp [hx])]
  case slS x lo hi => rw [h x (by simp), optm_congr fun y hy => h y (by simp at hy; simp [hy]), optm_congr (x := hi) fun y hy => h y (by simp at hy; simp [hy])]
  case sl sz x lo hi mx => rw [h x (by simp), optm_congr fun y hy => h y (by simp at hy; simp [hy]), optm_congr (x := hi) fun y hy => h y (by simp at hy; simp [hy]), optm_congr (x := mx) fun y hy => h y (by simp at hy; simp [hy])]
  case slA n sz x lo hi mx => rw [h x (by simp), optm_congr fun y hy => h y (by simp at hy; simp [hy]), optm_congr (x := hi) fun y hy => h y (by simp at hy; simp [hy]), optm_congr (x := mx) fun y hy => h y (by simp at hy; simp [hy])]
  case call f as => rw [evs_congr h]
  case callv x as => rw [h x (by simp), evs_congr fun y hy => h y (by simp [hy])]
  all_goals (simp only [List.mem_cons, List.not_mem_nil, or_false, forall_eq_or_imp, forall_eq] at h; simp only [h])

theorem mkM_congr {m : MOp} {fr fr' : Fr} {C : (Nat → V) → Blk → Prop} (h : ∀ x ∈ m.opds, ev G fr x = ev G fr' x) : mkM G m fr C = mkM G m fr' C := by
  cases m <;> simp only [MOp.opds] at h <;> simp only [mkM]
  case bslice sz z len p => rw [partsS_congr h]
  all_goals (simp only [List.mem_cons, List.not_mem_nil, or_false, forall_eq_or_imp, forall_eq] at h; simp only [h])

end
end Go.MW

/- Regions whose order is drawn: whatever the order, they do what they do in text order. -/
namespace Go.MW
open Go Go.RowKit
set_option linter.unusedVariables false
set_option linter.unusedSimpArgs false

section
variable {P : Program} {G : Nat → Option (List V)}

/-- What happens in text order: values, heaps, frames, and which operations are run. -/
structure Trace (P : Program) (G : Nat → Option (List V)) (ms : List MO) (v : Nat → V) (h : Nat → List Blk) (fr : Nat → Fr) (run : Nat → Bool) : Prop where
  frs : ∀ i m, ms[i]? = some m → fr (i + 1) = put m.dst (v i) (fr i)
  gd : ∀ i m, ms[i]? = some m → ∀ p q : Prop, (if run i then p else q) → gdK (fr i) m.gd p q
  yes : ∀ i m, ms[i]? = some m → run i = true → ∀ K : V → List Blk → Prop, K (v i) (h (i + 1)) → stepM P G m.q m.op (fr i) (h i) K
  no : ∀ i m, ms[i]? = some m → run i = false → v i = .tup [] ∧ h (i + 1) = h i

theorem gdK_inv {fr : Fr} {g : Option (Nat × Bool)} {p q : Prop} (h : gdK fr g p q) : ∃ b : Bool, (∀ p' q' : Prop, (if b then p' else q') → gdK fr g p' q') ∧ (if b then p else q) := by
  rcases g with _ | ⟨t, want⟩
  · exact ⟨true, fun p' q' hh => hh, h⟩
  · simp only [gdK] at h ⊢
    split at h
    · rename_i b hb
      refine ⟨b == want, fun p' q' hh => ?_, ?_⟩
      · refine ⟨fun e => ?_, fun e => ?_⟩
        · rw [e] at hh; exact hh
        · rw [e] at hh; exact hh
      · rcases hc : (b == want) with _ | _
        · exact h.2 hc
        · exact h.1 hc
    · exact ⟨false, fun p' q' hh => hh, h⟩
    · exact h.elim

theorem mops_trace : ∀ (ms : List MO) (K : St → Prop) (st : St), mops P G ms K st → ∃ v h fr run, fr 0 = st.fr ∧ h 0 = st.H ∧ K ⟨fr ms.length, h ms.length⟩ ∧ Trace P G ms v h fr run
  | [], K, st, hm => ⟨fun _ => .junk, fun _ => st.H, fun _ => st.fr, fun _ => true, rfl, rfl, hm, by simp, by simp, by simp, by simp⟩
  | m :: ms, K, st, hm => by
    simp only [mops] at hm
    obtain ⟨b, hb, hbr⟩ := gdK_inv hm
    have : ∃ v0 H1, (b = true → ∀ K : V → List Blk → Prop, K v0 H1 → stepM P G m.q m.op st.fr st.H K) ∧ (b = false → v0 = .tup [] ∧ H1 = st.H) ∧ mops P G ms K ⟨put m.dst v0 st.fr, H1⟩ := by
      cases b with
      | true =>
        simp only [if_true] at hbr
        obtain ⟨v0, H1, h1, h2⟩ := stepM_det hbr
        exact ⟨v0, H1, fun _ => h2, fun h => (by cases h), h1⟩
      | false =>
        simp only [Bool.false_eq_true, if_false] at hbr
        exact ⟨.tup [], st.H, fun h => (by cases h), fun _ => ⟨rfl, rfl⟩, hbr⟩
    obtain ⟨v0, H1, hyes, hno, hrest⟩ := this
    obtain ⟨v, h, fr, run, e1, e2, e3, tr⟩ := mops_trace ms K _ hrest
    refine ⟨fun i => match i with | 0 => v0 | i + 1 => v i, fun i => match i with | 0 => st.H | i + 1 => h i, fun i => match i with | 0 => st.fr | i + 1 => fr i, fun i => match i with | 0 => b | i + 1 => run i, rfl, rfl, e3, ?_, ?_, ?_, ?_⟩
    · rintro (_ | i) m' hm'
      · simp at hm'; subst hm'; exact e1
      · exact tr.frs i m' (by simpa using hm')
    · rintro (_ | i) m' hm'
      · simp at hm'; subst hm'; exact hb
      · exact tr.gd i m' (by simpa using hm')
    · rintro (_ | i) m' hm'
      · simp at hm'; subst hm'
        intro hb' K' hk
        refine hyes hb' K' ?_
        simp only [e2] at hk
        exact hk
      · exact tr.yes i m' (by simpa using hm')
    · rintro (_ | i) m' hm'
      · simp at hm'; subst hm'
        intro hb'
        simp only [e2]
        exact hno hb'
      · exact tr.no i m' (by simpa using hm')

/-- The frame where just some of the operations are done. -/
def frl (dst : Nat → Option Nat) (v : Nat → V) (fr0 : Fr) (D : Nat → Bool) : Nat → Fr
  | 0 => fr0
  | k + 1 => if D k then put (dst k) (v k) (frl dst v fr0 D k) else frl dst v fr0 D k

section
variable {dst : Nat → Option Nat} {v : Nat → V} {fr0 : Fr} {D D' : Nat → Bool}

theorem get_put (d : Option Nat) (x : V) (fr : Fr) (t : Nat) : get (put d x fr) t = if d = some t then x else get fr t := by
  cases d with
  | none => simp [MW.put]
  | some e => simp [MW.put, get_cons]

theorem frl_succ (k t : Nat) : get (frl dst v fr0 D (k + 1)) t = if D k = true ∧ dst k = some t then v k else get (frl dst v fr0 D k) t := by
  simp only [frl]
  cases hd : D k with
  | true => simp [get_put]
  | false => simp

theorem frl_ext {t : Nat} : ∀ k, (∀ j, j < k → dst j = some t → D j = D' j) → get (frl dst v fr0 D k) t = get (frl dst v fr0 D' k) t
  | 0, _ => rfl
  | k + 1, h => by
    rw [frl_succ, frl_succ, frl_ext k fun j hj => h j (by omega)]
    by_cases hd : dst k = some t
    · rw [h k (by omega) hd]
    · simp [hd]

theorem frl_skip {t k : Nat} : ∀ n, k ≤ n → (∀ j, k ≤ j → j < n → dst j = some t → D j = false) → get (frl dst v fr0 D n) t = get (frl dst v fr0 D k) t
  | 0, h, _ => by rw [show k = 0 by omega]
  | n + 1, h, hh => by
    by_cases hk : k = n + 1
    · rw [hk]
    · rw [frl_succ, frl_skip n (by omega) fun j h1 h2 => hh j h1 (by omega), if_neg]
      rintro ⟨h1, h2⟩
      rw [hh n (by omega) (by omega) h2] at h1
      cases h1

end

/-- How heaps go on where nothing writes. -/
theorem Trace.grow {ms : List MO} {v : Nat → V} {h : Nat → List Blk} {fr : Nat → Fr} {run : Nat → Bool} (tr : Trace P G ms v h fr run) {i : Nat} {m : MO} (hi : ms[i]? = some m) (hw : m.isW = false) : ∃ T, h (i + 1) = h i ++ T := by
  cases hr : run i with
  | false => exact ⟨[], by rw [(tr.no i m hi hr).2]; simp⟩
  | true =>
    have hs := tr.yes i m hi hr (fun v' H' => v' = v i ∧ H' = h (i + 1)) ⟨rfl, rfl⟩
    simp only [MO.isW, Bool.or_eq_false_iff, beq_eq_false_iff_ne, Bool.and_eq_false_iff, Bool.not_eq_false', beq_iff_eq] at hw
    rcases hk : m.op.kind with _ | _ | _ | _ | k
    · obtain ⟨v', ⟨_, h1⟩, _⟩ := stepM_read hk hs
      exact ⟨[], by simp [h1]⟩
    · rw [stepM_make hk] at hs
      obtain ⟨r, k, ⟨_, h1⟩, _⟩ := mkM_det hs
      exact ⟨[k], h1.symm⟩
    · have hq : m.q = true := by
        rcases hw.2 with h2 | h2
        · exact absurd hk h2
        · exact h2
      rw [hq] at hs
      obtain ⟨v', ⟨_, h1⟩, _⟩ := stepM_quiet hk hs
      exact ⟨[], by simp [h1]⟩
    · exact absurd hk hw.1
    · exfalso
      cases hm : m.op <;> rw [hm] at hk <;> simp [MOp.kind] at hk

theorem Trace.seg {ms : List MO} {v : Nat → V} {h : Nat → List Blk} {fr : Nat → Fr} {run : Nat → Bool} (tr : Trace P G ms v h fr run) {i : Nat} : ∀ c, i ≤ c → c ≤ ms.length → (∀ j, i ≤ j → j < c → (ms.getD j noMO).isW = false) → ∃ T, h c = h i ++ T
  | 0, h1, _, _ => ⟨[], by rw [show i = 0 by omega]; simp⟩
  | c + 1, h1, h2, hw => by
    by_cases hc : i = c + 1
    · exact ⟨[], by rw [hc]; simp⟩
    · obtain ⟨T, hT⟩ := tr.seg c (by omega) (by omega) fun j hj hj' => hw j hj (by omega)
      have hlt : c < ms.length := by omega
      obtain ⟨T', hT'⟩ := tr.grow (i := c) (m := ms.getD c noMO) (by simp [List.getD_eq_getElem?_getD, hlt]) (hw c (by omega) (by omega))
      exact ⟨T ++ T', by rw [hT', hT, List.append_assoc]⟩

theorem kind_heat {m : MOp} (h : m.kind ≠ 0) : m.heat ≠ 0 := by cases m <;> simp [MOp.kind, MOp.heat] at h ⊢

/-- The edges' closure. -/
theorem ancs_length : ∀ (l : List Oper) (acc : List Nat), (ancs l acc).length = acc.length + l.length
  | [], acc => by simp [ancs]
  | o :: l, acc => by rw [ancs, ancs_length l]; simp; omega

theorem ancs_old : ∀ (l : List Oper) (acc : List Nat) (i : Nat), i < acc.length → (ancs l acc).getD i 0 = acc.getD i 0
  | [], acc, i, h => rfl
  | o :: l, acc, i, h => by
    rw [ancs, ancs_old l _ i (by simp; omega)]
    simp [List.getD_eq_getElem?_getD, List.getElem?_append_left h]

theorem ancOf_spec {acc : List Nat} {j : Nat} : ∀ (es : List Edge), (es.foldr (fun e r => if Region.binds .any e then r ||| (2 ^ e.on ||| acc.getD e.on 0) else r) 0).testBit j = true → ∃ e ∈ es, Region.binds .any e = true ∧ (j = e.on ∨ (acc.getD e.on 0).testBit j = true)
  | [], h => by simp at h
  | e :: es, h => by
    simp only [List.foldr_cons] at h
    split at h
    · rename_i hb
      rw [Nat.testBit_or, Bool.or_eq_true, Nat.testBit_or, Bool.or_eq_true] at h
      rcases h with h | h | h
      · obtain ⟨e', h1, h2⟩ := ancOf_spec es h
        exact ⟨e', List.mem_cons_of_mem _ h1, h2⟩
      · refine ⟨e, List.mem_cons_self, hb, .inl ?_⟩
        rw [Nat.testBit_two_pow] at h
        simp at h
        exact h.symm
      · exact ⟨e, List.mem_cons_self, hb, .inr h⟩
    · obtain ⟨e', h1, h2⟩ := ancOf_spec es h
      exact ⟨e', List.mem_cons_of_mem _ h1, h2⟩

theorem ancs_spec : ∀ (l : List Oper) (acc : List Nat) (i : Nat) (o : Oper) (j : Nat), l[i]? = some o → (∀ e ∈ o.after, Region.binds .any e = true → e.on < acc.length + i) → ((ancs l acc).getD (acc.length + i) 0).testBit j = true →
    ∃ e ∈ o.after, Region.binds .any e = true ∧ (j = e.on ∨ ((ancs l acc).getD e.on 0).testBit j = true)
  | [], acc, i, o, j, h, _, _ => by simp at h
  | o' :: l, acc, 0, o, j, h, hlt, hb => by
    simp at h
    subst h
    have e1 : (ancs (o' :: l) acc).getD (acc.length + 0) 0 = ancOf acc o' := by
      rw [ancs, ancs_old l _ _ (by simp)]
      simp [List.getD_eq_getElem?_getD]
    rw [e1] at hb
    obtain ⟨e, h1, h2, h3⟩ := ancOf_spec o'.after.toList hb
    have h1' : e ∈ o'.after := by simpa using h1
    refine ⟨e, h1', h2, h3.imp id fun h4 => ?_⟩
    have := hlt e h1' h2
    rw [ancs, ancs_old l _ _ (by simp; omega)]
    rw [List.getD_eq_getElem?_getD, List.getElem?_append_left (by omega), ← List.getD_eq_getElem?_getD]
    exact h4
  | o' :: l, acc, i + 1, o, j, h, hlt, hb => by
    rw [ancs] at hb ⊢
    have := ancs_spec l (acc ++ [ancOf acc o']) i o j (by simpa using h) (fun e h1 h2 => by have := hlt e h1 h2; simp; omega) (by
      rw [show (acc ++ [ancOf acc o']).length + i = acc.length + (i + 1) by simp; omega]
      exact hb)
    exact this

theorem edgesOK_spec : ∀ (l : List Oper) (k i : Nat) (o : Oper), edgesOK k l = true → l[i]? = some o → ∀ e ∈ o.after, Region.binds .any e = true → e.on < k + i
  | [], k, i, o, _, h => by simp at h
  | o' :: l, k, i, o, h, hi => by
    simp only [edgesOK, Bool.and_eq_true, List.all_eq_true] at h
    intro e he hb
    cases i with
    | zero =>
      simp at hi
      subst hi
      have := h.1 e (by simpa using he)
      simpa [hb] using this
    | succ i =>
      have := edgesOK_spec l (k + 1) i o h.2 (by simpa using hi) e he hb
      omega

end
end Go.MW

/- Regions whose order is drawn: the proof. -/
namespace Go.MW
open Go Go.RowKit
set_option linter.unusedVariables false
set_option linter.unusedSimpArgs false

/-- Rows keep their kind, and do not shrink. -/
def SameK : Blk → Blk → Prop
  | .row sz xs _ _, .row sz' xs' _ _ => sz = sz' ∧ xs.length ≤ xs'.length
  | .map _, .map _ => True
  | _, _ => False
def Grow (H H' : List Blk) : Prop := ∀ (b : Nat) (k : Blk), H[b]? = some k → ∃ k' : Blk, H'[b]? = some k' ∧ SameK k k'
theorem SameK.refl (k : Blk) : SameK k k := by cases k <;> simp [SameK]
theorem SameK.trans {a b c : Blk} (h : SameK a b) (h' : SameK b c) : SameK a c := by
  cases a <;> cases b <;> cases c <;> simp [SameK] at * <;> omega
theorem Grow.refl (H : List Blk) : Grow H H := fun b k h => ⟨k, h, .refl k⟩
theorem Grow.trans {H H' H'' : List Blk} (h : Grow H H') (h' : Grow H' H'') : Grow H H'' := fun b k hb => by
  obtain ⟨k', h1, h2⟩ := h b k hb
  obtain ⟨k'', h3, h4⟩ := h' b k' h1
  exact ⟨k'', h3, h2.trans h4⟩
theorem Grow.app (H T : List Blk) : Grow H (H ++ T) := fun b k h => ⟨k, by rw [List.getElem?_append_left (List.getElem?_eq_some_iff.1 h).1]; exact h, .refl k⟩
theorem getB_some {H : List Blk} {b : Nat} {sz : Nat} {xs : List V} {o f : Bool} (h : getB H b = .row sz xs o f) : H[b]? = some (.row sz xs o f) := by
  unfold getB at h
  rw [List.getD_eq_getElem?_getD] at h
  cases hb : H[b]? with
  | none => rw [hb] at h; cases h
  | some k => rw [hb] at h; exact congrArg some h
theorem Grow.set {H : List Blk} {b sz : Nat} {xs xs' : List V} {o f o' f' : Bool} (h : getB H b = .row sz xs o f) (hl : xs.length ≤ xs'.length) : Grow H (H.set b (.row sz xs' o' f')) := by
  intro c k hc
  have hlt := (List.getElem?_eq_some_iff.1 hc).1
  by_cases e : b = c
  · subst e
    refine ⟨_, by rw [List.getElem?_set_self hlt], ?_⟩
    rw [getB_some h] at hc
    obtain rfl := Option.some.inj hc
    exact ⟨rfl, hl⟩
  · exact ⟨k, by rw [List.getElem?_set_ne e]; exact hc, .refl k⟩

section
variable {P : Program} {G : Nat → Option (List V)}
theorem elemsK_out {H : List Blk} {x : V} {K : List V → Prop} (h : elemsK H x K) : ∃ ys, K ys := by
  unfold elemsK at h
  split at h
  · exact ⟨_, h⟩
  · exact ⟨_, h⟩
  · exact ⟨_, h⟩
  · split at h
    · obtain ⟨_, h⟩ := h
      split at h
      · exact ⟨_, h.2⟩
      · exact ⟨_, h.2.2.2.2⟩
    · exact h.elim
  · exact h.elim
theorem lenK_out {k : Nat} {H : List Blk} {x : V} {K : V → Prop} (h : lenK k H x K) : ∃ v, K v := by
  unfold lenK at h
  split at h <;> first | exact ⟨_, h⟩ | exact h.elim | skip
  obtain ⟨_, h⟩ := h
  split at h
  · exact ⟨_, h⟩
  · exact h.elim
theorem wrK_grow {sz : Nat} {x : V} {ys : List V} {H H1 : List Blk} (h : wrK sz x ys H fun H' => H' = H1) : Grow H H1 := by
  unfold wrK at h
  obtain ⟨_, h⟩ := h
  split at h
  · obtain ⟨_, hlen, h⟩ := h
    split at h
    · rename_i hb
      obtain ⟨hn, hf, h⟩ := h
      split at h
      · obtain ⟨hi, rfl⟩ := h
        exact Grow.set hb (by simp only [List.length_append, List.length_take, List.length_drop]; omega)
      · obtain ⟨_, _, _, _, rfl⟩ := h
        exact Grow.set hb (by simp)
    · exact h.elim
  · obtain ⟨_, rfl⟩ := h; exact .refl _
  · obtain ⟨_, rfl⟩ := h; exact .refl _
  · exact h.elim
theorem appK_grow {sz by_ : Nat} {x : V} {ys : List V} {H H1 : List Blk} (h : appK sz by_ x ys H fun _ H' => H' = H1) : Grow H H1 := by
  unfold appK at h
  obtain ⟨_, h⟩ := h
  split at h
  · split at h
    · obtain rfl := h; exact .refl _
    · obtain ⟨_, rfl⟩ := h; exact .app _ _
  · obtain ⟨_, rfl⟩ := h; exact .refl _
  · obtain ⟨_, _, h⟩ := h
    split at h
    · rename_i hb
      obtain ⟨hsz, hn, hi, _, h⟩ := h
      subst hsz
      split at h
      · split at h
        · obtain ⟨_, _, rfl⟩ := h
          exact Grow.set hb (by simp only [List.length_append, List.length_take, List.length_drop]; omega)
        · obtain ⟨_, rfl⟩ := h; exact .app _ _
      · split at h
        · obtain ⟨_, rfl⟩ := h
          exact Grow.set hb (by simp only [List.length_append, List.length_take, List.length_drop]; omega)
        · obtain ⟨_, _, _, rfl⟩ := h
          exact Grow.set hb (by simp only [List.length_append, List.length_take, List.length_drop]; omega)
    · exact h.elim
  · exact h.elim
/-- What writes keeps the rows. -/
theorem step_grow {q : Bool} {m : MOp} {fr : Fr} {H H1 : List Blk} (hk : m.kind = 3) (h : stepM P G q m fr H fun _ H' => H' = H1) : Grow H H1 := by
  cases m <;> simp [MOp.kind] at hk
  · simp only [stepM, stK] at h
    obtain ⟨_, h⟩ := h
    split at h
    · split at h
      · rename_i hb
        obtain ⟨_, _, _, _, rfl⟩ := h
        exact Grow.set hb (by simp)
      · exact h.elim
    · exact h.elim
  · simp only [stepM] at h
    obtain ⟨ys, h⟩ := elemsK_out h
    exact appK_grow h
  · simp only [stepM] at h
    split at h
    · exact appK_grow h.2
    · exact h.elim
  · simp only [stepM] at h
    obtain ⟨ys, h⟩ := elemsK_out h
    obtain ⟨v, h⟩ := lenK_out h
    split at h
    · exact wrK_grow h
    · exact h.elim
  · simp only [stepM] at h
    obtain ⟨v, h⟩ := lenK_out h
    split at h
    · exact wrK_grow h
    · exact h.elim
  · simp only [stepM] at h
  · simp only [stepM] at h

theorem Trace.rows {ms : List MO} {v : Nat → V} {h : Nat → List Blk} {fr : Nat → Fr} {run : Nat → Bool} (tr : Trace P G ms v h fr run) {i : Nat} : ∀ c, i ≤ c → c ≤ ms.length → (∀ j, i ≤ j → j < c → (ms.getD j noMO).isW = true → (ms.getD j noMO).op.kind = 3) → Grow (h i) (h c)
  | 0, h1, _, _ => by rw [show i = 0 by omega]; exact .refl _
  | c + 1, h1, h2, hw => by
    by_cases hc : i = c + 1
    · rw [hc]; exact .refl _
    · have ih := tr.rows c (by omega) (by omega) fun j hj hj' => hw j hj (by omega)
      refine ih.trans ?_
      have hlt : c < ms.length := by omega
      have hm : ms[c]? = some (ms.getD c noMO) := by simp [List.getD_eq_getElem?_getD, hlt]
      cases hW : (ms.getD c noMO).isW with
      | false =>
        obtain ⟨T, hT⟩ := tr.grow hm hW
        rw [hT]
        exact .app _ _
      | true =>
        have hk := hw c (by omega) (by omega) hW
        cases hr : run c with
        | false => rw [(tr.no c _ hm hr).2]; exact .refl _
        | true => exact step_grow hk (tr.yes c _ hm hr (fun _ H' => H' = h (c + 1)) rfl)

theorem bnd_mono {d : Nat} {x : Option V} {K K' : Nat → Prop} (h : bnd d x K) (hk : ∀ n, K n → K' n) : bnd d x K' := by
  unfold bnd at h ⊢
  split at h
  · exact hk _ h
  · exact ⟨h.1, hk _ h.2⟩
  · exact h.elim
/-- The rows that a slice's head knows are as long in both heaps. -/
def AsLong (H H2 : List Blk) (b n : Nat) : Prop := ∀ sz xs o f, getB H b = .row sz xs o f → xs.length = n → ∃ xs' o' f', getB H2 b = .row sz xs' o' f' ∧ xs'.length = n
theorem slHK_same {H H2 : List Blk} {b n i j : Nat} {cap : Option Nat} {sz l h : Nat} {K : V → Prop} (hs : AsLong H H2 b n) (hh : slHK H b n i j cap sz l h K) : slHK H2 b n i j cap sz l h K := by
  unfold slHK at hh ⊢
  split at hh
  · rename_i hb
    obtain ⟨h1, h2⟩ := hh
    obtain ⟨xs', o', f', h3, h4⟩ := hs _ _ _ _ hb h1
    rw [h3]
    exact ⟨h4, h2⟩
  · exact hh.elim
theorem slK_same {H H2 : List Blk} {sz : Nat} {x : V} {lo hi mx : Option V} {K : V → Prop} (hs : ∀ b n i j len cap sz, x = .hs b n i j len cap sz → AsLong H H2 b n) (hh : slK H sz x lo hi mx K) : slK H2 sz x lo hi mx K := by
  unfold slK at hh ⊢
  obtain ⟨h0, hh⟩ := hh
  refine ⟨h0, ?_⟩
  split at hh
  · exact hh
  · exact hh
  · obtain ⟨h1, hh⟩ := hh
    refine ⟨h1, ?_⟩
    have hs' := hs _ _ _ _ _ _ _ rfl
    split at hh
    · exact bnd_mono hh fun _ h => ⟨h.1, bnd_mono h.2 fun _ h => ⟨h.1, slHK_same hs' h.2⟩⟩
    · exact bnd_mono hh fun _ h => ⟨h.1, bnd_mono h.2 fun _ h => ⟨h.1, slHK_same hs' h.2⟩⟩
    · exact bnd_mono hh fun _ h => ⟨h.1, bnd_mono h.2 fun _ h => ⟨h.1, bnd_mono h.2 fun _ h => ⟨h.1, slHK_same hs' h.2⟩⟩⟩
    · exact bnd_mono hh fun _ h => ⟨h.1, bnd_mono h.2 fun _ h => ⟨h.1, bnd_mono h.2 fun _ h => ⟨h.1, slHK_same hs' h.2⟩⟩⟩
  · exact hh.elim
theorem slAK_same {H H2 : List Blk} {n sz : Nat} {x : V} {lo hi mx : Option V} {K : V → Prop} (hs : ∀ b n i j, x = .ptr b n i j → AsLong H H2 b n) (hh : slAK H n sz x lo hi mx K) : slAK H2 n sz x lo hi mx K := by
  unfold slAK at hh ⊢
  obtain ⟨h0, hh⟩ := hh
  refine ⟨h0, ?_⟩
  split at hh
  · exact bnd_mono hh fun _ h => ⟨h.1, bnd_mono h.2 fun _ h => ⟨h.1, bnd_mono h.2 fun _ h => ⟨h.1, slHK_same (hs _ _ _ _ rfl) h.2⟩⟩⟩
  · exact hh.elim
theorem iaK_same {H H2 : List Blk} {sz : Nat} {x i : V} {K : V → Prop} (hs : ∀ b n i j len cap sz, x = .hs b n i j len cap sz → AsLong H H2 b n) (hh : iaK H sz x i K) : iaK H2 sz x i K := by
  unfold iaK at hh ⊢
  split at hh
  · exact hh
  · obtain ⟨h1, h2, h3, hh⟩ := hh
    refine ⟨h1, h2, h3, ?_⟩
    split at hh
    · rename_i hb
      obtain ⟨h4, h5⟩ := hh
      obtain ⟨xs', o', f', h6, h7⟩ := hs _ _ _ _ _ _ _ rfl _ _ _ _ hb h4
      rw [h6]
      exact ⟨h7, h5⟩
    · exact hh.elim
  · exact hh.elim
/-- An operation that looks at a slice's head alone. -/
theorem hdr_same {q : Bool} {m : MOp} {fr : Fr} {H H2 H0 : List Blk} {v : V} (hm : m.hdr = true) (hs : ∀ t, .t t ∈ m.opds → ∀ b n, (∃ i j, get fr t = .ptr b n i j) ∨ (∃ i j len cap sz, get fr t = .hs b n i j len cap sz) → AsLong H H2 b n)
    (h : stepM P G q m fr H fun v' H' => v' = v ∧ H' = H0) : stepM P G q m fr H2 fun v' H' => v' = v ∧ H' = H2 := by
  have fin : ∀ {u : V}, (u = v ∧ H = H0) → (u = v ∧ True) := fun h => ⟨h.1, trivial⟩
  unfold MOp.hdr at hm
  split at hm
  · simp only [stepM, ev] at h ⊢
    have := slK_same (fun b n i j len cap sz e => hs _ (by simp [MOp.opds]) b n (.inr ⟨_, _, _, _, _, e⟩)) h
    obtain ⟨u, hu, hk⟩ := (slK_det _ _ _ _ _).same this
    exact hk _ (fin hu)
  · simp only [stepM, ev] at h ⊢
    have := slAK_same (fun b n i j e => hs _ (by simp [MOp.opds]) b n (.inl ⟨_, _, e⟩)) h
    obtain ⟨u, hu, hk⟩ := (slAK_det _ _ _ _ _ _).same this
    exact hk _ (fin hu)
  · simp only [stepM, ev] at h ⊢
    have := iaK_same (fun b n i j len cap sz e => hs _ (by simp [MOp.opds]) b n (.inr ⟨_, _, _, _, _, e⟩)) h
    obtain ⟨u, hu, hk⟩ := (iaK_det _ _ _).same this
    exact hk _ (fin hu)
  · rename_i k t
    simp only [stepM, ev] at h ⊢
    unfold lenK at h ⊢
    split at h
    · exact fin h
    · exact fin h
    · exact fin h
    · exact fin h
    · simp at hm
    · exact h.elim
  · cases hm

end

theorem hdr_kind {m : MOp} (h : m.kind ≠ 0) : m.hdr = false := by
  cases hm : m.hdr with
  | false => rfl
  | true =>
    unfold MOp.hdr at hm
    split at hm <;> first | exact absurd rfl h | cases hm

theorem isW_kind {m : MO} (h : m.isW = true) : 2 ≤ m.op.kind := by
  simp [MO.isW] at h
  omega
theorem getB_set_off {H : List Blk} {b c : Nat} (k : Blk) (h : b ≠ c) : getB (H.set b k) c = getB H c := by simp [getB, List.getD_eq_getElem?_getD, h]
theorem oldR_op {ms : List MO} {i : Nat} (h : oldR ms i = true) : ∃ agg t, (ms.getD i noMO).op = .ld agg (.t t) ∧ ∀ m ∈ ms, m.dst ≠ some t := by
  unfold oldR at h
  split at h
  · rename_i agg t e
    refine ⟨agg, t, e, fun m hm => ?_⟩
    have := List.all_eq_true.1 h m hm
    simpa using this
  · cases h
theorem oldR_kind {ms : List MO} {i : Nat} (h : (ms.getD i noMO).op.kind ≠ 0) : oldR ms i = false := by
  cases ho : oldR ms i with
  | false => rfl
  | true =>
    obtain ⟨agg, t, e, _⟩ := oldR_op ho
    rw [e] at h
    exact absurd rfl h
theorem oldR_notW {ms : List MO} {i j : Nat} (h : (ms.getD i noMO).isW = true) : oldR ms i = true → freshW ms j = false := fun ho => by
  rw [oldR_kind (by have := isW_kind h; omega)] at ho
  cases ho

/-- A slice that lies in a block that is new. -/
def FrV (N : Nat) (v : V) : Prop := ∀ b n i j len cap sz, v = .hs b n i j len cap sz → N ≤ b
section
variable {P : Program} {G : Nat → Option (List V)}
theorem appK_fresh {N sz by_ : Nat} {x v : V} {ys : List V} {H H1 : List Blk} (h : appK sz by_ x ys H fun v' H' => v' = v ∧ H' = H1) (hx : FrV N x) (hN : N ≤ H.length) : FrV N v ∧ ∀ b, b < N → getB H1 b = getB H b := by
  have new : ∀ (k : Blk) b, b < N → getB (H ++ [k]) b = getB H b := fun k b hb => getB_app' (by omega)
  have set : ∀ (c : Nat) (k : Blk) b, N ≤ c → b < N → getB (H.set c k) b = getB H b := fun c k b hc hb => getB_set_off _ (by omega)
  have hl : ∀ n i j len cap s, FrV N (.hs H.length n i j len cap s) := fun n i j len cap s b _ _ _ _ _ _ e => by cases e; exact hN
  unfold appK at h
  obtain ⟨_, h⟩ := h
  split at h
  · split at h
    · obtain ⟨rfl, rfl⟩ := h; exact ⟨hx, fun _ _ => rfl⟩
    · obtain ⟨_, rfl, rfl⟩ := h; exact ⟨hl _ _ _ _ _ _, new _⟩
  · obtain ⟨_, rfl, rfl⟩ := h; exact ⟨hx, fun _ _ => rfl⟩
  · have hb := hx _ _ _ _ _ _ _ rfl
    have hb' : ∀ (b : Nat), N ≤ b → ∀ n i j len cap s, FrV N (.hs b n i j len cap s) := fun b hb n i j len cap s b' _ _ _ _ _ _ e => by cases e; exact hb
    obtain ⟨_, _, h⟩ := h
    split at h
    · obtain ⟨_, _, _, _, h⟩ := h
      split at h
      · split at h
        · obtain ⟨_, _, rfl, rfl⟩ := h; exact ⟨hb' _ hb _ _ _ _ _ _, fun b' h' => set _ _ b' hb h'⟩
        · obtain ⟨_, rfl, rfl⟩ := h; exact ⟨hl _ _ _ _ _ _, new _⟩
      · split at h
        · obtain ⟨_, rfl, rfl⟩ := h; exact ⟨hb' _ hb _ _ _ _ _ _, fun b' h' => set _ _ b' hb h'⟩
        · obtain ⟨_, _, _, rfl, rfl⟩ := h; exact ⟨hb' _ hb _ _ _ _ _ _, fun b' h' => set _ _ b' hb h'⟩
    · exact h.elim
  · exact h.elim

theorem Trace.long {ms : List MO} {v : Nat → V} {h : Nat → List Blk} {fr : Nat → Fr} {run : Nat → Bool} (tr : Trace P G ms v h fr run) {j : Nat} (hj : j ≤ ms.length) (hc : ∀ i, i < j → (ms.getD i noMO).op.kind ≠ 2 ∨ (ms.getD i noMO).q = true) : (h 0).length ≤ (h j).length := by
  have g := tr.rows (i := 0) j (by omega) hj fun i _ hi hw => by
    have hk := isW_kind hw
    rcases hc i hi with h2 | h2
    · have hk3 : (ms.getD i noMO).op.kind ≤ 3 := by cases (ms.getD i noMO).op <;> simp [MOp.kind]
      omega
    · unfold MO.isW at hw
      rw [h2] at hw
      simpa using hw
  rcases Nat.lt_or_ge (h j).length (h 0).length with hl | hl
  · obtain ⟨k', hk', _⟩ := g (h j).length _ (List.getElem?_eq_getElem hl)
    have := (List.getElem?_eq_some_iff.1 hk').1
    omega
  · exact hl

theorem Trace.fresh {ms : List MO} {v : Nat → V} {h : Nat → List Blk} {fr : Nat → Fr} {run : Nat → Bool} (tr : Trace P G ms v h fr run) : ∀ (j x : Nat), j ≤ ms.length → (∀ i, i < j → (ms.getD i noMO).op.kind ≠ 2 ∨ (ms.getD i noMO).q = true) → freshT ms j x = true → FrV (h 0).length (get (fr j) x)
  | 0, x, _, _, hf => by simp [freshT] at hf
  | j + 1, x, hj, hc, hf => by
    have hm : ms[j]? = some (ms.getD j noMO) := by simp [List.getD_eq_getElem?_getD, show j < ms.length by omega]
    have hl := tr.long (j := j) (by omega) fun i hi => hc i (by omega)
    rw [tr.frs j _ hm, get_put]
    unfold freshT at hf
    split at hf
    · rename_i hd
      rw [beq_iff_eq] at hd
      rw [if_pos hd]
      rw [Bool.and_eq_true] at hf
      obtain ⟨hg, hf⟩ := hf
      have hr : run j = true := by
        cases hr : run j with
        | true => rfl
        | false =>
          have := tr.gd j _ hm False True (by rw [hr]; simp)
          have hg' : (ms.getD j noMO).gd = none := by simpa using hg
          rw [hg'] at this
          exact this.elim
      have hs := tr.yes j _ hm hr (fun v' H' => v' = v j ∧ H' = h (j + 1)) ⟨rfl, rfl⟩
      split at hf
      · rename_i e
        rw [e, stepM_make rfl] at hs
        simp only [mkM] at hs
        obtain ⟨xs, hs, _⟩ := (partsS_det (G := G) _ _ _ _).same (H := []) hs
        rw [← hs.1]
        intro b n i jj len cap sz e
        cases e
        exact hl
      · rename_i y w e
        rw [e] at hs
        simp only [stepM, ev] at hs
        obtain ⟨ys, hs⟩ := elemsK_out hs
        exact (appK_fresh hs (tr.fresh j y (by omega) (fun i hi => hc i (by omega)) hf) hl).1
      · cases hf
    · rename_i hd
      rw [beq_iff_eq] at hd
      rw [if_neg hd]
      exact tr.fresh j x (by omega) (fun i hi => hc i (by omega)) hf

theorem Trace.freshW {ms : List MO} {v : Nat → V} {h : Nat → List Blk} {fr : Nat → Fr} {run : Nat → Bool} (tr : Trace P G ms v h fr run) {j : Nat} (hj : j < ms.length) (hf : freshW ms j = true) : ∀ b, b < (h 0).length → getB (h (j + 1)) b = getB (h j) b := by
  have hm : ms[j]? = some (ms.getD j noMO) := by simp [List.getD_eq_getElem?_getD, hj]
  unfold MW.freshW at hf
  rw [Bool.and_eq_true] at hf
  obtain ⟨hf, hc⟩ := hf
  have hc' : ∀ i, i < j → (ms.getD i noMO).op.kind ≠ 2 ∨ (ms.getD i noMO).q = true := fun i hi => by
    have := List.all_eq_true.1 hc i (by simpa using hi)
    simpa using this
  cases hr : run j with
  | false => rw [(tr.no j _ hm hr).2]; exact fun _ _ => rfl
  | true =>
    have hs := tr.yes j _ hm hr (fun v' H' => v' = v j ∧ H' = h (j + 1)) ⟨rfl, rfl⟩
    split at hf
    · rename_i x w e
      rw [e] at hs
      simp only [stepM, ev] at hs
      obtain ⟨ys, hs⟩ := elemsK_out hs
      exact (appK_fresh hs (tr.fresh j x (by omega) hc' hf) (tr.long (by omega) hc')).2
    · cases hf

theorem Trace.keep0 {ms : List MO} {v : Nat → V} {h : Nat → List Blk} {fr : Nat → Fr} {run : Nat → Bool} (tr : Trace P G ms v h fr run) {i b : Nat} (hb : b < (h 0).length) (hbi : b < (h i).length) : ∀ c, i ≤ c → c ≤ ms.length → (∀ j, i ≤ j → j < c → (ms.getD j noMO).isW = false ∨ MW.freshW ms j = true) → getB (h c) b = getB (h i) b ∧ b < (h c).length
  | 0, h1, _, _ => by obtain rfl : i = 0 := by omega
                      exact ⟨rfl, hbi⟩
  | c + 1, h1, h2, hw => by
    by_cases hc : i = c + 1
    · subst hc; exact ⟨rfl, hbi⟩
    · obtain ⟨k1, k2⟩ := tr.keep0 hb hbi c (by omega) (by omega) fun j hj hj' => hw j hj (by omega)
      have hm : ms[c]? = some (ms.getD c noMO) := by simp [List.getD_eq_getElem?_getD, show c < ms.length by omega]
      rcases hw c (by omega) (by omega) with h5 | h5
      · obtain ⟨T, hT⟩ := tr.grow hm h5
        rw [hT]
        exact ⟨by rw [getB_app' k2, k1], by rw [List.length_append]; omega⟩
      · have h6 := tr.freshW (by omega) h5 b hb
        refine ⟨by rw [h6, k1], ?_⟩
        have hk : (ms.getD c noMO).op.kind = 3 := by
          unfold MW.freshW at h5
          rw [Bool.and_eq_true] at h5
          have h7 := h5.1
          split at h7
          · rename_i e; rw [e]; rfl
          · cases h7
        cases hr : run c with
        | false => rw [(tr.no c _ hm hr).2]; exact k2
        | true =>
          have g := step_grow hk (tr.yes c _ hm hr (fun _ H' => H' = h (c + 1)) rfl)
          obtain ⟨k', hk', _⟩ := g b _ (List.getElem?_eq_getElem k2)
          exact (List.getElem?_eq_some_iff.1 hk').1

theorem Trace.reg0 {ms : List MO} {v : Nat → V} {h : Nat → List Blk} {fr : Nat → Fr} {run : Nat → Bool} (tr : Trace P G ms v h fr run) {t : Nat} (ht : ∀ m ∈ ms, m.dst ≠ some t) : ∀ i, i ≤ ms.length → get (fr i) t = get (fr 0) t
  | 0, _ => rfl
  | i + 1, hi => by
    have hm : ms[i]? = some (ms.getD i noMO) := by simp [List.getD_eq_getElem?_getD, show i < ms.length by omega]
    rw [tr.frs i _ hm, get_put, if_neg (ht _ (List.mem_of_getElem? hm))]
    exact tr.reg0 ht i (by omega)

theorem old_same {ms : List MO} {v : Nat → V} {h : Nat → List Blk} {fr : Nat → Fr} {run : Nat → Bool} {i c : Nat} (ho : oldR ms i = true) (hi : i < ms.length) (hm : ms[i]? = some (ms.getD i noMO)) (tr : Trace P G ms v h fr run) (hold : ∀ t b n i j, get (fr 0) t = .ptr b n i j → b < (h 0).length) (hic : i < c) (hc : c ≤ ms.length)
    (hw : ∀ j, i ≤ j → j < c → (ms.getD j noMO).isW = false ∨ MW.freshW ms j = true) (hs : stepM P G (ms.getD i noMO).q (ms.getD i noMO).op (fr i) (h i) fun v' H' => v' = v i ∧ H' = h (i + 1)) :
    stepM P G (ms.getD i noMO).q (ms.getD i noMO).op (fr i) (h c) fun v' H' => v' = v i ∧ H' = h c := by
  obtain ⟨agg, t, e, ht⟩ := oldR_op ho
  rw [e] at hs ⊢
  simp only [stepM, ev] at hs ⊢
  have hx := tr.reg0 ht i (by omega)
  have hold' := hold t
  rw [← hx] at hold'
  generalize get (fr i) t = x at hs hold'
  unfold ldK at hs ⊢
  split at hs
  · split at hs
    · exact ⟨hs.1, hs.2.1, rfl⟩
    · exact ⟨hs.1, hs.2.1, rfl⟩
  · rename_i b n i' j'
    have hb := hold' b n i' j' rfl
    split at hs
    · rename_i sz xs o f hg
      have hbi : b < (h i).length := by
        rcases Nat.lt_or_ge b (h i).length with h9 | h9
        · exact h9
        · simp [getB, List.getD_eq_getElem?_getD, List.getElem?_eq_none h9] at hg
      rw [(tr.keep0 hb hbi c (by omega) hc hw).1, hg]
      obtain ⟨h1, h2, hs⟩ := hs
      refine ⟨h1, h2, ?_⟩
      split at hs
      · exact ⟨hs.1, hs.2.1, rfl⟩
      · exact ⟨hs.1, hs.2.1, rfl⟩
    · exact hs.elim
  · exact hs.elim
end

structure DCtx (P : Program) (G : Nat → Option (List V)) (nt : Nat) (ops : Array Oper) (ms : List MO) (bs : List Nat) (v : Nat → V) (h : Nat → List Blk) (fr : Nat → Fr) (run : Nat → Bool) : Prop where
  hops : ∀ i o, ops[i]? = some o → ms[i]? = some (ms.getD i noMO) ∧ compOp P o.op = some (ms.getD i noMO).op ∧ compGuard ops.toList nt o.guard = some (ms.getD i noMO).gd ∧ dstOK nt o.dst = true ∧ (ms.getD i noMO).dst = o.dst
  len : ms.length = ops.size
  tr : Trace P G ms v h fr run
  ord : ∀ i j, i < j → j < ms.length → conflict (ms.getD i noMO) (ms.getD j noMO) = true → (oldR ms i = true → freshW ms j = false) → MW.ahead bs i j = true
  ordR : ∀ i j, i < j → j < ms.length → ((∃ d, (ms.getD i noMO).dst = some d ∧ (d ∈ (ms.getD j noMO).looks ∨ (ms.getD j noMO).dst = some d)) ∨ (∃ d, (ms.getD j noMO).dst = some d ∧ d ∈ (ms.getD i noMO).looks)) → MW.ahead bs i j = true
  old : ∀ t b n i j, get (fr 0) t = .ptr b n i j → b < (h 0).length

def dstOf (ms : List MO) (i : Nat) : Option Nat := (ms.getD i noMO).dst

def addD (D : Nat → Bool) (i : Nat) : Nat → Bool := fun j => decide (j = i) || D j

structure Inv (P : Program) (G : Nat → Option (List V)) (B : Bd) (nt : Nat) (Φ0 : Nat → Option Pl) (Z0 : Nat → Prop) (w0 : World) (ms : List MO) (bs : List Nat) (v : Nat → V) (h : Nat → List Blk) (fr : Nat → Fr) (run : Nat → Bool) (D : Nat → Bool) (a : Act) (w : World) (Φ : Nat → Option Pl) (Z : Nat → Prop) (c : Nat) : Prop where
  cle : c ≤ ms.length
  cat : c < ms.length → D c = false ∧ (ms.getD c noMO).isW = true
  cbe : ∀ j, j < c → (ms.getD j noMO).isW = true → D j = true
  rel : Rel G B Φ Z (h c) w
  frr : FrR Φ Z w (frl (dstOf ms) v (fr 0) D ms.length) a
  ev : Ev B Φ0 Z0 w0 Φ Z w
  sz : a.tmps.size = nt
  df : a.defers = []
  pend : ∀ i, i < c → D i = false → run i = true → (ms.getD i noMO).op.kind = 1 → Φ (h i).length = none ∧ B.pd (h i).length = none ∧ ∀ m b, i < m → m ≤ c → (h (i + 1))[(h i).length]? = some b → (h m)[(h i).length]? = some b
  clo : ∀ j, D j = true → j < ms.length ∧ ∀ i, MW.ahead bs i j = true → D i = true

section
variable {P : Program} {G : Nat → Option (List V)} {B : Bd} {nt : Nat} {Φ0 : Nat → Option Pl} {Z0 : Nat → Prop} {w0 : World} {ops : Array Oper} {ms : List MO} {bs : List Nat} {v : Nat → V} {h : Nat → List Blk} {fr : Nat → Fr} {run : Nat → Bool} {D : Nat → Bool} {a : Act} {w : World} {Φ : Nat → Option Pl} {Z : Nat → Prop} {c : Nat}

theorem conflict_iff {x y : MO} : conflict x y = true ↔ ((∃ d, x.dst = some d ∧ (d ∈ y.looks ∨ y.dst = some d)) ∨ (∃ d, y.dst = some d ∧ d ∈ x.looks) ∨ (x.isW = true ∧ y.op.heat ≠ 0 ∧ (y.op.hdr = false ∨ x.op.kind ≠ 3)) ∨ (x.op.heat ≠ 0 ∧ x.op.kind ≠ 1 ∧ y.isW = true)) := by
  unfold conflict
  cases hx : x.dst <;> cases hy : y.dst <;> simp [or_assoc, and_assoc]

theorem text_frame (tr : Trace P G ms v h fr run) (t : Nat) : ∀ k, k ≤ ms.length → get (frl (dstOf ms) v (fr 0) (fun _ => true) k) t = get (fr k) t
  | 0, _ => rfl
  | k + 1, hk => by
    have hm : ms[k]? = some (ms.getD k noMO) := by simp [List.getD_eq_getElem?_getD, show k < ms.length by omega]
    rw [frl_succ, tr.frs k _ hm, get_put, text_frame tr t k (by omega)]
    simp [dstOf]

/-- What an operation that may be next looks at is as in text. -/
theorem look_same (cx : DCtx P G nt ops ms bs v h fr run) (hclo : ∀ j, D j = true → j < ms.length ∧ ∀ i, MW.ahead bs i j = true → D i = true) {i : Nat} (hi : i < ms.length) (hD : D i = false) (hr : ∀ j, MW.ahead bs j i = true → D j = true) {t : Nat} (ht : t ∈ (ms.getD i noMO).looks) :
    get (frl (dstOf ms) v (fr 0) D ms.length) t = get (fr i) t := by
  rw [frl_skip (k := i) ms.length (by omega), frl_ext (D' := fun _ => true) i, text_frame cx.tr t i (by omega)]
  · intro j hj hd
    have := cx.ordR j i hj hi (.inl ⟨t, hd, .inl ht⟩)
    exact hr j this
  · intro j hj hj' hd
    by_cases hji : j = i
    · rw [hji]; exact hD
    · have := cx.ordR i j (by omega) hj' (.inr ⟨t, hd, ht⟩)
      cases hDj : D j with
      | false => rfl
      | true =>
        rw [(hclo j hDj).2 i this] at hD
        cases hD

/-- The frame behind an operation. -/
theorem frame_add (cx : DCtx P G nt ops ms bs v h fr run) (hclo : ∀ j, D j = true → j < ms.length ∧ ∀ i, MW.ahead bs i j = true → D i = true) {i : Nat} (hi : i < ms.length) (hD : D i = false) (t : Nat) :
    get (frl (dstOf ms) v (fr 0) (addD D i) ms.length) t = get (put (dstOf ms i) (v i) (frl (dstOf ms) v (fr 0) D ms.length)) t := by
  rw [get_put]
  split
  · rename_i hd
    rw [frl_skip (k := i + 1) ms.length (by omega), frl_succ, if_pos ⟨by simp [addD], hd⟩]
    intro j hj hj' hd'
    have := cx.ordR i j (by omega) hj' (.inl ⟨t, hd, .inr hd'⟩)
    cases hDj : D j with
    | false => simp [addD, hDj]; omega
    | true =>
      rw [(hclo j hDj).2 i this] at hD
      cases hD
  · rename_i hd
    refine frl_ext _ fun j hj hd' => ?_
    have : j ≠ i := by rintro rfl; exact hd hd'
    simp [addD, this]

theorem mem_looks {m : MO} {t : Nat} (h : Opd.t t ∈ m.op.opds) : t ∈ m.looks := by
  unfold MO.looks
  exact List.mem_append_left _ (List.mem_filterMap.2 ⟨.t t, h, rfl⟩)

theorem nextW (ms : List MO) : ∀ d k, ms.length - k = d → k ≤ ms.length → ∃ c, k ≤ c ∧ c ≤ ms.length ∧ (c < ms.length → (ms.getD c noMO).isW = true) ∧ ∀ j, k ≤ j → j < c → (ms.getD j noMO).isW = false
  | 0, k, hd, hk => ⟨ms.length, by omega, Nat.le_refl _, fun h => by omega, fun j h1 h2 => by omega⟩
  | d + 1, k, hd, hk => by
    cases hw : (ms.getD k noMO).isW with
    | true => exact ⟨k, Nat.le_refl _, hk, fun _ => hw, fun j h1 h2 => by omega⟩
    | false =>
      obtain ⟨c, h1, h2, h3, h4⟩ := nextW ms d (k + 1) (by omega) (by omega)
      refine ⟨c, by omega, h2, h3, fun j h5 h6 => ?_⟩
      by_cases hj : j = k
      · rw [hj]; exact hw
      · exact h4 j (by omega) h6

theorem isW_cool {m : MO} (h : m.op.kind = 0 ∨ m.op.kind = 1) : m.isW = false := by
  unfold MO.isW
  rcases h with h | h <;> rw [h] <;> rfl


theorem Rel.none_of_le {H : List Blk} (hrel : Rel G B Φ Z H w) {b : Nat} (h : H.length ≤ b) : Φ b = none := by
  cases hp : Φ b with
  | none => rfl
  | some p =>
    obtain ⟨k, hk, _⟩ := hrel.blk _ _ hp
    have := (List.getElem?_eq_some_iff.1 hk).1
    omega

open Classical in
/-- One operation, any that may be next. -/
theorem draw_step (cx : DCtx P G nt ops ms bs v h fr run) {Q : Exit → Act → World → Prop} {next : Act → World → Prop} {i : Nat} (hi : i < ms.length) (inv : Inv P G B nt Φ0 Z0 w0 ms bs v h fr run D a w Φ Z c) (hD : D i = false) (hr : ∀ j, MW.ahead bs j i = true → D j = true)
    (hn : ∀ a' w' Φ' Z' c', Inv P G B nt Φ0 Z0 w0 ms bs v h fr run (addD D i) a' w' Φ' Z' c' → next a' w') : wpOp P ops Q i next a w := by
  have hlt : i < ops.size := by rw [← cx.len]; exact hi
  have ho : ops[i]? = some ops[i] := Array.getElem?_eq_getElem hlt
  obtain ⟨hm, hcomp, hgd, hdst, hdsts⟩ := cx.hops i _ ho
  have hok : OpOK P G ops[i] (ms.getD i noMO).op := compOp_ok hcomp
  have hag : ∀ x ∈ (ms.getD i noMO).op.opds, ev G (fr i) x = ev G (frl (dstOf ms) v (fr 0) D ms.length) x := by
    intro x hx
    cases x with
    | t t => simp only [ev]; exact (look_same cx inv.clo hi hD hr (mem_looks hx)).symm
    | _ => rfl
  have hput : ∀ {Φ' : Nat → Option Pl} {Z' : Nat → Prop} {w' : World} {rv : Value}, Ev B Φ Z w Φ' Z' w' → VR Φ' Z' w' (v i) rv → FrR Φ' Z' w' (frl (dstOf ms) v (fr 0) (addD D i) ms.length) (a.put ops[i].dst rv) := by
    intro Φ' Z' w' rv he hv t
    rw [frame_add cx inv.clo hi hD]
    have : dstOf ms i = ops[i].dst := hdsts
    rw [this]
    exact (inv.frr.ev he).put hv (fun t ht => by rw [inv.sz]; exact dstOK_spec hdst t ht) t
  have hclo' : ∀ j, addD D i j = true → j < ms.length ∧ ∀ k, MW.ahead bs k j = true → addD D i k = true := by
    intro j hj
    simp only [addD, Bool.or_eq_true, decide_eq_true_eq] at hj ⊢
    rcases hj with rfl | hj
    · exact ⟨hi, fun k hk => .inr (hr k hk)⟩
    · exact ⟨(inv.clo j hj).1, fun k hk => .inr ((inv.clo j hj).2 k hk)⟩
  -- where a writer stands that is not done
  have hot : (ms.getD i noMO).op.heat ≠ 0 → (ms.getD i noMO).isW = false → i < c ∨ ((ms.getD i noMO).op.hdr = true ∧ c ≤ i ∧ ∀ j, c ≤ j → j < i → (ms.getD j noMO).isW = true → (ms.getD j noMO).op.kind = 3) := by
    intro hh hw
    rcases Nat.lt_or_ge i c with h1 | h1
    · exact .inl h1
    · have hcl : c < ms.length := by omega
      obtain ⟨h2, h3⟩ := inv.cat hcl
      have hne : c ≠ i := by rintro rfl; rw [hw] at h3; cases h3
      have key : ∀ j, c ≤ j → j < i → (ms.getD j noMO).isW = true → (ms.getD i noMO).op.hdr = true ∧ (ms.getD j noMO).op.kind = 3 := by
        intro j hj hji hwj
        refine Classical.byContradiction fun hno => ?_
        have h4 := hr j (cx.ord j i hji hi (conflict_iff.2 (.inr (.inr (.inl ⟨hwj, hh, by
          cases hd : (ms.getD i noMO).op.hdr with
          | false => exact .inl rfl
          | true => exact .inr fun e => hno ⟨hd, e⟩⟩)))) (oldR_notW hwj))
        by_cases hjc : j = c
        · subst hjc; rw [h2] at h4; cases h4
        · have h5 := (inv.clo j h4).2 c (cx.ord c j (by omega) (by omega) (conflict_iff.2 (.inr (.inr (.inr ⟨kind_heat (by have := isW_kind h3; omega), by have := isW_kind h3; omega, hwj⟩)))) (oldR_notW h3))
          rw [h2] at h5; cases h5
      exact .inr ⟨(key c (Nat.le_refl _) (by omega) h3).1, h1, fun j hj hji hwj => (key j hj hji hwj).2⟩
  have hot_lt : (ms.getD i noMO).op.heat ≠ 0 → (ms.getD i noMO).isW = false → (ms.getD i noMO).op.hdr = false → i < c := by
    intro hh hw hd
    rcases hot hh hw with h1 | ⟨h1, _⟩
    · exact h1
    · rw [hd] at h1; cases h1
  have w_at : (ms.getD i noMO).isW = true → i = c := by
    intro hw
    have hh : (ms.getD i noMO).op.heat ≠ 0 := kind_heat (by have := isW_kind hw; omega)
    rcases Nat.lt_trichotomy i c with h1 | h1 | h1
    · rw [inv.cbe i h1 hw] at hD; cases hD
    · exact h1
    · have hcl : c < ms.length := by omega
      obtain ⟨h2, h3⟩ := inv.cat hcl
      have := hr c (cx.ord c i (by omega) hi (conflict_iff.2 (.inr (.inr (.inr ⟨kind_heat (by have := isW_kind h3; omega), by have := isW_kind h3; omega, hw⟩)))) (oldR_notW h3))
      rw [h2] at this
      cases this
  have noW : ∀ k, k < c → D k = false → (ms.getD k noMO).op.heat ≠ 0 → (ms.getD k noMO).op.kind ≠ 1 → ∀ j, k ≤ j → j < c → (ms.getD j noMO).isW = false ∨ (oldR ms k = true ∧ freshW ms j = true) := by
    intro k hk hDk hh hk1 j hj hjc
    cases hw : (ms.getD j noMO).isW with
    | false => exact .inl rfl
    | true =>
      right
      refine Classical.byContradiction fun hno => ?_
      have hDj := inv.cbe j hjc hw
      by_cases hjk : j = k
      · subst hjk; rw [hDk] at hDj; cases hDj
      · have hjl : j < ms.length := by have := inv.cle; omega
        have := (inv.clo j hDj).2 k (cx.ord k j (by omega) hjl (conflict_iff.2 (.inr (.inr (.inr ⟨hh, hk1, hw⟩)))) fun ho => by
          cases hf : freshW ms j with
          | false => rfl
          | true => exact absurd ⟨ho, hf⟩ hno)
        rw [hDk] at this; cases this
  -- what stays where nothing is written
  have same : (ms.getD i noMO).isW = false → ∀ {Φ' : Nat → Option Pl} {Z' : Nat → Prop} {w' : World} {rv : Value}, Rel G B Φ' Z' (h c) w' → Ev B Φ Z w Φ' Z' w' → VR Φ' Z' w' (v i) rv →
      (∀ k, k < c → D k = false → k ≠ i → run k = true → (ms.getD k noMO).op.kind = 1 → Φ' (h k).length = none) → next (a.put ops[i].dst rv) w' := by
    intro hw Φ' Z' w' rv hrel hev hv hp
    refine hn _ _ Φ' Z' c ⟨inv.cle, fun hcl => ?_, fun j hj hwj => ?_, hrel, hput hev hv, inv.ev.trans hev, by rw [put_size]; exact inv.sz, by rw [put_defers']; exact inv.df, fun k hk hDk hrk hkk => ?_, hclo'⟩
    · obtain ⟨h2, h3⟩ := inv.cat hcl
      have hne : c ≠ i := by rintro rfl; rw [hw] at h3; cases h3
      exact ⟨by simp [addD, hne, h2], h3⟩
    · simp [addD, inv.cbe j hj hwj]
    · have hki : k ≠ i := by rintro rfl; simp [addD] at hDk
      have : D k = false := by simpa [addD, hki] using hDk
      obtain ⟨_, h5, h6⟩ := inv.pend k hk this hrk hkk
      exact ⟨hp k hk this hki hrk hkk, h5, h6⟩
  -- what comes behind a writer
  have wrote : (ms.getD i noMO).isW = true → ∀ {Φ' : Nat → Option Pl} {Z' : Nat → Prop} {w' : World} {rv : Value}, Rel G B Φ' Z' (h (i + 1)) w' → Ev B Φ Z w Φ' Z' w' → VR Φ' Z' w' (v i) rv →
      (∀ k, k < c → D k = false → run k = true → (ms.getD k noMO).op.kind = 1 → Φ' (h k).length = none ∧ ∀ b, (h c)[(h k).length]? = some b → (h (i + 1))[(h k).length]? = some b) → next (a.put ops[i].dst rv) w' := by
    intro hw Φ' Z' w' rv hrel hev hv hp
    have hic := w_at hw
    obtain ⟨c', h1, h2, h3, h4⟩ := nextW ms _ (i + 1) rfl (by omega)
    obtain ⟨T, hT⟩ := cx.tr.seg c' h1 h2 h4
    refine hn _ _ Φ' Z' c' ⟨h2, fun hcl => ⟨?_, h3 hcl⟩, fun j hj hwj => ?_, by rw [hT]; exact hrel.extend T, hput hev hv, inv.ev.trans hev, by rw [put_size]; exact inv.sz, by rw [put_defers']; exact inv.df, fun k hk hDk hrk hkk => ?_, hclo'⟩
    · have hne : c' ≠ i := by omega
      cases hDc : D c' with
      | false => simp [addD, hne, hDc]
      | true =>
        have := (inv.clo c' hDc).2 i (cx.ord i c' (by omega) hcl (conflict_iff.2 (.inr (.inr (.inr ⟨kind_heat (by have := isW_kind hw; omega), by have := isW_kind hw; omega, h3 hcl⟩)))) (oldR_notW hw))
        rw [hD] at this; cases this
    · rcases Nat.lt_trichotomy j i with h5 | h5 | h5
      · simp [addD, inv.cbe j (by omega) hwj]
      · simp [addD, h5]
      · rw [h4 j (by omega) hj] at hwj; cases hwj
    · have hki : k ≠ i := by rintro rfl; simp [addD] at hDk
      have hDk' : D k = false := by simpa [addD, hki] using hDk
      rcases Nat.lt_or_ge k i with h5 | h5
      · obtain ⟨g1, g2⟩ := hp k (by omega) hDk' hrk hkk
        obtain ⟨_, g4, g5⟩ := inv.pend k (by omega) hDk' hrk hkk
        refine ⟨g1, g4, fun m b hm1 hm2 hb => ?_⟩
        rcases Nat.lt_or_ge m (i + 1) with h6 | h6
        · exact g5 m b hm1 (by omega) hb
        · obtain ⟨T', hT'⟩ := cx.tr.seg (i := i + 1) m h6 (by omega) fun j h7 h8 => h4 j h7 (by omega)
          have h9 := g2 b (g5 c b (by omega) (Nat.le_refl _) hb)
          rw [hT', List.getElem?_append_left (List.getElem?_eq_some_iff.1 h9).1]
          exact h9
      · obtain ⟨T', hT'⟩ := cx.tr.seg (i := i + 1) k (by omega) (by omega) fun j h6 h7 => h4 j h6 (by omega)
        have hlen : (h (i + 1)).length ≤ (h k).length := by rw [hT', List.length_append]; omega
        refine ⟨hrel.none_of_le hlen, ?_, fun m b hm1 hm2 hb => ?_⟩
        · cases hpd : B.pd (h k).length with
          | none => rfl
          | some x =>
            have := (List.getElem?_eq_some_iff.1 (hrel.pend _ _ hpd).1).1
            omega
        · obtain ⟨T2, hT2⟩ := cx.tr.seg (i := k + 1) m (by omega) (by omega) fun j h7 h8 => h4 j (by omega) (by omega)
          rw [hT2, List.getElem?_append_left (List.getElem?_eq_some_iff.1 hb).1]
          exact hb
  -- the guard
  have hguard := cx.tr.gd i _ hm
  have hgk : ∀ p q : Prop, gdK (fr i) (ms.getD i noMO).gd p q → gdK (frl (dstOf ms) v (fr 0) D ms.length) (ms.getD i noMO).gd p q := by
    intro p q hh
    cases hg : (ms.getD i noMO).gd with
    | none => rw [hg] at hh; exact hh
    | some tw =>
      obtain ⟨t, want⟩ := tw
      rw [hg] at hh
      have ht : t ∈ (ms.getD i noMO).looks := by
        unfold MO.looks
        rw [hg]
        exact List.mem_append_right _ (by simp)
      simp only [gdK] at hh ⊢
      rw [look_same cx inv.clo hi hD hr ht]
      exact hh
  unfold wpOp
  rw [ho]
  simp only
  have hgs := guard_sound (ops := ops) (o := ops[i]) (p := run i = true) (q := run i = false) inv.frr inv.sz hgd (hgk _ _ (hguard _ _ (by cases run i <;> simp)))
  rcases hgs with ⟨hwant, hrun⟩ | ⟨hwant, hrun⟩
  · rw [hwant, if_pos rfl]
    refine .inl ?_
    have hyes := cx.tr.yes i _ hm hrun
    -- by kind
    rcases hk : (ms.getD i noMO).op.kind with _ | _ | k
    · -- it reads
      have hw : (ms.getD i noMO).isW = false := isW_cool (.inl hk)
      have hs : stepM P G (ms.getD i noMO).q (ms.getD i noMO).op (fr i) (h c) fun v' H' => v' = v i ∧ H' = h c := by
        by_cases h0 : (ms.getD i noMO).op.heat = 0
        · obtain ⟨v', ⟨rfl, _⟩, h2⟩ := stepM_cool h0 (hyes (fun v' H' => v' = v i ∧ H' = h (i + 1)) ⟨rfl, rfl⟩)
          exact h2 _ _ ⟨rfl, rfl⟩
        · rcases hot h0 hw with hic | ⟨hhd, hci, hk3⟩
          · by_cases hor : oldR ms i = true
            · exact old_same hor hi (by simpa using hm) cx.tr cx.old hic inv.cle (fun j h1 h2 => by
                rcases noW i hic hD h0 (by omega) j h1 h2 with h5 | ⟨_, h5⟩
                · exact .inl h5
                · exact .inr h5) (hyes _ ⟨rfl, rfl⟩)
            obtain ⟨T, hT⟩ := cx.tr.seg (i := i) c (by omega) inv.cle (fun j h1 h2 => by
              rcases noW i hic hD h0 (by omega) j h1 h2 with h5 | ⟨h5, _⟩
              · exact h5
              · exact absurd h5 hor)
            obtain ⟨v', ⟨rfl, _⟩, h2⟩ := stepM_read hk (hyes (fun v' H' => v' = v i ∧ H' = h (i + 1)) ⟨rfl, rfl⟩)
            rw [hT]
            exact h2 T _ ⟨rfl, rfl⟩
          · have hgr := cx.tr.rows i hci (by omega) hk3
            have hs0 : stepM P G (ms.getD i noMO).q (ms.getD i noMO).op (fr i) (h i) fun v' H' => v' = v i ∧ H' = h (i + 1) := hyes _ ⟨rfl, rfl⟩
            refine hdr_same hhd (fun t ht b n hx sz xs o f hb hn => ?_) hs0
            have hvr : VR Φ Z w (get (fr i) t) (a.tmps.getD t undef) := by
              have e := hag _ ht
              simp only [ev] at e
              rw [e]
              exact inv.frr t
            have hp : ∃ p, Φ b = some p ∧ n ≤ p.n := by
              rcases hx with ⟨i', j', e⟩ | ⟨i', j', len, cap, sz', e⟩
              · rw [e] at hvr
                generalize a.tmps.getD t undef = rv at hvr
                cases hvr with
                | ptr _ _ _ _ p a hp hn' hv => exact ⟨p, hp, hn'⟩
              · rw [e] at hvr
                generalize a.tmps.getD t undef = rv at hvr
                cases hvr with
                | hs _ _ _ _ _ _ _ p base rcap hp hn' hv => exact ⟨p, hp, hn'⟩
            obtain ⟨p, hpb, hpn⟩ := hp
            obtain ⟨k, hk1, hk2⟩ := inv.rel.blk b p hpb
            obtain ⟨k', hk3, hk4⟩ := hgr b k hk1
            rw [getB_some hb] at hk3
            obtain rfl := Option.some.inj hk3
            cases k with
            | map es => exact hk4.elim
            | row sz0 xs0 o0 f0 =>
              obtain ⟨e1, e2⟩ := hk4
              subst e1
              have := hk2.len
              exact ⟨xs0, o0, f0, by unfold getB; rw [List.getD_eq_getElem?_getD, hk1]; rfl, by omega⟩
      rw [stepM_congr hag] at hs
      obtain ⟨rv, v', hrun', ⟨rfl, _⟩, hv⟩ := hok.rd hk inv.rel inv.frr hs
      unfold Oper.wp
      rw [hrun', Oper.upon_value]
      exact same hw inv.rel (Ev.refl _ _ _ _) hv fun k hk1 hk2 _ hk3 hk4 => (inv.pend k hk1 hk2 hk3 hk4).1
    · -- it makes
      have hw : (ms.getD i noMO).isW = false := isW_cool (.inr hk)
      have hh : (ms.getD i noMO).op.heat ≠ 0 := kind_heat (by omega)
      have hic := hot_lt hh hw (hdr_kind (by omega))
      have made : ∃ r b, v i = r (h i).length ∧ h (i + 1) = h i ++ [b] ∧ (∀ C : (Nat → V) → Blk → Prop, C r b → mkM G (ms.getD i noMO).op (fr i) C) := by
        have hs := cx.tr.yes i _ hm hrun (fun v' H' => v' = v i ∧ H' = h (i + 1)) ⟨rfl, rfl⟩
        rw [stepM_make hk] at hs
        obtain ⟨r, b, ⟨h1, h2⟩, h3⟩ := mkM_det hs
        exact ⟨r, b, h1.symm, h2.symm, h3⟩
      obtain ⟨r, b, h1, h2, h4⟩ := made
      obtain ⟨q1, q2, q3⟩ := inv.pend i hic hD hrun hk
      have q3' : ∀ m, i < m → m ≤ c → (h m)[(h i).length]? = some b := fun m hm1 hm2 => q3 m b hm1 hm2 (by rw [h2]; simp)
      have hmk := h4 (fun r' b' => r' = r ∧ b' = b) ⟨rfl, rfl⟩
      have hmk' : mkM G (ms.getD i noMO).op (frl (dstOf ms) v (fr 0) D ms.length) fun r' b' => r' = r ∧ b' = b := by
        have e : ∀ f : Fr, mkM G (ms.getD i noMO).op f (fun r' b' => r' = r ∧ b' = b) ↔ stepM P G false (ms.getD i noMO).op f [] fun _ _ => mkM G (ms.getD i noMO).op f fun r' b' => r' = r ∧ b' = b := by
          intro f
          rw [stepM_make hk]
          refine ⟨fun hh => ?_, fun hh => ?_⟩
          · obtain ⟨r2, b2, _, h7⟩ := mkM_det hh
            exact h7 _ hh
          · obtain ⟨r2, b2, h6, _⟩ := mkM_det hh
            exact h6
        have hs := hyes (fun v' H' => v' = v i ∧ H' = h (i + 1)) ⟨rfl, rfl⟩
        exact mkM_congr hag ▸ hmk
      obtain ⟨rv, r', b', w', hrun', ⟨rfl, rfl⟩, hmake⟩ := hok.mkr hk inv.rel inv.frr hmk'
      obtain ⟨p, hrel', hev', hv'⟩ := hmake (h c) (h i).length inv.rel (q3' c hic (Nat.le_refl _)) q1 q2
      unfold Oper.wp
      rw [hrun', Oper.upon_value]
      rw [← h1] at hv'
      refine same hw hrel' hev' hv' fun k hk1 hk2 hki hk3 hk4 => ?_
      obtain ⟨p1, p2, p3⟩ := inv.pend k hk1 hk2 hk3 hk4
      rw [put1_ne]
      · exact p1
      · rcases Nat.lt_or_ge k i with h6 | h6
        · have hsk := cx.tr.yes k (ms.getD k noMO) (by simp [List.getD_eq_getElem?_getD, show k < ms.length by omega]) hk3 (fun v' H' => v' = v k ∧ H' = h (k + 1)) ⟨rfl, rfl⟩
          rw [stepM_make hk4] at hsk
          obtain ⟨r2, b2, ⟨_, e2⟩, _⟩ := mkM_det hsk
          have := (List.getElem?_eq_some_iff.1 (p3 i b2 h6 (by omega) (by rw [← e2]; simp))).1
          omega
        · have := (List.getElem?_eq_some_iff.1 (q3' k (by omega) (by omega))).1
          omega
    · -- it calls, or writes
      cases hw : (ms.getD i noMO).isW with
      | true =>
        have hic := w_at hw
        have hs := hyes (fun v' H' => v' = v i ∧ H' = h (i + 1)) ⟨rfl, rfl⟩
        rw [stepM_congr hag] at hs
        let B' : Bd := ⟨B.w, fun b => match B.pd b with
          | some k => some k
          | none => if ∃ k, k < c ∧ D k = false ∧ run k = true ∧ (ms.getD k noMO).op.kind = 1 ∧ (h k).length = b then (h c)[b]? else none⟩
        have hrel1 : Rel G B' Φ Z (h c) w := by
          refine { inv.rel with pend := fun b k hb => ?_ }
          simp only [B'] at hb
          split at hb
          · rename_i k' hk'
            obtain rfl := Option.some.inj hb
            exact inv.rel.pend _ _ hk'
          · split at hb
            · rename_i hex
              obtain ⟨k2, g1, g2, g3, g4, rfl⟩ := hex
              exact ⟨hb, (inv.pend k2 g1 g2 g3 g4).1⟩
            · cases hb
        have hrel0 := hrel1
        rw [← hic] at hrel0
        refine hok.wr (by omega) hrel0 inv.frr hs _ _ ?_
        rintro rv v' H' Φ' Z' w' ⟨rfl, rfl⟩ hv hr' hev'
        refine wrote hw { hr' with pend := fun b k hb => hr'.pend b k (by simp only [B', hb]) } hev' hv fun k g1 g2 g3 g4 => ?_
        have hpd : ∀ b, (h c)[(h k).length]? = some b → B'.pd (h k).length = some b := by
          intro b hb
          have hn := (inv.pend k g1 g2 g3 g4).2.1
          simp only [B', hn]
          rw [if_pos ⟨k, g1, g2, g3, g4, rfl⟩]
          exact hb
        obtain ⟨_, _, p3⟩ := inv.pend k g1 g2 g3 g4
        have hsk := cx.tr.yes k (ms.getD k noMO) (by simp [List.getD_eq_getElem?_getD, show k < ms.length by have := inv.cle; omega]) g3 (fun v' H' => v' = v k ∧ H' = h (k + 1)) ⟨rfl, rfl⟩
        rw [stepM_make g4] at hsk
        obtain ⟨r2, b2, ⟨_, e2⟩, _⟩ := mkM_det hsk
        have hb2 := p3 c b2 g1 (Nat.le_refl _) (by rw [← e2]; simp)
        refine ⟨(hr'.pend _ _ (hpd b2 hb2)).2, fun b hb => (hr'.pend _ _ (hpd b hb)).1⟩
      | false =>
        have hk2 : (ms.getD i noMO).op.kind = 2 ∧ (ms.getD i noMO).q = true := by
          simp only [MO.isW, Bool.or_eq_false_iff, beq_eq_false_iff_ne, Bool.and_eq_false_iff, Bool.not_eq_false', beq_iff_eq] at hw
          have hk3 : (ms.getD i noMO).op.kind ≤ 3 := by cases (ms.getD i noMO).op <;> simp [MOp.kind]
          have hk4 : (ms.getD i noMO).op.kind = 2 := by have := hw.1; omega
          refine ⟨hk4, ?_⟩
          rcases hw.2 with h5 | h5
          · exact absurd hk4 h5
          · exact h5
        have hh : (ms.getD i noMO).op.heat ≠ 0 := kind_heat (by omega)
        have hic := hot_lt hh hw (hdr_kind (by omega))
        obtain ⟨T, hT⟩ := cx.tr.seg (i := i) c (by omega) inv.cle (fun j hj hjc => by
          rcases noW i hic hD hh (by omega) j hj hjc with h5 | ⟨h5, _⟩
          · exact h5
          · rw [oldR_kind (by omega)] at h5; cases h5)
        have hs := hyes (fun v' H' => v' = v i ∧ H' = h (i + 1)) ⟨rfl, rfl⟩
        rw [hk2.2] at hs
        obtain ⟨v', ⟨rfl, _⟩, h2⟩ := stepM_quiet hk2.1 hs
        have hs2 := h2 T (fun v' H' => v' = v i ∧ H' = h i ++ T) ⟨rfl, rfl⟩
        rw [stepM_congr hag, ← hT] at hs2
        refine hok.qt hk2.1 inv.rel inv.frr hs2 fun rv Z' w' hv hr' hev' => ?_
        exact same hw hr' hev' hv fun k hk1 hk2 _ hk3 hk4 => (inv.pend k hk1 hk2 hk3 hk4).1
  · rw [hwant]
    simp only [Bool.false_eq_true, if_false]
    obtain ⟨hj, hsame⟩ := cx.tr.no i _ hm hrun
    cases hw : (ms.getD i noMO).isW with
    | true =>
      have hic := w_at hw
      refine wrote hw (Φ' := Φ) (Z' := Z) ?_ (Ev.refl _ _ _ _) (by rw [hj]; exact .tup [] #[] rfl (fun i hi => absurd hi (Nat.not_lt_zero _))) fun k g1 g2 g3 g4 => ⟨(inv.pend k g1 g2 g3 g4).1, fun b hb => ?_⟩
      · rw [hsame, hic]
        exact inv.rel
      · rw [hsame, hic]
        exact hb
    | false => exact same hw inv.rel (Ev.refl _ _ _ _) (by rw [hj]; exact .tup [] #[] rfl (fun i hi => absurd hi (Nat.not_lt_zero _))) fun k hk1 hk2 _ hk3 hk4 => (inv.pend k hk1 hk2 hk3 hk4).1

end
end Go.MW

/- Regions whose order is drawn: all of it. -/
namespace Go.MW
open Go Go.RowKit
set_option linter.unusedVariables false
set_option linter.unusedSimpArgs false

/-- How many are not done. -/
def undone (D : Nat → Bool) : Nat → Nat
  | 0 => 0
  | k + 1 => undone D k + if D k then 0 else 1

theorem undone_far {D : Nat → Bool} {i : Nat} : ∀ k, k ≤ i → undone (addD D i) k = undone D k
  | 0, _ => rfl
  | k + 1, h => by
    simp only [undone]
    rw [undone_far k (by omega)]
    have : k ≠ i := by omega
    simp [addD, this]

theorem undone_add {D : Nat → Bool} {i : Nat} (hD : D i = false) : ∀ k, i < k → undone (addD D i) k + 1 = undone D k
  | 0, h => by omega
  | k + 1, h => by
    simp only [undone]
    by_cases hk : k = i
    · subst hk
      rw [undone_far k (Nat.le_refl _)]
      simp [addD, hD]
    · have := undone_add hD k (by omega)
      have e : addD D i k = D k := by simp [addD, hk]
      rw [e]
      omega

theorem undone_zero {D : Nat → Bool} : ∀ k, undone D k = 0 → ∀ i, i < k → D i = true
  | 0, _, i, hi => by omega
  | k + 1, h, i, hi => by
    simp only [undone] at h
    by_cases hk : i = k
    · subst hk
      cases hd : D i with
      | true => rfl
      | false => rw [hd] at h; simp at h
    · exact undone_zero k (by omega) i (by omega)

theorem undone_none {D : Nat → Bool} (h : ∀ i, D i = false) : ∀ k, undone D k = k
  | 0 => rfl
  | k + 1 => by simp [undone, undone_none h k, h k]

theorem undone_congr {D D' : Nat → Bool} (h : ∀ i, D i = D' i) (k : Nat) : undone D k = undone D' k := by
  have : D = D' := funext h
  rw [this]

section
variable {P : Program} {G : Nat → Option (List V)} {B : Bd} {nt : Nat} {Φ0 : Nat → Option Pl} {Z0 : Nat → Prop} {w0 : World}

theorem compOps_get {ops : Array Oper} : ∀ (l : List Oper) (ms : List MO), compOps P nt ops.toList l = some ms → ms.length = l.length ∧ ∀ (i : Nat) (o : Oper), l[i]? = some o → ∃ m, ms[i]? = some m ∧ compOp P o.op = some m.op ∧ compGuard ops.toList nt o.guard = some m.gd ∧ dstOK nt o.dst = true ∧ m.dst = o.dst
  | [], ms, h => by simp [compOps] at h; subst h; simp
  | o :: l, ms, h => by
    simp only [compOps] at h
    split at h <;> try (simp at h; done)
    rename_i m g ms' hm hg hms
    split at h <;> simp at h
    rename_i hdst
    subst h
    obtain ⟨h1, h2⟩ := compOps_get l ms' hms
    refine ⟨by simp [h1], fun i o' hi => ?_⟩
    cases i with
    | zero =>
      simp at hi
      subst hi
      exact ⟨_, rfl, hm, hg, hdst, rfl⟩
    | succ i => simpa using h2 i o' (by simpa using hi)

theorem exists_first {p : Nat → Bool} {n : Nat} (h : ∃ i, i < n ∧ p i = false) : ∃ i, i < n ∧ p i = false ∧ ∀ j, j < i → p j = true := by
  obtain ⟨i, hi, hp⟩ := h
  induction i using Nat.strongRecOn with
  | _ i ih =>
    by_cases hj : ∃ j, j < i ∧ p j = false
    · obtain ⟨j, hj, hpj⟩ := hj
      exact ih j hj (by omega) hpj
    · refine ⟨i, hi, hp, fun j hj' => ?_⟩
      cases hpj : p j with
      | true => rfl
      | false => exact absurd ⟨j, hj', hpj⟩ hj

theorem getD_ft {listed : Array Bool} {i : Nat} (h : i < listed.size) (d : Bool) : listed.getD i d = listed.getD i false := by
  simp [Array.getD, h]

section
variable {ops : Array Oper} {ms : List MO} {v : Nat → V} {h : Nat → List Blk} {fr : Nat → Fr} {run : Nat → Bool} {M : Exit → St → Prop}

theorem draw_any (cx : DCtx P G nt ops ms (ancs ops.toList []) v h fr run) (hed : edgesOK 0 ops.toList = true) (hM : M .normal ⟨fr ms.length, h ms.length⟩) :
    ∀ (fuel : Nat) (listed : Array Bool) (a : Act) (w : World) (Φ : Nat → Option Pl) (Z : Nat → Prop) (c : Nat), listed.size = ops.size → undone (fun i => listed.getD i false) ms.length = fuel →
      Inv P G B nt Φ0 Z0 w0 ms (ancs ops.toList []) v h fr run (fun i => listed.getD i false) a w Φ Z c → wpAny P .any ops (Lift G B nt Φ0 Z0 w0 M) fuel listed a w := by
  have done : ∀ (listed : Array Bool) (a : Act) (w : World) (Φ : Nat → Option Pl) (Z : Nat → Prop) (c : Nat), (∀ i, i < ms.length → listed.getD i false = true) →
      Inv P G B nt Φ0 Z0 w0 ms (ancs ops.toList []) v h fr run (fun i => listed.getD i false) a w Φ Z c → Lift G B nt Φ0 Z0 w0 M .normal a w := by
    intro listed a w Φ Z c hall inv
    have hc : c = ms.length := by
      rcases Nat.lt_or_ge c ms.length with h1 | h1
      · have := (inv.cat h1).1
        rw [hall c h1] at this
        cases this
      · have := inv.cle; omega
    have hrel := inv.rel
    rw [hc] at hrel
    refine ⟨_, hM, Φ, Z, hrel, fun t => ?_, inv.ev, inv.sz, inv.df⟩
    have := inv.frr t
    rw [frl_ext (D' := fun _ => true) _ (fun j hj _ => hall j hj), text_frame cx.tr t _ (Nat.le_refl _)] at this
    exact this
  have rest : ∀ (listed : Array Bool), listed.size = ops.size → Region.ready .any ops listed = [] → ∀ i, i < ms.length → listed.getD i false = true := by
    intro listed hsz hr i hi
    cases hd : listed.getD i false with
    | true => rfl
    | false =>
      exfalso
      obtain ⟨k, hk, hkd, hbe⟩ := exists_first (p := fun i => listed.getD i false) (n := ms.length) ⟨i, hi, hd⟩
      have hkl : k < ops.size := by rw [← cx.len]; exact hk
      have : k ∈ Region.ready .any ops listed := by
        rw [mem_ready]
        refine ⟨by rw [getD_ft (by omega)]; exact hkd, ops[k], Array.getElem?_eq_getElem hkl, fun e he hb => ?_⟩
        have := edgesOK_spec ops.toList 0 k ops[k] hed (by simp [hkl]) e he hb
        exact hbe e.on (by omega)
      rw [hr] at this
      cases this
  intro fuel
  induction fuel with
  | zero =>
    intro listed a w Φ Z c hsz hu inv
    have hall := undone_zero ms.length hu
    refine ⟨?_, done listed a w Φ Z c hall inv⟩
    refine List.eq_nil_iff_forall_not_mem.2 fun j hj => ?_
    rw [mem_ready] at hj
    obtain ⟨h1, o, ho, _⟩ := hj
    have hjl : j < ops.size := (Array.getElem?_eq_some_iff.1 ho).1
    rw [getD_ft (by omega), hall j (by rw [cx.len]; exact hjl)] at h1
    cases h1
  | succ fuel ih =>
    intro listed a w Φ Z c hsz hu inv
    refine ⟨fun hr => done listed a w Φ Z c (rest listed hsz hr) inv, fun i hi => ?_⟩
    rw [mem_ready] at hi
    obtain ⟨h1, o, ho, hedge⟩ := hi
    have hil : i < ops.size := (Array.getElem?_eq_some_iff.1 ho).1
    have him : i < ms.length := by rw [cx.len]; exact hil
    have hD : listed.getD i false = false := by rw [getD_ft (by omega)] at h1; exact h1
    have hadd : ∀ j, (listed.setIfInBounds i true).getD j false = addD (fun i => listed.getD i false) i j := by
      intro j
      by_cases hj : j = i
      · subst hj
        simp [addD, Array.getD, show j < listed.size by omega]
      · rw [getD_set_ne false (Ne.symm hj)]
        simp [addD, hj]
    have hadd' : (fun j => (listed.setIfInBounds i true).getD j false) = addD (fun i => listed.getD i false) i := funext hadd
    refine draw_step cx him inv hD (fun j hj => ?_) fun a' w' Φ' Z' c' inv' => ?_
    · have hlt := edgesOK_spec ops.toList 0 i o hed (by simpa using ho)
      obtain ⟨e, he, hb, hor⟩ := ancs_spec ops.toList [] i o j (by simpa using ho) (by simpa using hlt) (by simpa [MW.ahead] using hj)
      have hde := hedge e he hb
      rcases hor with rfl | hor
      · exact hde
      · exact (inv.clo e.on hde).2 j hor
    · refine ih _ a' w' Φ' Z' c' (by simpa using hsz) ?_ (by rw [hadd']; exact inv')
      rw [hadd']
      have := undone_add (D := fun i => listed.getD i false) hD ms.length him
      omega

end

theorem markQ_get {bs : List Nat} {ms : List MO} {i : Nat} (h : i < ms.length) : (markQ bs ms)[i]? = some { ms.getD i noMO with q := (ms.getD i noMO).op.kind == 2 && beside bs ms i } := by
  unfold markQ
  rw [List.getElem?_map, List.getElem?_range h]
  rfl

section
variable {B : Bd} {nt : Nat} {Φ0 : Nat → Option Pl} {Z0 : Nat → Prop} {w0 : World}
theorem drawn_any {ops : Array Oper} {ms : List MO} {M : Exit → St → Prop} {st : St} {a : Act} {w : World} (hc : compDraw P nt ops.toList = some ms) (hm : mops P G ms (M .normal) st) (hat : At G B nt Φ0 Z0 w0 st a w) :
    wpAny P .any ops (Lift G B nt Φ0 Z0 w0 M) ops.size (Array.replicate ops.size false) a { w with drawn := w.drawn + 1 } := by
  unfold compDraw at hc
  split at hc <;> try (simp at hc; done)
  rename_i ms0 hms
  split at hc <;> simp at hc
  rename_i hck
  rw [Bool.and_eq_true] at hck
  obtain ⟨hed, hdr⟩ := hck
  rw [hc] at hdr
  obtain ⟨hlen0, hget⟩ := compOps_get _ _ hms
  have hlen : ms.length = ops.size := by rw [← hc]; simp [markQ, hlen0]
  obtain ⟨v, h, fr, run, e1, e2, e3, tr⟩ := mops_trace ms _ st hm
  obtain ⟨Φ, Z, hrel, hf, hev, hsz, hdf⟩ := hat
  have cx : DCtx P G nt ops ms (ancs ops.toList []) v h fr run := by
    refine ⟨fun i o ho => ?_, hlen, tr, fun i j hij hj hcf hlo => ?_, fun i j hij hj hcf => ?_, fun t b n i j hp => ?_⟩
    · have hi : i < ops.size := (Array.getElem?_eq_some_iff.1 ho).1
      obtain ⟨m, h1, h2, h3, h4, h5⟩ := hget i o (by simpa using ho)
      have hi0 : i < ms0.length := by rw [hlen0]; simpa using hi
      have hmi := markQ_get (bs := ancs ops.toList []) hi0
      rw [hc] at hmi
      have hm0 : ms0.getD i noMO = m := by simp [List.getD_eq_getElem?_getD, h1]
      rw [hm0] at hmi
      have hmd : ms.getD i noMO = { m with q := m.op.kind == 2 && beside (ancs ops.toList []) ms0 i } := by simp [List.getD_eq_getElem?_getD, hmi]
      rw [hmd]
      exact ⟨hmi, h2, h3, h4, h5⟩
    · simp only [drawOK, List.all_eq_true, List.mem_range, Bool.or_eq_true, Bool.not_eq_true'] at hdr
      rcases hdr j hj i hij with (h1 | h1) | h1
      · rw [hcf] at h1; cases h1
      · exact h1
      · rw [Bool.and_eq_true, Bool.and_eq_true] at h1
        rw [hlo h1.2.1] at h1
        cases h1.2.2
    · simp only [drawOK, List.all_eq_true, List.mem_range, Bool.or_eq_true, Bool.not_eq_true'] at hdr
      have hR : confR (ms.getD i noMO) (ms.getD j noMO) = true := by
        generalize ms.getD i noMO = x at hcf ⊢
        generalize ms.getD j noMO = y at hcf ⊢
        unfold confR
        rcases hcf with ⟨d, h1, h2⟩ | ⟨d, h1, h2⟩
        · rw [h1]
          rcases h2 with h2 | h2 <;> simp [h2]
        · rw [h1]
          simp [h2]
      have hC : conflict (ms.getD i noMO) (ms.getD j noMO) = true := by
        unfold conflict
        unfold confR at hR
        rw [hR]; rfl
      rcases hdr j hj i hij with (h1 | h1) | h1
      · rw [hC] at h1; cases h1
      · exact h1
      · rw [Bool.and_eq_true, hR] at h1
        cases h1.1
    · rw [e1] at hp
      have hv := hf t
      rw [hp] at hv
      generalize a.tmps.getD t undef = rv at hv
      cases hv with
      | ptr _ _ _ _ p a hp hn' hv =>
        obtain ⟨k, hk, _⟩ := hrel.blk b p hp
        rw [e2]
        exact (List.getElem?_eq_some_iff.1 hk).1
  have hD : ∀ i, (Array.replicate ops.size false).getD i false = false := by
    intro i
    simp only [Array.getD_eq_getD_getElem?, Array.getElem?_replicate]
    split <;> rfl
  obtain ⟨c, _, hc2, hc3, hc4⟩ := nextW ms _ 0 rfl (by omega)
  obtain ⟨T, hT⟩ := tr.seg c (by omega) hc2 hc4
  have hrel' : Rel G B Φ Z (h c) w := by
    rw [hT, e2]; exact hrel.extend T
  refine draw_any cx hed e3 ops.size _ a _ Φ Z c (by simp) (by rw [undone_none (fun i => hD i), hlen]) ⟨hc2, fun h1 => ⟨hD c, hc3 h1⟩, fun j hj hw => ?_, hrel'.heap rfl, fun t => ?_, hev.trans (Ev.drew _ _ _ _), hsz, hdf, fun i hi _ _ _ => ?_, fun j hj => ?_⟩
  · rw [hc4 j (by omega) hj] at hw; cases hw
  · rw [frl_skip (k := 0) ms.length (by omega) (fun j _ _ _ => hD j)]
    have := hf t
    rw [← e1] at this
    exact this.ev (Ev.drew B Φ Z w)
  · obtain ⟨T', hT'⟩ := tr.seg (i := 0) i (by omega) (by omega) fun j h1 h2 => hc4 j h1 (by omega)
    have hlen : st.H.length ≤ (h i).length := by rw [hT', e2, List.length_append]; omega
    refine ⟨hrel.none_of_le hlen, ?_, fun m b hm1 hm2 hb => ?_⟩
    · cases hpd : B.pd (h i).length with
      | none => rfl
      | some x =>
        have := (List.getElem?_eq_some_iff.1 (hrel.pend _ _ hpd).1).1
        omega
    · obtain ⟨T2, hT2⟩ := tr.seg (i := i + 1) m (by omega) (by omega) fun j h7 h8 => hc4 j (by omega) (by omega)
      rw [hT2, List.getElem?_append_left (List.getElem?_eq_some_iff.1 hb).1]
      exact hb
  · rw [hD] at hj; cases hj
end

/-- The same operations in another order, edges and guards told anew. -/
structure Perm (ops ops' : Array Oper) (p q : Nat → Nat) : Prop where
  size : ops'.size = ops.size
  pl : ∀ k, k < ops.size → p k < ops.size ∧ q (p k) = k
  ql : ∀ i, i < ops.size → q i < ops.size ∧ p (q i) = i
  qo : ∀ i, ops.size ≤ i → ops.size ≤ q i
  get : ∀ i (hi : i < ops.size), ops'[q i]? = some (relab q ops[i])

section
variable {ops ops' : Array Oper} {p q : Nat → Nat}

theorem Perm.yield (h : Perm ops ops' p q) (tmps : Array Value) (j : Nat) : yielded ops' tmps (q j) = yielded ops tmps j := by
  have : (ops'[q j]?).bind (·.dst) = (ops[j]?).bind (·.dst) := by
    rcases Nat.lt_or_ge j ops.size with hj | hj
    · rw [h.get j hj, Array.getElem?_eq_getElem hj]; rfl
    · rw [Array.getElem?_eq_none hj, Array.getElem?_eq_none (by rw [h.size]; exact h.qo j hj)]
  unfold yielded
  rw [this]

theorem Perm.want (h : Perm ops ops' p q) (o : Oper) (tmps : Array Value) : Region.wanted (relab q o) (yielded ops' tmps) = Region.wanted o (yielded ops tmps) := by
  unfold Region.wanted relab
  cases o.guard with
  | none => rfl
  | some g => simp only [Option.map_some, h.yield]

theorem Perm.ready (h : Perm ops ops' p q) {listed listed' : Array Bool} (hs : listed.size = ops.size) (hs' : listed'.size = ops.size) (hl : ∀ i, i < ops.size → listed'.getD (q i) false = listed.getD i false) (i : Nat) (hi : i < ops.size) :
    q i ∈ Region.ready .any ops' listed' ↔ i ∈ Region.ready .any ops listed := by
  have hl2 : ∀ i, listed'.getD (q i) false = listed.getD i false := by
    intro j
    rcases Nat.lt_or_ge j ops.size with hj | hj
    · exact hl j hj
    · have := h.qo j hj
      simp [Array.getD, show ¬ q j < listed'.size by omega, show ¬ j < listed.size by omega]
  rw [mem_ready, mem_ready]
  rw [getD_ft (listed := listed') (i := q i) (by rw [hs']; exact (h.ql i hi).1) true, getD_ft (listed := listed) (i := i) (by omega) true, hl i hi]
  refine and_congr_right fun _ => ?_
  rw [h.get i hi, Array.getElem?_eq_getElem hi]
  constructor
  · rintro ⟨o, ho, he⟩
    obtain rfl := Option.some.inj ho
    refine ⟨_, rfl, fun e hm hb => ?_⟩
    have := he { e with on := q e.on } (by simp only [relab, Array.mem_map]; exact ⟨e, hm, rfl⟩) hb
    rwa [hl2] at this
  · rintro ⟨o, ho, he⟩
    obtain rfl := Option.some.inj ho
    refine ⟨_, rfl, fun e hm hb => ?_⟩
    simp only [relab, Array.mem_map] at hm
    obtain ⟨e', hm', rfl⟩ := hm
    rw [hl2]
    exact he e' hm' hb

theorem Perm.any (h : Perm ops ops' p q) {Q : Exit → Act → World → Prop} : ∀ (fuel : Nat) (listed listed' : Array Bool) (a : Act) (w : World), listed.size = ops.size → listed'.size = ops.size → (∀ i, i < ops.size → listed'.getD (q i) false = listed.getD i false) →
    wpAny P .any ops' Q fuel listed' a w → wpAny P .any ops Q fuel listed a w := by
  have none_iff : ∀ {listed listed' : Array Bool}, listed.size = ops.size → listed'.size = ops.size → (∀ i, i < ops.size → listed'.getD (q i) false = listed.getD i false) → Region.ready .any ops listed = [] → Region.ready .any ops' listed' = [] := by
    intro listed listed' hs hs' hl h0
    refine List.eq_nil_iff_forall_not_mem.2 fun k hk => ?_
    have hkl : k < ops.size := by
      rw [mem_ready] at hk
      obtain ⟨_, o, ho, _⟩ := hk
      have := (Array.getElem?_eq_some_iff.1 ho).1
      rw [h.size] at this
      exact this
    have h1 := (h.pl k hkl).2
    rw [← h1, h.ready hs hs' hl (p k) (h.pl k hkl).1, h0] at hk
    cases hk
  have none_iff' : ∀ {listed listed' : Array Bool}, listed.size = ops.size → listed'.size = ops.size → (∀ i, i < ops.size → listed'.getD (q i) false = listed.getD i false) → Region.ready .any ops' listed' = [] → Region.ready .any ops listed = [] := by
    intro listed listed' hs hs' hl h0
    refine List.eq_nil_iff_forall_not_mem.2 fun i hi => ?_
    have hil : i < ops.size := by
      have hi' := hi
      rw [mem_ready] at hi'
      obtain ⟨_, o, ho, _⟩ := hi'
      exact (Array.getElem?_eq_some_iff.1 ho).1
    rw [← h.ready hs hs' hl i hil, h0] at hi
    cases hi
  intro fuel
  induction fuel with
  | zero => exact fun listed listed' a w hs hs' hl hw => ⟨none_iff' hs hs' hl hw.1, hw.2⟩
  | succ fuel ih =>
    intro listed listed' a w hs hs' hl hw
    refine ⟨fun h0 => hw.1 (none_iff hs hs' hl h0), fun i hi => ?_⟩
    have hil : i < ops.size := by
      have hi' := hi
      rw [mem_ready] at hi'
      obtain ⟨_, o, ho, _⟩ := hi'
      exact (Array.getElem?_eq_some_iff.1 ho).1
    have hq := hw.2 (q i) ((h.ready hs hs' hl i hil).2 hi)
    have step : ∀ a w, wpAny P .any ops' Q fuel (listed'.setIfInBounds (q i) true) a w → wpAny P .any ops Q fuel (listed.setIfInBounds i true) a w := by
      refine fun a w => ih _ _ a w (by simpa using hs) (by simpa using hs') fun j hj => ?_
      by_cases hji : j = i
      · subst hji
        simp [Array.getD, hs, hs', hj, (h.ql j hj).1]
      · have hqq : q i ≠ q j := fun e => hji (by rw [← (h.ql j hj).2, ← e, (h.ql i hil).2])
        rw [getD_set_ne false (Ne.symm hji), getD_set_ne false hqq]
        exact hl j hj
    unfold wpOp at hq ⊢
    rw [h.get i hil] at hq
    rw [Array.getElem?_eq_getElem hil]
    simp only at hq ⊢
    rw [h.want] at hq
    split at hq
    · rename_i hwt
      rw [hwt, if_pos rfl]
      exact hq.imp (fun hh => Oper.wp_mono (o := ops[i]) step hh) id
    · rename_i hwt
      rw [if_neg hwt]
      exact step _ _ hq

theorem filterMap_some {α β : Type} {f : α → Option β} : ∀ (l : List α), (∀ a ∈ l, (f a).isSome = true) → ∀ k : Nat, (l.filterMap f)[k]? = (l[k]?).bind f
  | [], _, k => by simp
  | a :: l, h, k => by
    obtain ⟨b, hb⟩ := Option.isSome_iff_exists.1 (h a (by simp))
    rw [List.filterMap_cons_some hb]
    cases k with
    | zero => simp [hb]
    | succ k => simpa using filterMap_some l (fun x hx => h x (by simp [hx])) k

theorem perm_of (l : List Oper) {pm : List Nat} (hp : permOK l.length pm = true) : Perm l.toArray (permOps l pm).toArray (fun k => pm.getD k 0) (posIn pm) := by
  simp only [permOK, Bool.and_eq_true, beq_iff_eq, List.all_eq_true, List.mem_range, decide_eq_true_eq] at hp
  obtain ⟨⟨h1, h2⟩, h3⟩ := hp
  have hk : ∀ k, k < l.length → ∃ i, pm[k]? = some i ∧ i < l.length ∧ posIn pm i = k := by
    intro k hk
    have := h3 k hk
    split at this
    · rename_i i hi
      simp only [Bool.and_eq_true, decide_eq_true_eq, beq_iff_eq] at this
      exact ⟨i, hi, this⟩
    · cases this
  have hall : ∀ i ∈ pm, ((l[i]?).map (relab (posIn pm))).isSome = true := by
    intro i hi
    obtain ⟨k, hkl, rfl⟩ := List.getElem_of_mem hi
    obtain ⟨i, hi1, hi2, _⟩ := hk k (by omega)
    rw [List.getElem?_eq_getElem hkl] at hi1
    obtain rfl := Option.some.inj hi1
    simp [hi2]
  have hget : ∀ k, (permOps l pm)[k]? = (pm[k]?).bind fun i => (l[i]?).map (relab (posIn pm)) := fun k => filterMap_some pm hall k
  have hsz : (permOps l pm).length = l.length := by
    have h4 : ∀ k, k < l.length → (permOps l pm)[k]?.isSome = true := by
      intro k hkl
      obtain ⟨i, hi1, hi2, _⟩ := hk k hkl
      rw [hget, hi1]
      simp [hi2]
    have h5 : (permOps l pm)[l.length]? = none := by rw [hget, List.getElem?_eq_none (by omega)]; rfl
    rcases Nat.lt_trichotomy (permOps l pm).length l.length with h | h | h
    · have := h4 _ h
      simp at this
    · exact h
    · rw [List.getElem?_eq_getElem h] at h5
      cases h5
  have hq : ∀ i, i < l.length → pm[posIn pm i]? = some i := by
    intro i hi
    have hmem : i ∈ pm := by
      have := h2 i hi
      unfold posIn at this
      rw [← h1] at this
      exact List.idxOf_lt_length_iff.1 this
    unfold posIn
    rw [List.getElem?_eq_getElem (List.idxOf_lt_length_iff.2 hmem), List.getElem_idxOf]
  refine ⟨by simp [hsz], fun k hkl => ?_, fun i hi => ?_, fun i hi => ?_, fun i hi => ?_⟩
  · simp only [List.size_toArray] at hkl ⊢
    obtain ⟨i, hi1, hi2, hi3⟩ := hk k hkl
    rw [List.getD_eq_getElem?_getD, hi1]
    exact ⟨hi2, hi3⟩
  · simp only [List.size_toArray] at hi ⊢
    refine ⟨h2 i hi, ?_⟩
    rw [List.getD_eq_getElem?_getD, hq i hi]; rfl
  · simp only [List.size_toArray] at hi ⊢
    have hmem : i ∉ pm := by
      intro hm
      obtain ⟨k, hkl, rfl⟩ := List.getElem_of_mem hm
      obtain ⟨i, hi1, hi2, _⟩ := hk k (by omega)
      rw [List.getElem?_eq_getElem hkl] at hi1
      obtain rfl := Option.some.inj hi1
      omega
    unfold posIn
    rw [List.idxOf_eq_length hmem]
    omega
  · simp only [List.size_toArray] at hi
    simp only [List.getElem?_toArray, hget, hq i hi]
    simp [hi]
end

theorem pickDraw_spec {a b : Option (List MO)} {ms : List MO} (h : pickDraw a b = some ms) : a = some ms ∨ b = some ms := by
  unfold pickDraw at h
  split at h
  · split at h
    · exact .inr h
    · exact .inl h
  · exact .inl h
  · exact .inr h

theorem drawn (hP : P.follows .mixedOrders = true) : Drawn P G := by
  intro B nt Φ0 Z0 w0 id ops ms M st a w hc hm hat
  refine wp_region_any hP ?_
  simp only [comp, if_true, Option.map_eq_some_iff, MC.reg.injEq, true_and] at hc
  obtain ⟨ms', hc, rfl⟩ := hc
  rcases pickDraw_spec hc with hms | hc
  · exact drawn_any hms hm hat
  · split at hc
    · rename_i hp
      have hperm := perm_of ops.toList hp
      have h := drawn_any (ops := (permOps ops.toList (hoist ops.toList)).toArray) (by simpa using hc) hm hat
      have hsz := hperm.size
      simp only [Array.toArray_toList] at hperm hsz
      rw [hsz] at h
      refine hperm.any ops.size _ _ a _ (by simp) (by simp) (fun i hi => ?_) h
      simp [Array.getD, hi, (hperm.ql i hi).1]
    · cases hc

end
end Go.MW

/- Functions: from the small code of a body to what a call does; sealed calls. -/
namespace Go.MW
open Go Go.RowKit
set_option linter.unusedVariables false
set_option linter.unusedSimpArgs false

/-- The slots that a call's arguments fill. -/
def argFr : Nat → List V → Fr
  | _, [] => []
  | i, v :: vs => (i, v) :: argFr (i + 1) vs

theorem argFr_get : ∀ (vs : List V) (i k : Nat), get (argFr i vs) k = if i ≤ k then vs.getD (k - i) .junk else .junk
  | [], i, k => by simp [argFr, get]
  | v :: vs, i, k => by
    simp only [argFr, get_cons]
    by_cases h : i = k
    · subst h; simp
    · rw [if_neg h, argFr_get vs (i + 1) k]
      by_cases h2 : i + 1 ≤ k
      · rw [if_pos h2, if_pos (by omega), show k - i = (k - (i + 1)) + 1 by omega, List.getD_cons_succ]
      · rw [if_neg h2, if_neg (by omega)]

/-- Where a result lies: in a slot; or in memory, at the address that a slot holds. -/
inductive RS where
  | t (i : Nat)
  | c (agg : Option Nat) (i : Nat)

def resTmp (P : Program) : ResultVar → Option RS
  | .tmp t => some (.t t)
  | .cell a t => (aggT P t).map (.c · a)

/-- The places of a function's results. -/
def resTmps (P : Program) : List ResultVar → Option (List RS)
  | [] => some []
  | r :: rs => match resTmp P r, resTmps P rs with
    | some t, some ts => some (t :: ts)
    | _, _ => none

def packV : List V → V
  | [v] => v
  | vs => .tup vs

def resK (fr : Fr) (H : List Blk) : List RS → (List V → Prop) → Prop
  | [], C => C []
  | .t i :: rs, C => resK fr H rs fun vs => C (get fr i :: vs)
  | .c agg i :: rs, C => ldK agg (get fr i) H fun v _ => resK fr H rs fun vs => C (v :: vs)

/-- A function's body in small code, and the slots of its results. -/
def Compiled (P : Program) (f np : Nat) (c : MC) (rs : List RS) : Prop :=
  ∃ fn body, P.funcs[f]? = some fn ∧ fn.body = some body ∧ comp P fn.ntmps body = some c ∧ resTmps P fn.results.toList = some rs ∧ np ≤ fn.ntmps

theorem Compiled.of {P : Program} {f np : Nat} {c : MC} {rs : List RS} {fn : Func} {body : Code} (h1 : P.funcs[f]? = some fn) (h2 : fn.body = some body) (h3 : comp P fn.ntmps body = some c) (h4 : resTmps P fn.results.toList = some rs) (h5 : Nat.ble np fn.ntmps = true) : Compiled P f np c rs :=
  ⟨fn, body, h1, h2, h3, h4, Nat.le_of_ble_eq_true h5⟩

/-- A function's small code. -/
def compF (P : Program) (fn : Func) : Option (MC × List RS) :=
  match fn.body with
  | none => none
  | some b => match comp P fn.ntmps b, resTmps P fn.results.toList with
    | some c, some rs => some (c, rs)
    | _, _ => none

theorem Compiled.fn {P : Program} {f np : Nat} {c : MC} {rs : List RS} {fn : Func} (h1 : P.funcs[f]? = some fn) (h2 : compF P fn = some (c, rs)) (h3 : Nat.ble np fn.ntmps = true) : Compiled P f np c rs := by
  unfold compF at h2
  split at h2
  · cases h2
  · rename_i b hb
    split at h2 <;> simp at h2
    obtain ⟨rfl, rfl⟩ := h2
    exact .of h1 hb (by assumption) (by assumption) h3

section
variable {P : Program} {G : Nat → Option (List V)}

theorem run_results {B : Bd} {Φ : Nat → Option Pl} {Z : Nat → Prop} {H : List Blk} {w : World} {fr : Fr} {a : Act} (hrel : Rel G B Φ Z H w) (hf : FrR Φ Z w fr a) : ∀ (rs : List ResultVar) (ts : List RS) (C : List V → Prop), resTmps P rs = some ts → resK fr H ts C →
    ∃ (vs : List Value) (us : List V), (rs.mapM (m := Sem) fun | .tmp t => pure (a.tmps.getD t undef) | .cell c t => do loadVar t (← asAddr (a.tmps.getD c undef))).run P w = .ok vs w ∧ C us ∧ vs.length = us.length ∧ ∀ i, i < us.length → VR Φ Z w (us.getD i .junk) (vs.getD i undef)
  | [], ts, C, h, hk => by simp [resTmps] at h; subst h; exact ⟨[], [], by simp, hk, rfl, by simp⟩
  | r :: rs, ts, C, h, hk => by
    simp only [resTmps] at h
    split at h <;> simp at h
    rename_i t ts' hr hrs
    subst h
    cases r with
    | cell c ty =>
      simp only [resTmp, Option.map_eq_some_iff] at hr
      obtain ⟨agg, hagg, rfl⟩ := hr
      simp only [resK] at hk
      let o : Oper := { dst := none, op := .load ty (.tmp c), type := ty, pos := "", after := #[], guard := none }
      obtain ⟨rv, v, hrun, hk2, hv⟩ := ld_sound (o := o) (x := .tmp c) (y := .t c) (agg := agg) hrel hf rfl hagg rfl (K := fun v _ => resK fr H ts' fun vs => C (v :: vs)) hk
      obtain ⟨vs, us, h1, h2, h3, h4⟩ := run_results hrel hf rs ts' _ hrs hk2
      have hload : (do loadVar ty (← asAddr (a.tmps.getD c undef)) : Sem Value).run P w = .ok rv w := by
        have he : a.eval (.tmp c) = a.tmps.getD c undef := rfl
        simp only [o, execOp, Instr.loadAt, he, Sem.run_bind] at hrun ⊢
        generalize a.tmps.getD c undef = x at hrun
        cases x with
        | pointer ad =>
          cases ad with
          | none => simp [Instr.sureAddr, stuck, Sem.run, Result.andThen] at hrun
          | some ad =>
            simp only [Instr.sureAddr, asAddr, Sem.run_pure, Result.andThen_ok] at hrun ⊢
            cases hl : (loadVar ty ad).run P w with
            | ok u w' => rw [hl] at hrun; simp [Result.andThen] at hrun; rw [hrun.1, hrun.2]
            | halt x w' => rw [hl] at hrun; simp [Result.andThen] at hrun
        | _ => simp [Instr.sureAddr, stuck, Sem.run, Result.andThen] at hrun
      refine ⟨rv :: vs, v :: us, ?_, h2, by simp [h3], fun i hi => ?_⟩
      · simp only [List.mapM_cons, Sem.run_bind, Sem.run_pure, Result.andThen_ok] at hload ⊢
        rw [hload]
        simp only [Result.andThen_ok, h1]
      · cases i with
        | zero => exact hv
        | succ i => simpa using h4 i (by simpa using hi)
    | tmp t' =>
      simp [resTmp] at hr
      subst hr
      simp only [resK] at hk
      obtain ⟨vs, us, h1, h2, h3, h4⟩ := run_results hrel hf rs ts' _ hrs hk
      refine ⟨a.tmps.getD t' undef :: vs, get fr t' :: us, ?_, h2, by simp [h3], fun i hi => ?_⟩
      · simp only [List.mapM_cons, Sem.run_bind, Sem.run_pure, Result.andThen_ok, h1]
      · cases i with
        | zero => exact hf t'
        | succ i => simpa using h4 i (by simpa using hi)

/-- A call on the abstract heap, what it comes to told by a property. -/
def SimP (P : Program) (G : Nat → Option (List V)) (f : Nat) (args : List V) (H : List Blk) (Q : V → List Blk → Prop) : Prop :=
  ∀ (B : Bd) (Φ : Nat → Option Pl) (Z : Nat → Prop) (w : World) (rargs : Array Value), Rel G B Φ Z H w → VRs Φ Z w args rargs →
    Calls P f rargs w fun e w' => ∃ rv r H' Φ' Z', e = .returned rv ∧ Q r H' ∧ VR Φ' Z' w' r rv ∧ Rel G B Φ' Z' H' w' ∧ Ev B Φ Z w Φ' Z' w'

theorem SimP.sim {f : Nat} {args : List V} {H H' : List Blk} {r : V} (h : SimP P G f args H fun r' H'' => r' = r ∧ H'' = H') : Sim P G f args H r H' := by
  intro B Φ Z w rargs hrel ha
  refine (h B Φ Z w rargs hrel ha).mono ?_
  rintro e w' ⟨rv, r', H'', Φ', Z', he, ⟨rfl, rfl⟩, hv, hr, hev⟩
  exact ⟨rv, Φ', Z', he, hv, hr, hev⟩

/-- What a function's call does, from its body's small code. -/
theorem SimP.intro (hP : P.follows .mixedOrders = true) {f : Nat} {args : List V} {H : List Blk} {Q : V → List Blk → Prop} {c : MC} {rs : List RS} (hc : Compiled P f args.length c rs)
    (h : mwp P G c (fun e st => (e = .normal ∨ e = .ret) ∧ resK st.fr st.H rs fun us => Q (packV us) st.H) ⟨argFr 0 args, H⟩) : SimP P G f args H Q := by
  obtain ⟨fn, body, h1, h2, h3, h4, h5⟩ := hc
  intro B Φ Z w rargs hrel ha
  refine calls_of_wp h1 h2 ?_
  have hat : At G B fn.ntmps Φ Z w ⟨argFr 0 args, H⟩ { tmps := rargs ++ Array.replicate (fn.ntmps - rargs.size) undef, defers := [] } w := by
    refine ⟨Φ, Z, hrel, fun i => ?_, Ev.refl _ _ _ _, ?_, rfl⟩
    · rw [argFr_get]
      simp only [Nat.zero_le, if_true, Nat.sub_zero]
      by_cases hi : i < args.length
      · have := ha.2 i hi
        have hi' : i < rargs.size := by rw [ha.1]; exact hi
        simpa [Array.getD_eq_getD_getElem?, Array.getElem?_append_left hi'] using this
      · rw [List.getD_eq_getElem?_getD, List.getElem?_eq_none (by omega)]
        exact .junk _
    · have := ha.1
      simp
      omega
  refine wp_mono (mwp_sound (drawn hP) body c h3 _ _ _ _ h hat) ?_
  rintro e a' w' ⟨st, ⟨he, hQ⟩, Φ', Z', hrel', hf', hev', hsz', hdf'⟩
  obtain ⟨vs, us, hv1, hQ', hv2, hv3⟩ := run_results (P := P) hrel' hf' fn.results.toList rs _ h4 hQ
  have hres : ∃ rv, (results fn a'.tmps).run P w' = .ok rv w' ∧ VR Φ' Z' w' (packV us) rv := by
    have hrun : (results fn a'.tmps).run P w' = .ok (if h : vs.toArray.size = 1 then vs.toArray[0] else .tuple vs.toArray) w' := by
      unfold results
      rw [Array.mapM_eq_mapM_toList]
      simp only [Sem.run_bind, Sem.run_map, Sem.run_pure]
      erw [hv1]
      rfl
    refine ⟨_, hrun, ?_⟩
    rcases us with _ | ⟨t, _ | ⟨t2, ts⟩⟩
    · obtain rfl : vs = [] := by simpa using hv2
      exact .tup _ _ rfl (by simp)
    · rcases vs with _ | ⟨x, _ | ⟨y, vs⟩⟩ <;> simp at hv2
      simpa [packV] using hv3 0 (by simp)
    · have : vs.toArray.size ≠ 1 := by simp [hv2]
      rw [dif_neg this]
      simp only [packV]
      refine .tup _ _ (by simp [hv2]) fun i hi => ?_
      have := hv3 i hi
      simpa [Array.getD_eq_getD_getElem?, List.getD_eq_getElem?_getD] using this
  obtain ⟨rv, hr1, hr2⟩ := hres
  rcases he with rfl | rfl
  · exact ⟨hdf', rv, hr1, rv, _, _, Φ', Z', rfl, hQ', hr2, hrel', hev'⟩
  · exact ⟨hdf', rv, hr1, rv, _, _, Φ', Z', rfl, hQ', hr2, hrel', hev'⟩

/-- Values without a way into the abstract heap ('im': they may lead to memory that nothing writes). -/
inductive Free (im : Bool) : V → Prop where
  | junk : Free im .junk
  | bool (b : Bool) : Free im (.bool b)
  | int (k : IntKind) (n : Int) : Free im (.int k n)
  | str (s : List UInt8) : Free im (.str s)
  | nilp : Free im .nilp
  | nils : Free im .nils
  | nilf : Free im .nilf
  | vs0 : Free im (.vs [])
  | agg {cs : List V} (h : ∀ i, i < cs.length → Free im (cs.getD i .junk)) : Free im (.agg cs)
  | tup {cs : List V} (h : ∀ i, i < cs.length → Free im (cs.getD i .junk)) : Free im (.tup cs)
  | vs {xs : List V} (hi : im = true) (h : ∀ i j, i < xs.length → j < (xs.getD i .junk).cells.length → Free im ((xs.getD i .junk).cells.getD j .junk)) : Free im (.vs xs)
  | vp {cs : List V} (hi : im = true) (h : ∀ i, i < cs.length → Free im (cs.getD i .junk)) : Free im (.vp cs)
  | fn (f : Fn) {fs cs : List V} (h : ∀ i, i < fs.length → Free im (fs.getD i .junk)) (h' : ∀ i, i < cs.length → Free im (cs.getD i .junk)) : Free im (.fn f fs cs)

theorem Free.of {im : Bool} {v : V} (h : Free im v) : Free true v := by
  induction h with
  | junk => exact .junk
  | bool b => exact .bool b
  | int k n => exact .int k n
  | str s => exact .str s
  | nilp => exact .nilp
  | nils => exact .nils
  | nilf => exact .nilf
  | vs0 => exact .vs0
  | agg _ ih => exact .agg ih
  | tup _ ih => exact .tup ih
  | vs _ _ ih => exact .vs rfl ih
  | vp _ _ ih => exact .vp rfl ih
  | fn f _ _ ih ih' => exact .fn f ih ih'

/-- A free value stands wherever what it leads to stands. -/
theorem Free.vr {im : Bool} {v : V} (hv : Free im v) : ∀ {Φ Φ2 : Nat → Option Pl} {Z Z2 : Nat → Prop} {w w2 : World} {rv : Value}, VR Φ Z w v rv → (im = true → (∀ r, Z r → Z2 r) ∧ ∀ r, Z r → w2.heap[r]? = w.heap[r]?) → VR Φ2 Z2 w2 v rv := by
  induction hv with
  | junk => intro Φ Φ2 Z Z2 w w2 rv h hz; exact .junk _
  | bool b => intro Φ Φ2 Z Z2 w w2 rv h hz; cases h; exact .bool b
  | int k n => intro Φ Φ2 Z Z2 w w2 rv h hz; cases h; exact .int k n
  | str s => intro Φ Φ2 Z Z2 w w2 rv h hz; cases h; exact .str s
  | nilp => intro Φ Φ2 Z Z2 w w2 rv h hz; cases h; exact .nilp
  | nils => intro Φ Φ2 Z Z2 w w2 rv h hz; cases h; exact .nils
  | nilf => intro Φ Φ2 Z Z2 w w2 rv h hz; cases h; exact .nilf
  | vs0 =>
    intro Φ Φ2 Z Z2 w w2 rv h hz
    cases h with
    | vs _ a sz cap => exact .vs0 _ _
    | vs0 b c => exact .vs0 _ _
  | agg _ ih =>
    intro Φ Φ2 Z Z2 w w2 rv h hz
    cases h with
    | agg _ rs hl hh => exact .agg _ rs hl fun i hi => ih i hi (hh i hi) hz
  | tup _ ih =>
    intro Φ Φ2 Z Z2 w w2 rv h hz
    cases h with
    | tup _ rs hl hh => exact .tup _ rs hl fun i hi => ih i hi (hh i hi) hz
  | vs him _ ih =>
    intro Φ Φ2 Z Z2 w w2 rv h hz
    cases h with
    | vs _ a sz cap c hs hzb hc hsz hcell hh =>
      refine .vs _ a sz cap c hs ((hz him).1 _ hzb) hc hsz (fun i j hi hj => ?_) fun i j hi hj => ih i j hi (by rw [hsz i hi]; exact hj) (hh i j hi hj) hz
      rw [show w2.cell? ⟨a.block, _, none⟩ = w.cell? ⟨a.block, _, none⟩ from World.cell?_of_block (w := w) ((hz him).2 _ hzb)]
      exact hcell i j hi hj
    | vs0 b c => exact .vs0 _ _
  | vp him _ ih =>
    intro Φ Φ2 Z Z2 w w2 rv h hz
    cases h with
    | vp _ a c hs hzb hcell hh =>
      refine .vp _ a c hs ((hz him).1 _ hzb) (fun j hj => ?_) fun j hj => ih j hj (hh j hj) hz
      rw [show w2.cell? ⟨a.block, _, none⟩ = w.cell? ⟨a.block, _, none⟩ from World.cell?_of_block (w := w) ((hz him).2 _ hzb)]
      exact hcell j hj
  | fn f _ _ ih ih' =>
    intro Φ Φ2 Z Z2 w w2 rv h hz
    cases h with
    | fn _ _ _ rf rc h1 h2 h3 h4 => exact .fn f _ _ rf rc h1 h2 (fun i hi => ih i hi (h3 i hi) hz) fun i hi => ih' i hi (h4 i hi) hz

/-- A value as one sees it once nothing is written any more. -/
inductive Frz (im : Bool) (H : List Blk) : V → V → Prop where
  | free {v : V} (h : Free im v) : Frz im H v v
  | hs {b n i len : Nat} {cap : Option Nat} {sz : Nat} {xs ys : List V} {opn frz : Bool} (hH : getB H b = .row sz xs opn frz) (hn : xs.length = n) (hi : i + len ≤ n) (hl : ys.length = len) (hc : ∀ k, k < len → (ys.getD k .junk).cells.length = sz)
      (he : ∀ k j, k < len → j < sz → Frz im H ((xs.getD (i + k) .junk).cells.getD j .junk) ((ys.getD k .junk).cells.getD j .junk)) : Frz im H (.hs b n i 0 len cap sz) (.vs ys)
  | hsi {b n i j len : Nat} {cap : Option Nat} {sz : Nat} {xs ys : List V} {opn frz : Bool} (hH : getB H b = .row sz xs opn frz) (hn : xs.length = n) (hi : i < n) (hj : j + len ≤ sz) (hl : ys.length = len) (hc : ∀ k, k < len → (ys.getD k .junk).cells = [ys.getD k .junk])
      (he : ∀ k, k < len → Frz im H ((xs.getD i .junk).cells.getD (j + k) .junk) (ys.getD k .junk)) : Frz im H (.hs b n i j len cap 1) (.vs ys)
  | ptr {b n i j sz : Nat} {xs ds : List V} {opn frz : Bool} (hH : getB H b = .row sz xs opn frz) (hn : xs.length = n) (hi : i < n) (hl : j + ds.length ≤ sz)
      (he : ∀ k, k < ds.length → Frz im H ((xs.getD i .junk).cells.getD (j + k) .junk) (ds.getD k .junk)) : Frz im H (.ptr b n i j) (.vp ds)
  | agg {cs ds : List V} (hl : ds.length = cs.length) (h : ∀ i, i < cs.length → Frz im H (cs.getD i .junk) (ds.getD i .junk)) : Frz im H (.agg cs) (.agg ds)
  | tup {cs ds : List V} (hl : ds.length = cs.length) (h : ∀ i, i < cs.length → Frz im H (cs.getD i .junk) (ds.getD i .junk)) : Frz im H (.tup cs) (.tup ds)
  | fn (f : Fn) {fs cs fs' cs' : List V} (hl : fs'.length = fs.length) (hl' : cs'.length = cs.length) (h : ∀ i, i < fs.length → Frz im H (fs.getD i .junk) (fs'.getD i .junk)) (h' : ∀ i, i < cs.length → Frz im H (cs.getD i .junk) (cs'.getD i .junk)) : Frz im H (.fn f fs cs) (.fn f fs' cs')

theorem Frz.app {im : Bool} {H : List Blk} {v v' : V} (h : Frz im H v v') (T : List Blk) : Frz im (H ++ T) v v' := by
  induction h with
  | free h => exact .free h
  | hs hH hn hi hl hc _ ih => exact .hs (getB_app hH) hn hi hl hc ih
  | hsi hH hn hi hj hl hc _ ih => exact .hsi (getB_app hH) hn hi hj hl hc ih
  | ptr hH hn hi hl _ ih => exact .ptr (getB_app hH) hn hi hl ih
  | agg hl _ ih => exact .agg hl ih
  | tup hl _ ih => exact .tup hl ih
  | fn f hl hl' _ _ ih ih' => exact .fn f hl hl' ih ih'

theorem Frz.vr {im : Bool} {B : Bd} {Φ : Nat → Option Pl} {Z Z2 : Nat → Prop} {H : List Blk} {w : World} (hrel : Rel G B Φ Z H w) (hz : im = true → ∀ r, Z r → Z2 r) (hp : ∀ b p, Φ b = some p → Z2 p.rb) {v v' : V} (h : Frz im H v v') : ∀ {rv : Value}, VR Φ Z w v rv → ∀ Φ2, VR Φ2 Z2 w v' rv := by
  induction h with
  | free hf => exact fun hv Φ2 => hf.vr hv fun him => ⟨hz him, fun _ _ => rfl⟩
  | @hs b n i len cap sz xs ys opn frz hH hn hi hl hc _ ih =>
    intro rv hv Φ2
    obtain ⟨p, rcap, hpb, ok, rfl, hle, hcap⟩ := hs_inv hrel hv hH hn
    obtain ⟨c, t, fz, hcb, _, h3, h4, _, h5⟩ := ok.row
    have := VR.vs (Φ := Φ2) (Z := Z2) (w := w) ys ⟨p.rb, i * sz + 0, none⟩ sz rcap (fun k j => c.getD ((i + k) * sz + j) undef) rfl (hp b p hpb) (by omega) (fun k hk => hc k (by omega)) (fun k j hk hj => by
      have hin : (i + k) * sz + j < c.size := by
        have := mul_in (i := i + k) (n := xs.length) (sz := sz) (j := j) (by omega) hj
        omega
      simp only [Nat.add_zero]
      rw [← Nat.add_assoc, ← Nat.add_mul]
      exact cell_getD hcb hin) (fun k j hk hj => ih k j (by omega) hj (h5 (i + k) j (by omega) hj) Φ2)
    rw [hl] at this
    exact this
  | @hsi b n i j len cap sz xs ys opn frz hH hn hi hj hl hc _ ih =>
    intro rv hv Φ2
    obtain ⟨p, rcap, hpb, ok, rfl, hle, hcap⟩ := hs_inv hrel hv hH hn
    obtain ⟨c, t, fz, hcb, _, h3, h4, _, h5⟩ := ok.row
    have := VR.vs (Φ := Φ2) (Z := Z2) (w := w) ys ⟨p.rb, i * sz + j, none⟩ 1 rcap (fun k _ => c.getD (i * sz + (j + k)) undef) rfl (hp b p hpb) (by omega) (fun k hk => by rw [hc k (by omega)]; rfl) (fun k q hk hq => by
      obtain rfl : q = 0 := by omega
      have hin : i * sz + (j + k) < c.size := by
        have := mul_in (i := i) (n := xs.length) (sz := sz) (j := j + k) (by omega) (by omega)
        omega
      simp only [Nat.mul_one, Nat.add_zero]
      rw [Nat.add_assoc]
      exact cell_getD hcb hin) (fun k q hk hq => by
      obtain rfl : q = 0 := by omega
      rw [hc k (by omega), List.getD_cons_zero]
      exact ih k (by omega) (h5 i (j + k) (by omega) (by omega)) Φ2)
    rw [hl] at this
    exact this
  | @ptr b n i j sz xs ds opn frz hH hn hi hl _ ih =>
    intro rv hv Φ2
    obtain ⟨p, hpb, ok, rfl⟩ := ptr_inv hrel hv hH hn
    obtain ⟨c, t, fz, hcb, _, h3, h4, _, h5⟩ := ok.row
    refine .vp ds ⟨p.rb, i * sz + j, none⟩ (fun k => c.getD (i * sz + (j + k)) undef) rfl (hp b p hpb) (fun k hk => ?_) fun k hk => ih k hk (h5 i (j + k) (by omega) (by omega)) Φ2
    have hin : i * sz + (j + k) < c.size := by
      have := mul_in (i := i) (n := xs.length) (sz := sz) (j := j + k) (by omega) (by omega)
      omega
    show w.cell? ⟨p.rb, i * sz + j + k, none⟩ = _
    rw [Nat.add_assoc]
    exact cell_getD hcb hin
  | agg hl _ ih =>
    intro rv hv Φ2
    cases hv with
    | agg _ rs h1 h2 => exact .agg _ rs (by rw [h1, hl]) fun i hi => ih i (by omega) (h2 i (by omega)) Φ2
  | tup hl _ ih =>
    intro rv hv Φ2
    cases hv with
    | tup _ rs h1 h2 => exact .tup _ rs (by rw [h1, hl]) fun i hi => ih i (by omega) (h2 i (by omega)) Φ2
  | fn f hl hl' _ _ ih ih' =>
    intro rv hv Φ2
    cases hv with
    | fn _ _ _ rf rc h1 h2 h3 h4 => exact .fn f _ _ rf rc (by rw [h1, hl]) (by rw [h2, hl']) (fun i hi => ih i (by omega) (h3 i (by omega)) Φ2) fun i hi => ih' i (by omega) (h4 i (by omega)) Φ2

/-- A sealed call: its own heap is its own. 'im': the result may be memory that the arguments lead to. -/
def Does (P : Program) (G : Nat → Option (List V)) (im : Bool) (f : Nat) (args : List V) (r : V) : Prop := SimP P G f args [] fun r0 H' => Frz im H' r0 r

theorem Does.intro (hP : P.follows .mixedOrders = true) {im : Bool} {f : Nat} {args : List V} {r : V} {c : MC} {rs : List RS} (hc : Compiled P f args.length c rs)
    (h : mwp P G c (fun e st => (e = .normal ∨ e = .ret) ∧ resK st.fr st.H rs fun us => Frz im st.H (packV us) r) ⟨argFr 0 args, []⟩) : Does P G im f args r := SimP.intro hP hc h

/-- Blocks that are there are as good as frozen for what begins now. -/
theorem Rel.enter {B : Bd} {Φ : Nat → Option Pl} {Z Z1 : Nat → Prop} {H : List Blk} {w : World} (hrel : Rel G B Φ Z H w) (h1 : ∀ r, Z r → Z1 r) (h2 : ∀ r, Z1 r → r < w.heap.size) : Rel G ⟨w.heap.size, fun _ => none⟩ (fun _ => none) Z1 [] w := by
  refine ⟨fun b p hp => (by cases hp), fun b b' p p' hp => (by cases hp), fun b p hp => (by cases hp), h2, Nat.le_refl _, hrel.glob.mono h1 fun _ _ => rfl, fun b k hb => (by cases hb)⟩

/-- A sealed call on immutable arguments. -/
theorem Does.quiet {im : Bool} {f : Nat} {args : List V} {r : V} (h : Does P G im f args r) (ha : ∀ a ∈ args, Free true a) (H : List Blk) : QSim P G f args H r := by
  intro B Φ Z w rargs hrel hargs
  have hargs' : VRs (fun _ => none) Z w args rargs := ⟨hargs.1, fun i hi => (ha _ (getD_mem hi)).vr (hargs.2 i hi) fun _ => ⟨fun _ h => h, fun _ _ => rfl⟩⟩
  refine Calls.mono (h ⟨w.heap.size, fun _ => none⟩ (fun _ => none) Z w rargs (hrel.enter (fun _ h => h) hrel.zin) hargs') ?_
  rintro e w' ⟨rv, r0, H', Φ', Z', rfl, hfr, hv, hr', hev'⟩
  have hbel : Below B w w' := hev'.below.mono hrel.size
  let Z2 : Nat → Prop := fun q => Z' q ∨ ∃ b p, Φ' b = some p ∧ p.rb = q
  have hz2 : ∀ q, Z2 q → q < w.heap.size → Z q := by
    rintro q (hq | ⟨b, p, hp, rfl⟩) hlt
    · rcases hev'.znew q hq hlt with h | h
      · exact h
      · have : w.heap.size ≤ q := h
        omega
    · have : w.heap.size ≤ p.rb := hr'.low b p hp
      omega
  have hsame : ∀ q, q < w.heap.size → w'.heap[q]? = w.heap[q]? := hev'.below.block
  have hvr : ∀ v rv, VR Φ Z w v rv → VR Φ Z2 w' v rv := fun v rv hv => hv.mono (fun q hq => .inl (hev'.z q hq)) (fun q hq => hsame q (hrel.zin q hq)) fun b p hp => ⟨p, hp, .inl rfl⟩
  refine ⟨rv, Z2, rfl, Frz.vr hr' (fun _ q hq => .inl hq) (fun b p hp => .inr ⟨b, p, hp, rfl⟩) hfr hv Φ, ⟨fun b p hp => ?_, hrel.inj, hrel.low, ?_, Nat.le_trans hrel.size hev'.below.size, hrel.glob.mono (fun q hq => .inl (hev'.z q hq)) fun q hq => hsame q (hrel.zin q hq), hrel.pend⟩, ⟨fun q hq => .inl (hev'.z q hq), fun q hq => hsame q (hrel.zin q hq), fun b p hp => ⟨p, hp, .inl rfl⟩, hbel, fun q hq hlt => .inl (hz2 q hq hlt)⟩⟩
  · obtain ⟨k, hk, ok⟩ := hrel.blk b p hp
    have hlt := ok.lt
    have ok' := ok.mono (Z := Z) (Φ' := Φ) (w' := w') (hsame _ hlt)
    refine ⟨k, hk, ?_⟩
    cases k with
    | row sz xs opn frz =>
      obtain ⟨n, s, cs, ⟨c, t, fz, hc, h0, h1, h2, h3, h4⟩, z⟩ := ok
      refine ⟨n, s, cs, ⟨c, t, fz, by rw [hsame _ hlt]; exact hc, h0, h1, h2, h3, fun i j hi hj => hvr _ _ (h4 i j hi hj)⟩, fun hf => .inl (hev'.z _ (z.1 hf)), fun hf hq => z.2 hf (hz2 _ hq hlt)⟩
    | map es =>
      obtain ⟨n, ⟨c, t, hc, h1, h2⟩, z⟩ := ok
      exact ⟨n, ⟨c, t, by rw [hsame _ hlt]; exact hc, h1, fun i hi => ⟨hvr _ _ (h2 i hi).1, hvr _ _ (h2 i hi).2⟩⟩, fun hq => z (hz2 _ hq hlt)⟩
  · rintro q (hq | ⟨b, p, hp, rfl⟩)
    · exact hr'.zin q hq
    · obtain ⟨k, _, ok⟩ := hr'.blk b p hp
      exact ok.lt

/-- A list of values, each as one sees it. -/
def Frzs (im : Bool) (H : List Blk) (vs vs' : List V) : Prop := vs'.length = vs.length ∧ ∀ i, i < vs.length → Frz im H (vs.getD i .junk) (vs'.getD i .junk)

/-- A sealed call that borrows: what it is given, it reads; what it gives back is its own. -/
theorem Does.borrow {f : Nat} {args args' : List V} {r : V} {H0 : List Blk} (h : Does P G false f args' r) (ha : Frzs true H0 args args') (T : List Blk) : QSim P G f args (H0 ++ T) r := by
  intro B Φ Z w rargs hrel hargs
  let Z1 : Nat → Prop := fun q => q < w.heap.size
  have hargs' : VRs (fun _ => none) Z1 w args' rargs := ⟨by rw [hargs.1, ha.1], fun i hi => by
    have hi' : i < args.length := by rw [← ha.1]; exact hi
    exact Frz.vr hrel (fun _ q hq => hrel.zin q hq) (fun b p hp => by obtain ⟨k, _, ok⟩ := hrel.blk b p hp; exact ok.lt) ((ha.2 i hi').app T) (hargs.2 i hi') _⟩
  refine Calls.mono (h ⟨w.heap.size, fun _ => none⟩ (fun _ => none) Z1 w rargs (hrel.enter (fun q hq => hrel.zin q hq) fun _ h => h) hargs') ?_
  rintro e w' ⟨rv, r0, H', Φ', Z', rfl, hfr, hv, hr', hev'⟩
  have hbel : Below B w w' := hev'.below.mono hrel.size
  let Z2 : Nat → Prop := fun q => Z q ∨ ∃ b p, Φ' b = some p ∧ p.rb = q
  have hz2 : ∀ q, Z2 q → q < w.heap.size → Z q := by
    rintro q (hq | ⟨b, p, hp, rfl⟩) hlt
    · exact hq
    · have : w.heap.size ≤ p.rb := hr'.low b p hp
      omega
  have hsame : ∀ q, q < w.heap.size → w'.heap[q]? = w.heap[q]? := hev'.below.block
  have hvr : ∀ v rv, VR Φ Z w v rv → VR Φ Z2 w' v rv := fun v rv hv => hv.mono (fun q hq => .inl hq) (fun q hq => hsame q (hrel.zin q hq)) fun b p hp => ⟨p, hp, .inl rfl⟩
  refine ⟨rv, Z2, rfl, Frz.vr hr' (fun h => by cases h) (fun b p hp => .inr ⟨b, p, hp, rfl⟩) hfr hv Φ, ⟨fun b p hp => ?_, hrel.inj, hrel.low, ?_, Nat.le_trans hrel.size hev'.below.size, hrel.glob.mono (fun q hq => .inl hq) fun q hq => hsame q (hrel.zin q hq), hrel.pend⟩, ⟨fun q hq => .inl hq, fun q hq => hsame q (hrel.zin q hq), fun b p hp => ⟨p, hp, .inl rfl⟩, hbel, fun q hq hlt => .inl (hz2 q hq hlt)⟩⟩
  · obtain ⟨k, hk, ok⟩ := hrel.blk b p hp
    have hlt := ok.lt
    refine ⟨k, hk, ?_⟩
    cases k with
    | row sz xs opn frz =>
      obtain ⟨n, s, cs, ⟨c, t, fz, hc, h0, h1, h2, h3, h4⟩, z⟩ := ok
      refine ⟨n, s, cs, ⟨c, t, fz, by rw [hsame _ hlt]; exact hc, h0, h1, h2, h3, fun i j hi hj => hvr _ _ (h4 i j hi hj)⟩, fun hf => .inl (z.1 hf), fun hf hq => z.2 hf (hz2 _ hq hlt)⟩
    | map es =>
      obtain ⟨n, ⟨c, t, hc, h1, h2⟩, z⟩ := ok
      exact ⟨n, ⟨c, t, by rw [hsame _ hlt]; exact hc, h1, fun i hi => ⟨hvr _ _ (h2 i hi).1, hvr _ _ (h2 i hi).2⟩⟩, fun hq => z (hz2 _ hq hlt)⟩
  · rintro q (hq | ⟨b, p, hp, rfl⟩)
    · have := hrel.zin q hq; have := hev'.below.size; omega
    · obtain ⟨k, _, ok⟩ := hr'.blk b p hp
      exact ok.lt

theorem QSim.sim {f : Nat} {args : List V} {r : V} {H : List Blk} (h : QSim P G f args H r) : Sim P G f args H r H := by
  intro B Φ Z w rargs hrel ha
  refine Calls.mono (h B Φ Z w rargs hrel ha) ?_
  rintro e w' ⟨rv, Z', he, hv, hr, hev⟩
  exact ⟨rv, Φ, Z', he, hv, hr, hev⟩

theorem callK_of_quiet {q : Bool} {f : Nat} {args : List V} {H : List Blk} {K : V → List Blk → Prop} {r : V} (h : ∀ T, QSim P G f args (H ++ T) r) (hk : K r H) : callK P G q f args H K := by
  unfold callK
  cases q with
  | true => exact ⟨r, h, hk⟩
  | false =>
    have := h []
    rw [List.append_nil] at this
    exact ⟨r, H, this.sim, hk⟩

/-- A sealed call, on immutable arguments. -/
theorem Does.call {q im : Bool} {f : Nat} {args : List V} {H : List Blk} {K : V → List Blk → Prop} {r : V} (h : Does P G im f args r) (ha : ∀ a ∈ args, Free true a) (hk : K r H) : callK P G q f args H K :=
  callK_of_quiet (fun T => h.quiet ha _) hk

/-- A sealed call that borrows. -/
theorem Does.callB {q : Bool} {f : Nat} {args args' : List V} {H : List Blk} {K : V → List Blk → Prop} {r : V} (h : Does P G false f args' r) (ha : Frzs true H args args') (hk : K r H) : callK P G q f args H K :=
  callK_of_quiet (fun T => h.borrow ha T) hk

end
end Go.MW

/- A row's arguments: what they read as, as abstract values; and a row's run. -/
namespace Go.MW
open Go Go.RowKit Go.ChangeShapes Go.WideShapes Go.ChangeAt
set_option linter.unusedVariables false
set_option linter.unusedSimpArgs false

/-- A value from its cells. -/
def mkV (P : Program) (t : TypeId) (cs : List V) : V :=
  match P.underlying t with
  | some (.struct _) => .agg cs
  | _ => cs.getD 0 .junk

def TypFs (p : TypeId → List V → Prop) : List Field → List V → Prop
  | [], vs => vs = []
  | f :: fs, vs => ∃ a b, vs = a ++ b ∧ p f.type a ∧ TypFs p fs b

/-- Cells of a value of a type; no text and no slice is longer than M. -/
def TypN (P : Program) (M : Nat) : Nat → TypeId → List V → Prop
  | 0, _, _ => False
  | n + 1, t, vs => match P.underlying t with
    | some .bool => ∃ b, vs = [.bool b]
    | some (.int k) => ∃ m, vs = [.int k m] ∧ (Lit.int k m).wf = true
    | some .string => ∃ s, vs = [.str s] ∧ s.length ≤ M
    | some (.slice e) => vs = [.nils] ∨ ∃ xs, vs = [.vs xs] ∧ xs.length ≤ M ∧ ∀ x ∈ xs, ∃ cs, x = mkV P e cs ∧ TypN P M n e cs
    | some (.struct fs) => TypFs (TypN P M n) fs.toList vs
    | _ => False

/-- A value of a type. -/
def Typ (P : Program) (M : Nat) (t : TypeId) (v : V) : Prop := ∃ n cs, v = mkV P t cs ∧ TypN P M n t cs

/-- Fields that lie one behind the other. -/
def laidFs (P : Program) : Nat → List Field → Option Nat
  | off, [] => some off
  | off, f :: fs => if f.offset = off then laidFs P (off + P.cellsOf f.type) fs else none

/-- Types that are read here. -/
def okT (P : Program) : Nat → TypeId → Bool
  | 0, _ => false
  | n + 1, t => match P.underlying t with
    | some .bool | some (.int _) | some .string => true
    | some (.slice e) => P.cellsOf e != 0 && okT P n e
    | some (.struct fs) => laidFs P 0 fs.toList == some (P.cellsOf t) && fs.toList.all fun f => okT P n f.type
    | _ => false

/-- A measure that bounds lengths. -/
structure Meas {H : Type} (μ : DataW H → Nat) : Prop where
  str : ∀ bs, bs.length ≤ μ (.lit (.string bs))
  len : ∀ es sp, es.length ≤ μ (.slice es sp)
  el : ∀ es sp, ∀ e ∈ es, μ e ≤ μ (.slice es sp)
  part : ∀ ps, ∀ p ∈ ps, μ p ≤ μ (.agg ps)

section
variable {P : Program} {H : Type} {enc : TypeId × Value → H} {w : World} {spare : Nat → Bool}

/-- Cells that are free values, and stand so. -/
structure Cs (w : World) (vs : List V) (cs : List Value) : Prop where
  len : vs.length = cs.length
  vr : ∀ i, i < vs.length → VR (fun _ => none) (fun r => r < w.heap.size) w (vs.getD i .junk) (cs.getD i undef)
  free : ∀ i, i < vs.length → Free true (vs.getD i .junk)

theorem Cs.append {vs vs' : List V} {cs cs' : List Value} (h : Cs w vs cs) (k : Cs w vs' cs') : Cs w (vs ++ vs') (cs ++ cs') := by
  refine ⟨by simp [h.len, k.len], fun i hi => ?_, fun i hi => ?_⟩
  · by_cases h1 : i < vs.length
    · rw [getD_left h1]
      have := h.vr i h1
      simpa [List.getD_eq_getElem?_getD, List.getElem?_append_left (show i < cs.length by rw [← h.len]; exact h1)] using this
    · rw [getD_right (by omega)]
      have := k.vr (i - vs.length) (by simp at hi; omega)
      simpa [List.getD_eq_getElem?_getD, List.getElem?_append_right (show cs.length ≤ i by rw [← h.len]; omega), h.len] using this
  · by_cases h1 : i < vs.length
    · rw [getD_left h1]; exact h.free i h1
    · rw [getD_right (by omega)]; exact k.free _ (by simp at hi; omega)

theorem Cs.one {v : V} {c : Value} (h : VR (fun _ => none) (fun r => r < w.heap.size) w v c) (hf : Free true v) : Cs w [v] [c] :=
  ⟨rfl, fun i hi => by obtain rfl : i = 0 := (by simpa using hi); exact h, fun i hi => by obtain rfl : i = 0 := (by simpa using hi); exact hf⟩

theorem mapM_some {α β : Type} {g : α → Option β} : ∀ {l : List α} {r : List β}, l.mapM g = some r → r.length = l.length ∧ ∀ (i : Nat) (x : α), l[i]? = some x → ∃ y, g x = some y ∧ r[i]? = some y
  | [], r, h => by simp at h; subst h; simp
  | x :: l, r, h => by
    simp only [List.mapM_cons, Option.bind_eq_bind, Option.pure_def] at h
    cases hx : g x with
    | none => simp [hx] at h
    | some y =>
      cases hl : l.mapM g with
      | none => simp [hx, hl] at h
      | some ys =>
        simp [hx, hl] at h
        subst h
        obtain ⟨h1, h2⟩ := mapM_some hl
        refine ⟨by simp [h1], fun i z hz => ?_⟩
        cases i with
        | zero => simp at hz; subst hz; exact ⟨y, hx, rfl⟩
        | succ i => simpa using h2 i z (by simpa using hz)

theorem cells_spec {base n : Nat} {a : Addr} {cs : List Value} (h : w.cells? base a n = some cs) : cs.length = n ∧ ∀ i, i < n → w.cell? (a.add i) = some (cs.getD i undef) := by
  unfold World.cells? at h
  split at h
  · obtain ⟨h1, h2⟩ := mapM_some h
    refine ⟨by simpa using h1, fun i hi => ?_⟩
    obtain ⟨y, h3, h4⟩ := h2 i i (by simp [hi])
    rw [h3, List.getD_eq_getElem?_getD, h4]
    rfl
  · cases h

theorem cell_spot {a : Addr} {v : Value} (h : w.cell? a = some v) : a.spot = none ∧ a.block < w.heap.size := by
  unfold World.cell? at h
  split at h
  · rename_i c t fz hb
    split at h
    · cases h
    · rename_i hs
      exact ⟨by simpa using hs, (Array.getElem?_eq_some_iff.1 hb).1⟩
  · cases h

theorem add_add (a : Addr) (i j : Nat) (hs : a.spot = none) : (a.add i).add j = ⟨a.block, a.off + (i + j), none⟩ := by
  rw [add_eq hs, add_eq rfl]
  simp [Nat.add_assoc]

theorem mkV_cells {M n : Nat} {t : TypeId} {cs : List V} (h : TypN P M n t cs) : (mkV P t cs).cells = cs := by
  cases n with
  | zero => exact h.elim
  | succ n =>
    unfold TypN at h
    unfold mkV
    split at h
    · obtain ⟨b, rfl⟩ := h; simp [*, V.cells]
    · obtain ⟨m, rfl, _⟩ := h; simp [*, V.cells]
    · obtain ⟨s, rfl, _⟩ := h; simp [*, V.cells]
    · rcases h with rfl | ⟨xs, rfl, _⟩ <;> simp [*, V.cells]
    · simp [*, V.cells]
    · exact h.elim

theorem fs_typ {M n fuel : Nat} {held : Bool} {base : Nat} {μ : DataW H → Nat} {cs : List Value} (hb : ∀ (t : TypeId) (cs : List Value) (x : DataW H × List MemPlace), okT P n t = true → DataW.trod enc P w base spare held fuel t cs = some x → (M = maxLen ∨ Meas μ ∧ μ x.1 ≤ M) → cs.length = P.cellsOf t → ∃ vs, TypN P M n t vs ∧ Cs w vs cs) :
    ∀ (fs : List Field) (off e : Nat), laidFs P off fs = some e → (∀ f ∈ fs, okT P n f.type = true ∧ ∃ x, DataW.trod enc P w base spare held fuel f.type ((cs.drop f.offset).take (P.cellsOf f.type)) = some x ∧ (M = maxLen ∨ Meas μ ∧ μ x.1 ≤ M)) → e ≤ cs.length →
      off ≤ e ∧ ∃ vs, TypFs (TypN P M n) fs vs ∧ Cs w vs ((cs.drop off).take (e - off))
  | [], off, e, hl, _, _ => by
    simp [laidFs] at hl
    subst hl
    exact ⟨Nat.le_refl _, [], rfl, by simp, by simp, by simp⟩
  | f :: fs, off, e, hl, hf, he => by
    simp only [laidFs] at hl
    split at hl <;> try (simp at hl; done)
    rename_i hoff
    obtain ⟨hle, vs, h1, h2⟩ := fs_typ hb fs _ e hl (fun g hg => hf g (List.mem_cons_of_mem _ hg)) he
    obtain ⟨hok, x, hx, hm⟩ := hf f List.mem_cons_self
    obtain ⟨ws, h3, h4⟩ := hb f.type _ x hok hx hm (by simp; omega)
    refine ⟨by omega, ws ++ vs, ⟨ws, vs, rfl, h3, h1⟩, ?_⟩
    have := h4.append h2
    rw [hoff] at this
    have e1 : (cs.drop off).take (e - off) = (cs.drop off).take (P.cellsOf f.type) ++ (cs.drop (off + P.cellsOf f.type)).take (e - (off + P.cellsOf f.type)) := by
      rw [← List.drop_drop, show e - off = P.cellsOf f.type + (e - (off + P.cellsOf f.type)) by omega, List.take_add]
    rw [e1]
    exact this

theorem trod_typ {M : Nat} {held : Bool} {base : Nat} {μ : DataW H → Nat} : ∀ (n fuel : Nat) (t : TypeId) (cs : List Value) (x : DataW H × List MemPlace), okT P n t = true → DataW.trod enc P w base spare held fuel t cs = some x → (M = maxLen ∨ Meas μ ∧ μ x.1 ≤ M) → cs.length = P.cellsOf t →
    ∃ vs, TypN P M n t vs ∧ Cs w vs cs
  | 0, fuel, t, cs, x, hok, _, _, _ => by simp [okT] at hok
  | n + 1, fuel, t, cs, x, hok, h, hm, hl => by
    unfold okT at hok
    split at hok
    · rename_i hu
      obtain ⟨b, rfl, rfl⟩ := DataW.trod_bool hu h
      exact ⟨[.bool b], by simp [TypN, hu], .one (.bool b) (.bool b)⟩
    · rename_i k hu
      obtain ⟨m, rfl, rfl, hw⟩ := DataW.trod_int hu h
      exact ⟨[.int k m], by simp only [TypN, hu]; exact ⟨m, rfl, hw⟩, .one (.int k m) (.int k m)⟩
    · rename_i hu
      obtain ⟨s, rfl, rfl, hs⟩ := DataW.trod_string hu h
      refine ⟨[.str s.data.toList], ?_, ?_⟩
      · simp only [TypN, hu]
        refine ⟨_, rfl, ?_⟩
        have hsz : s.data.toList.length = s.size := Array.length_toList
        rcases hm with rfl | ⟨hM, hm⟩
        · omega
        · exact Nat.le_trans (hM.str _) hm
      · have := VR.str (Φ := fun _ => none) (Z := fun r => r < w.heap.size) (w := w) s.data.toList
        rw [Array.toArray_toList] at this
        exact .one this (.str _)
    · rename_i e hu
      rw [Bool.and_eq_true, bne_iff_ne] at hok
      obtain ⟨hce, hok⟩ := hok
      rcases DataW.trod_slice hu h with ⟨rfl, rfl⟩ | ⟨a, len, cap, elems, rest, fuel', rfl, rfl, rfl, _, hlc, hcm, hel, helem, _⟩
      · exact ⟨[.nils], by simp [TypN, hu], .one .nils .nils⟩
      · have hexp : ∀ i, i < len → ∃ (y : DataW H × List MemPlace) (ec : List Value) (vs : List V), elems[i]? = some y ∧ w.cells? base (a.add (i * P.cellsOf e)) (P.cellsOf e) = some ec ∧ TypN P M n e vs ∧ Cs w vs ec := by
          intro i hi
          have h1 := helem i hi
          have h2 : elems[i]? = some (elems[i]'(by omega)) := List.getElem?_eq_getElem (by omega)
          rw [h2] at h1
          cases hc : w.cells? base (a.add (i * P.cellsOf e)) (P.cellsOf e) with
          | none => rw [hc] at h1; simp at h1
          | some ec =>
            rw [hc] at h1
            simp only [Option.bind_some] at h1
            have hec := (cells_spec hc).1
            have hmem : (elems[i]'(by omega)).1 ∈ elems.map (·.1) := List.mem_map.2 ⟨_, List.getElem_mem _, rfl⟩
            obtain ⟨vs, h3, h4⟩ := trod_typ n fuel' e ec _ hok h1 (hm.imp id fun ⟨hM, hm⟩ => ⟨hM, Nat.le_trans (hM.el _ _ _ hmem) hm⟩) hec
            exact ⟨_, ec, vs, h2, rfl, h3, h4⟩
        have hch : ∃ F : Nat → List V, ∀ i, i < len → ∃ ec : List Value, w.cells? base (a.add (i * P.cellsOf e)) (P.cellsOf e) = some ec ∧ TypN P M n e (F i) ∧ Cs w (F i) ec := by
          refine ⟨fun i => if hi : i < len then Classical.choose (Classical.choose_spec (Classical.choose_spec (hexp i hi))) else [], fun i hi => ?_⟩
          have := Classical.choose_spec (Classical.choose_spec (Classical.choose_spec (hexp i hi)))
          simp only [hi, dif_pos]
          exact ⟨_, this.2.1, this.2.2.1, this.2.2.2⟩
        obtain ⟨F, hF⟩ := hch
        have hxs : ∀ i, i < len → ((List.range len).map fun i => mkV P e (F i)).getD i .junk = mkV P e (F i) := by
          intro i hi
          simp [List.getD_eq_getElem?_getD, hi]
        have hlen : ((List.range len).map fun i => mkV P e (F i)).length = len := by simp
        refine ⟨[.vs ((List.range len).map fun i => mkV P e (F i))], ?_, ?_⟩
        · simp only [TypN, hu]
          refine .inr ⟨_, rfl, ?_, fun y hy => ?_⟩
          · rw [hlen]
            rcases hm with rfl | ⟨hM, hm⟩
            · omega
            · refine Nat.le_trans ?_ (Nat.le_trans (hM.len _ _) hm)
              simp [hel]
          · simp only [List.mem_map, List.mem_range] at hy
            obtain ⟨i, hi, rfl⟩ := hy
            obtain ⟨ec, _, h2, _⟩ := hF i hi
            exact ⟨_, rfl, h2⟩
        · have hspot : 0 < len → a.spot = none ∧ a.block < w.heap.size := by
            intro h0
            obtain ⟨ec, h1, _⟩ := hF 0 h0
            have h2 := (cells_spec h1).2 0 (by omega)
            rw [Nat.zero_mul] at h2
            exact cell_spot h2
          have hcells : ∀ i, i < len → (F i).length = P.cellsOf e := by
            intro i hi
            obtain ⟨ec, h1, _, h3⟩ := hF i hi
            rw [h3.len, (cells_spec h1).1]
          have hmk : ∀ i, i < len → (mkV P e (F i)).cells = F i := fun i hi => by
            obtain ⟨ec, _, h2, _⟩ := hF i hi
            exact mkV_cells h2
          refine .one ?_ ?_
          · rcases Nat.eq_zero_or_pos len with h0 | h0
            · subst h0
              exact .vs0 _ _
            · have := VR.vs (Φ := fun _ => none) (Z := fun r => r < w.heap.size) (w := w) ((List.range len).map fun i => mkV P e (F i)) a (P.cellsOf e) cap (fun i j => (w.cell? ⟨a.block, a.off + (i * P.cellsOf e + j), none⟩).getD undef) (hspot h0).1 (hspot h0).2 (by omega)
                (fun i hi => by rw [hlen] at hi; rw [hxs i hi, hmk i hi, hcells i hi]) (fun i j hi hj => by
                  rw [hlen] at hi
                  obtain ⟨ec, h1, _⟩ := hF i hi
                  have := (cells_spec h1).2 j hj
                  rw [add_add _ _ _ (hspot h0).1] at this
                  rw [this]; rfl) (fun i j hi hj => by
                  rw [hlen] at hi
                  rw [hxs i hi, hmk i hi]
                  obtain ⟨ec, h1, _, h3⟩ := hF i hi
                  have := (cells_spec h1).2 j hj
                  rw [add_add _ _ _ (hspot h0).1] at this
                  rw [this]
                  exact h3.vr j (by rw [hcells i hi]; exact hj))
              rw [hlen] at this
              exact this
          · refine .vs rfl fun i j hi hj => ?_
            rw [hlen] at hi
            rw [hxs i hi, hmk i hi] at hj ⊢
            obtain ⟨ec, h1, _, h3⟩ := hF i hi
            exact h3.free j hj
    · rename_i fs hu
      rw [Bool.and_eq_true, beq_iff_eq, List.all_eq_true] at hok
      obtain ⟨hlaid, hall⟩ := hok
      obtain ⟨xs, fuel', rfl, rfl, _, hxl, hxs⟩ := DataW.trod_struct hu h
      obtain ⟨_, vs, h1, h2⟩ := fs_typ (M := M) (n := n) (fuel := fuel') (μ := μ) (cs := cs) (fun t cs x a b c d => trod_typ n fuel' t cs x a b c d) fs.toList 0 _ hlaid (fun f hf => by
        refine ⟨hall f hf, ?_⟩
        obtain ⟨i, hi, rfl⟩ := List.getElem_of_mem hf
        have hi' : i < fs.size := by simpa using hi
        have := hxs i fs[i] (Array.getElem?_eq_getElem hi')
        have hix : i < xs.length := by omega
        rw [List.getElem?_eq_getElem hix] at this
        refine ⟨xs[i], by simpa using this, hm.imp id fun ⟨hM, hm⟩ => ⟨hM, Nat.le_trans (hM.part _ _ (List.mem_map.2 ⟨_, List.getElem_mem _, rfl⟩)) hm⟩⟩) (by omega)
      refine ⟨vs, by simpa only [TypN, hu] using h1, ?_⟩
      have e1 : (cs.drop 0).take (P.cellsOf t - 0) = cs := by
        rw [List.drop_zero, Nat.sub_zero, ← hl, List.take_length]
      rwa [e1] at h2
    · cases hok

end
end Go.MW

/- A row of the kind 'it returns true; its arguments read as they did', from what its function does on abstract values. -/
namespace Go.MW
open Go Go.RowKit Go.ChangeShapes Go.WideShapes Go.ChangeAt
set_option linter.unusedVariables false
set_option linter.unusedSimpArgs false

def TypAll (P : Program) (M : Nat) : List TypeId → List V → Prop
  | [], [] => True
  | t :: ts, v :: vs => Typ P M t v ∧ TypAll P M ts vs
  | _, _ => False

/-- A type that an argument may have here. -/
def okA (P : Program) (n : Nat) (t : TypeId) : Bool :=
  okT P n t && (match P.underlying t with | some (.struct _) => true | _ => P.cellsOf t == 1) && P.readableRec t && Nat.blt t P.types.size

section
variable {P : Program} {H : Type} {enc : TypeId × Value → H} {W W' : World} {M : Nat} {μ : DataW H → Nat}

theorem value_open {n base : Nat} {t : TypeId} {v : Value} {d : DataW H} {ps : List MemPlace} {sp : Nat → Bool} (hok : okT P n t = true) (hc : (match P.underlying t with | some (.struct _) => true | _ => P.cellsOf t == 1) = true) (hw : Value.okWide P W .any base t v)
    (h : DataW.Trod enc P W 0 sp true t v d ps) (hm : M = maxLen ∨ Meas μ ∧ μ d ≤ M) : ∃ V, Typ P M t V ∧ VR (fun _ => none) (fun r => r < W.heap.size) W V v ∧ Free true V := by
  obtain ⟨fuel, hf⟩ := h
  by_cases hs : ∃ fs, P.underlying t = some (.struct fs)
  · obtain ⟨fs, hu⟩ := hs
    unfold Value.okWide at hw
    rw [hu] at hw
    obtain ⟨cs, rfl, hsz, _⟩ := hw
    obtain ⟨vs, h1, h2⟩ := trod_typ (M := M) (μ := μ) n fuel t _ _ hok hf hm (by simpa [Value.cells] using hsz)
    refine ⟨.agg vs, ⟨n, vs, by simp [mkV, hu], h1⟩, .agg _ _ ?_ fun i hi => ?_, .agg h2.free⟩
    · have := h2.len; simp [Value.cells] at this; omega
    · have := h2.vr i hi
      simpa [Value.cells, Array.getD_eq_getD_getElem?, List.getD_eq_getElem?_getD] using this
  · have hc1 : P.cellsOf t = 1 := by
      split at hc
      · rename_i fs hu; exact absurd ⟨fs, hu⟩ hs
      · simpa using hc
    have hone : v.cells = #[v] := by
      cases v <;> try rfl
      rename_i cs
      exfalso
      cases n with
      | zero => simp [okT] at hok
      | succ n =>
        unfold okT at hok
        split at hok
        · rename_i hu; simp [Value.okWide, hu, Cell.okWide, Cell.ok] at hw
        · rename_i hu; simp [Value.okWide, hu, Cell.okWide, Cell.ok] at hw
        · rename_i hu; simp [Value.okWide, hu, Cell.okWide, Cell.ok] at hw
        · rename_i hu; simp [Value.okWide, hu, Cell.okWide, Cell.ok] at hw
        · rename_i fs hu; exact hs ⟨fs, hu⟩
        · cases hok
    rw [hone] at hf
    obtain ⟨vs, h1, h2⟩ := trod_typ (M := M) (μ := μ) n fuel t _ _ hok hf hm (by simpa using hc1.symm)
    have hl : vs.length = 1 := by simpa using h2.len
    obtain ⟨x, rfl⟩ := List.length_eq_one_iff.1 hl
    refine ⟨x, ⟨n, [x], ?_, h1⟩, by simpa using h2.vr 0 (by simp), by simpa using h2.free 0 (by simp)⟩
    unfold mkV
    split
    · rename_i fs hu; exact absurd ⟨fs, hu⟩ hs
    · rfl

theorem args_open {n base : Nat} {sp : Nat → Bool} : ∀ (ts : List TypeId) (vs : List Value) (ds : List (DataW H)) (ps : List MemPlace), DataW.TrodAll enc P W 0 sp true ts vs ds ps → (∀ (j : Nat) t v, ts[j]? = some t → vs[j]? = some v → Value.okWide P W .any base t v) →
    ts.all (okA P n) = true → (M = maxLen ∨ Meas μ ∧ ∀ d ∈ ds, μ d ≤ M) → ∃ Vs, TypAll P M ts Vs ∧ Vs.length = vs.length ∧ ds.length = ts.length ∧ ∀ i, i < Vs.length → VR (fun _ => none) (fun r => r < W.heap.size) W (Vs.getD i .junk) (vs.getD i undef) ∧ Free true (Vs.getD i .junk)
  | [], [], [], ps, _, _, _, _ => ⟨[], trivial, rfl, rfl, by simp⟩
  | t :: ts, v :: vs, d :: ds, ps, h, hv, hok, hm => by
    obtain ⟨p, q, h1, h2, rfl⟩ := h
    simp only [List.all_cons, Bool.and_eq_true, okA] at hok
    obtain ⟨⟨⟨⟨h3, h4⟩, _⟩, _⟩, h6⟩ := hok
    obtain ⟨V0, g1, g2, g3⟩ := value_open (M := M) (μ := μ) h3 h4 (hv 0 t v rfl rfl) h1 (hm.imp id fun ⟨a, b⟩ => ⟨a, b d (by simp)⟩)
    obtain ⟨Vs, k1, k2, k3, k4⟩ := args_open ts vs ds q h2 (fun j t v a b => hv (j + 1) t v (by simpa using a) (by simpa using b)) (by simpa [okA] using h6) (hm.imp id fun ⟨a, b⟩ => ⟨a, fun d hd => b d (by simp [hd])⟩)
    refine ⟨V0 :: Vs, ⟨g1, k1⟩, by simp [k2], by simp [k3], fun i hi => ?_⟩
    cases i with
    | zero => exact ⟨g2, g3⟩
    | succ i => simpa using k4 i (by simpa using hi)
  | [], [], _ :: _, _, h, _, _, _ => h.elim
  | [], _ :: _, _, _, h, _, _, _ => h.elim
  | _ :: _, [], _, _, h, _, _, _ => h.elim
  | _ :: _, _ :: _, [], _, h, _, _, _ => h.elim

theorem args_stay {n : Nat} (hl : laidOutB P = true) (hb : Below W.heap.size W W') : ∀ (ts : List TypeId) (vs : List Value) (ds : List (DataW H)) (ps : List MemPlace), DataW.TrodAll enc P W 0 (fun _ => true) true ts vs ds ps → ts.all (okA P n) = true →
    DataW.TrodAll enc P W' 0 (fun b => decide (b < W.heap.size)) true ts vs ds ps
  | [], [], [], ps, h, _ => h
  | t :: ts, v :: vs, d :: ds, ps, h, hok => by
    obtain ⟨p, q, h1, h2, rfl⟩ := h
    simp only [List.all_cons, Bool.and_eq_true, okA] at hok
    obtain ⟨⟨⟨_, h5⟩, h5'⟩, h6⟩ := hok
    refine ⟨p, q, ?_, args_stay hl hb ts vs ds q h2 (by simpa [okA] using h6), rfl⟩
    refine Below.trod hl h5 (Nat.le_of_ble_eq_true h5') h1 hb ?_
    obtain ⟨m, hm⟩ := h1
    exact DataW.trod_lt m _ _ _ hm
  | [], [], _ :: _, _, h, _ => h.elim
  | [], _ :: _, _, _, h, _ => h.elim
  | _ :: _, [], _, _, h, _ => h.elim
  | _ :: _, _ :: _, [], _, h, _ => h.elim

variable {G : Nat → Option (List V)}

/-- A sealed call's run, on values that are told. -/
theorem Does.run {im : Bool} {f : Nat} {args : List V} {rargs : Array Value} {b : Bool} (h : Does P G im f args (.bool b)) (hg : GlobOK G (fun r => r < W.heap.size) W) (ha : VRs (fun _ => none) (fun r => r < W.heap.size) W args rargs) :
    Calls P f rargs W fun e W' => e = .returned (.bool b) ∧ Below W.heap.size W W' := by
  have hrel : Rel G ⟨W.heap.size, fun _ => none⟩ (fun _ => none) (fun r => r < W.heap.size) [] W := ⟨fun b p hp => (by cases hp), fun b b' p p' hp => (by cases hp), fun b p hp => (by cases hp), fun _ h => h, Nat.le_refl _, hg, fun b k hb => (by cases hb)⟩
  refine (h ⟨W.heap.size, fun _ => none⟩ _ _ W rargs hrel ha).mono ?_
  rintro e W' ⟨rv, r0, H', Φ', Z', rfl, hfr, hv, hr', hev⟩
  have : r0 = .bool b := by cases hfr; rfl
  subst this
  obtain rfl := hv.bool_inv
  exact ⟨rfl, hev.below⟩

/-- The row's contract. -/
theorem law_contract {f n : Nat} {fn : Func} {s : ChangeSpec} {tb : TypeId} (hlaid : laidOutB P = true) (hok : fn.params.toList.all (okA P n) = true) (hres : fn.resultTypes = #[tb]) (hb : P.underlying tb = some .bool) (hvars : s.vars = [])
    (hs : ∀ ds : List (DataW H), ds.length = fn.params.size → s.fn H ds = { results := [.lit (.bool true)], args := ds }) {base : Nat} {args : Array Value} {ds gs : List (DataW H)} {before : List MemPlace} (hm : M = maxLen ∨ Meas μ ∧ ∀ d ∈ ds, μ d ≤ M)
    (hg : GlobOK G (fun r => r < W.heap.size) W) (hfn : ∀ Vs, TypAll P M fn.params.toList Vs → (∀ V ∈ Vs, Free true V) → Does P G true f Vs (.bool true))
    (hval : ∀ (j : Nat) t v, fn.params[j]? = some t → args[j]? = some v → Value.okWide P W .any base t v) (hW : DataW.Whole enc P fn.params.toList s.vars false W args.toList ds gs before) :
    Calls P f args W fun e W' => ∃ v, e = .returned v ∧ s.post enc P fn false true false false W args v W' := by
  have hW' := hW
  obtain ⟨p, q, hA, hV, rfl, hfz, hnd⟩ := hW
  obtain ⟨Vs, h1, h2, h3, h4⟩ := args_open (M := M) (μ := μ) (n := n) (base := base) _ _ _ _ hA (fun j t v a b => hval j t v (by simpa using a) (by simpa using b)) hok hm
  have ha : VRs (fun _ => none) (fun r => r < W.heap.size) W Vs args := ⟨by simpa using h2.symm, fun i hi => by
    have := (h4 i hi).1
    simpa [Array.getD_eq_getD_getElem?, List.getD_eq_getElem?_getD] using this⟩
  have hfree : ∀ V ∈ Vs, Free true V := by
    intro V hV'
    obtain ⟨i, hi, rfl⟩ := List.getElem_of_mem hV'
    have := (h4 i hi).2
    simpa [List.getD_eq_getElem?_getD, hi] using this
  refine (Does.run (hfn Vs h1 hfree) hg ha).mono ?_
  rintro e W' ⟨rfl, hbel⟩
  rw [hvars] at hV
  obtain ⟨rfl, rfl⟩ := trodVars_none hV
  have hse := hs ds (by simpa using h3)
  refine ⟨_, rfl, ds, [], p ++ [], [], p, [], hW', ?_, ?_, ?_, hbel.frame _, fun h => by cases h⟩
  · rw [List.append_nil, hse, hres]
    exact trodAll_mk1 ⟨1, by simp [DataW.trod, hb, Value.cells]⟩
  · rw [List.append_nil, hse]
    exact args_stay hlaid hbel _ _ _ _ hA hok
  · rw [List.append_nil, hse, hvars]
    rfl

end
end Go.MW

