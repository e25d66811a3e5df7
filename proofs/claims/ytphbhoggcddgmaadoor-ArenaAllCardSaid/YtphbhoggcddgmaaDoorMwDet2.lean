/- What an operation of the small code comes to hangs on its operands alone, and on the blocks that there are. -/
import Derived.Test.YtphbhoggcddgmaaDoorMwDet
namespace Go.MW
open Go Go.RowKit
set_option linter.unusedVariables false
set_option linter.unusedSimpArgs false

section
variable {P : Program} {G : Nat → Option (List V)}

theorem Det.st {f : List Blk → (V → Prop) → Prop} (hf : Det f) {H : List Blk} {K : V → List Blk → Prop} (h : f H (K · H)) : ∃ v, K v H ∧ ∀ T (K' : V → List Blk → Prop), K' v (H ++ T) → f (H ++ T) (K' · (H ++ T)) := by
  obtain ⟨v, h1, h2⟩ := hf H _ h
  exact ⟨v, h1, fun T K' hk => h2 T (K' · (H ++ T)) hk⟩

theorem Det.st0 {f : (V → Prop) → Prop} (hf : Det fun _ => f) {H : List Blk} {K : V → List Blk → Prop} (h : f (K · H)) : ∃ v, K v H ∧ ∀ H2 (K' : V → List Blk → Prop), K' v H2 → f (K' · H2) := by
  obtain ⟨v, h1, h2⟩ := hf H _ h
  exact ⟨v, h1, fun H2 K' hk => h2 [] (K' · H2) hk⟩

theorem Det.map {α β : Type} {f : List Blk → (α → Prop) → Prop} (g : α → β) (hf : Det f) : Det fun H (K : β → Prop) => f H fun a => K (g a) := by
  intro H K h
  obtain ⟨v, h1, h2⟩ := hf H _ h
  exact ⟨g v, h1, fun T K' hk => h2 T _ hk⟩

theorem Det.bind0 {α β : Type} {f : List Blk → (α → Prop) → Prop} {g : α → List Blk → (β → Prop) → Prop} (hf : Det f) (hg : ∀ a, Det (g a)) : Det fun H K => f H fun a => g a H K := by
  intro H K h
  obtain ⟨a, h1, h2⟩ := hf H _ h
  obtain ⟨b, h3, h4⟩ := hg a H K h1
  exact ⟨b, h3, fun T K' hk => h2 T _ (h4 T K' hk)⟩

theorem cviK_det (k : IntKind) (x : V) : Det fun _ => cviK k x := by
  intro H K h
  cases x <;> first | exact h.elim | exact ⟨_, h, fun _ _ hk => hk⟩

theorem eqTK_det (neg : Bool) (ks : List Nat) (x y : V) : Det fun _ => eqTK neg ks x y := by
  intro H K h
  unfold eqTK at h ⊢
  split at h
  · split at h
    · exact ⟨_, h, fun _ _ hk => hk⟩
    · exact h.elim
  · exact h.elim

theorem eqBK_det (neg : Bool) (x y : V) : Det fun _ => eqBK neg x y := by
  intro H K h
  unfold eqBK at h ⊢
  split at h
  · exact ⟨_, h, fun _ _ hk => hk⟩
  · exact h.elim

/-- What touches no memory. -/
theorem stepM_cool {q : Bool} {m : MOp} {fr : Fr} {H : List Blk} {K : V → List Blk → Prop} (hm : m.heat = 0) (h : stepM P G q m fr H K) : ∃ v, K v H ∧ ∀ H2 (K' : V → List Blk → Prop), K' v H2 → stepM P G q m fr H2 K' := by
  cases m <;> simp [MOp.heat] at hm
  case mv x => exact ⟨_, h, fun _ _ hk => hk⟩
  case pick c a b => exact Det.st0 (pickK_det _ _ _) h
  case build z p => exact Det.st0 (Det.map V.agg (partsV_det fr p z)) h
  case nchk x => exact Det.st0 (nchkK_det _) h
  case bin op x y => exact Det.st0 (binK_det op _ _) h
  case eqT neg ks x y => exact Det.st0 (eqTK_det neg ks _ _) h
  case eqB neg x y => exact Det.st0 (eqBK_det neg _ _) h
  case nilq neg x => exact Det.st0 (nilqK_det neg _) h
  case un op x => exact Det.st0 (unK_det op _) h
  case cvi k x =>
    exact Det.st0 (cviK_det k _) h
  case mkf f a b => exact ⟨_, h, fun _ _ hk => hk⟩
  case slS x lo hi => exact Det.st0 (slSK_det _ _ _) h
  case fa off x => exact Det.st0 (faK_det off _) h
  case fld agg off x => exact Det.st0 (fldK_det agg off _) h
  case iaA n sz x i => exact Det.st0 (iaAK_det n sz _ _) h
  case ixA n sz agg x i => exact Det.st0 (ixAK_det n sz agg _ _) h
  case ixS x i => exact Det.st0 (ixSK_det _ _) h
  case ext x i => exact Det.st0 (extK_det _ i) h
  case lenC n => exact ⟨_, h, fun _ _ hk => hk⟩
  case min x y => exact Det.st0 (minK_det true _ _) h
  case max x y => exact Det.st0 (minK_det false _ _) h
  case bad => exact h.elim

/-- What reads alone. -/
theorem stepM_read {q : Bool} {m : MOp} {fr : Fr} {H : List Blk} {K : V → List Blk → Prop} (hm : m.kind = 0) (h : stepM P G q m fr H K) : ∃ v, K v H ∧ ∀ T (K' : V → List Blk → Prop), K' v (H ++ T) → stepM P G q m fr (H ++ T) K' := by
  by_cases h0 : m.heat = 0
  · obtain ⟨v, h1, h2⟩ := stepM_cool h0 h
    exact ⟨v, h1, fun T K' hk => h2 _ K' hk⟩
  cases m <;> simp [MOp.heat, MOp.kind] at hm h0
  case ld agg a => exact ldK_det agg _ H K h
  case b2s x => exact Det.st (Det.and (Det.bind0 (elemsK_det _) fun xs => bytesK_det xs)) h
  case sl sz x lo hi mx => exact Det.st (slK_det sz _ _ _ _) h
  case slA n sz x lo hi mx => exact Det.st (slAK_det n sz _ _ _ _) h
  case ia sz x i => exact Det.st (iaK_det sz _ _) h
  case len k x => exact Det.st (lenK_det k _) h
  case capa => exact h.elim
  case look => exact h.elim

/-- What makes a block. -/
theorem mkM_det {m : MOp} {fr : Fr} {C : (Nat → V) → Blk → Prop} (h : mkM G m fr C) : ∃ r k, C r k ∧ ∀ C' : (Nat → V) → Blk → Prop, C' r k → mkM G m fr C' := by
  cases m <;> simp only [mkM] at h ⊢ <;> try exact h.elim
  case new sz x => exact ⟨_, _, h, fun _ hk => hk⟩
  case box sz x => exact ⟨_, _, h.2.2, fun _ hk => ⟨h.1, h.2.1, hk⟩⟩
  case bslice sz z len p =>
    obtain ⟨xs, h1, h2⟩ := (partsS_det (G := G) fr sz p (List.replicate len z)).same (H := []) h
    exact ⟨_, _, h1, fun C' hk => h2 _ hk⟩
  case s2b x =>
    split at h
    · rename_i s hs
      exact ⟨_, _, h, fun C' hk => hk⟩
    · exact h.elim
  case mks sz b z l c =>
    unfold mksK at h ⊢
    split at h
    · exact ⟨_, _, h.2.2.2.2, fun _ hk => ⟨h.1, h.2.1, h.2.2.1, h.2.2.2.1, hk⟩⟩
    · exact h.elim
  case mkm => exact ⟨_, _, h, fun _ hk => hk⟩

theorem stepM_make {q : Bool} {m : MOp} {fr : Fr} {H : List Blk} {K : V → List Blk → Prop} (hm : m.kind = 1) : stepM P G q m fr H K ↔ mkM G m fr fun r k => K (r H.length) (H ++ [k]) := by
  cases m <;> simp [MOp.kind] at hm <;> rfl

theorem appK_det {sz by_ : Nat} {x : V} {ys : List V} {H : List Blk} {K : V → List Blk → Prop} (h : appK sz by_ x ys H K) : ∃ v H', K v H' ∧ ∀ K' : V → List Blk → Prop, K' v H' → appK sz by_ x ys H K' := by
  obtain ⟨hg, h⟩ := h
  unfold appK
  cases x <;> simp only at h ⊢ <;> try exact h.elim
  · exact ⟨_, _, h.2, fun _ hk => ⟨hg, h.1, hk⟩⟩
  · split at h
    · rename_i hc
      exact ⟨_, _, h, fun _ hk => ⟨hg, by rw [if_pos hc]; exact hk⟩⟩
    · rename_i hc
      exact ⟨_, _, h.2, fun _ hk => ⟨hg, by rw [if_neg hc]; exact ⟨h.1, hk⟩⟩⟩
  · obtain ⟨h1, h2, h⟩ := h
    split at h
    · rename_i hH
      obtain ⟨h3, h4, h5, h6, h⟩ := h
      split at h
      · split at h
        · rename_i hc
          exact ⟨_, _, h.2.2, fun _ hk => ⟨hg, h1, h2, h3, h4, h5, h6, by rw [if_pos hc]; exact ⟨h.1, h.2.1, hk⟩⟩⟩
        · rename_i hc
          exact ⟨_, _, h.2, fun _ hk => ⟨hg, h1, h2, h3, h4, h5, h6, by rw [if_neg hc]; exact ⟨h.1, hk⟩⟩⟩
      · split at h
        · rename_i hc
          exact ⟨_, _, h.2, fun _ hk => ⟨hg, h1, h2, h3, h4, h5, h6, by rw [if_pos hc]; exact ⟨h.1, hk⟩⟩⟩
        · rename_i hc
          exact ⟨_, _, h.2.2.2, fun _ hk => ⟨hg, h1, h2, h3, h4, h5, h6, by rw [if_neg hc]; exact ⟨h.1, h.2.1, h.2.2.1, hk⟩⟩⟩
    · exact h.elim

theorem wrK_det {sz : Nat} {x : V} {ys : List V} {H : List Blk} {K : List Blk → Prop} (h : wrK sz x ys H K) : ∃ H', K H' ∧ ∀ K' : List Blk → Prop, K' H' → wrK sz x ys H K' := by
  obtain ⟨hg, h⟩ := h
  unfold wrK
  cases x <;> simp only at h ⊢ <;> try exact h.elim
  · exact ⟨_, h.2, fun _ hk => ⟨hg, h.1, hk⟩⟩
  · exact ⟨_, h.2, fun _ hk => ⟨hg, h.1, hk⟩⟩
  · obtain ⟨h1, h2, h⟩ := h
    split at h
    · obtain ⟨h3, h4, h⟩ := h
      split at h
      · rename_i hc
        exact ⟨_, h.2, fun _ hk => ⟨hg, h1, h2, h3, h4, by rw [if_pos hc]; exact ⟨h.1, hk⟩⟩⟩
      · rename_i hc
        exact ⟨_, h.2.2.2.2, fun _ hk => ⟨hg, h1, h2, h3, h4, by rw [if_neg hc]; exact ⟨h.1, h.2.1, h.2.2.1, h.2.2.2.1, hk⟩⟩⟩
    · exact h.elim

theorem callK_det {q : Bool} {f : Nat} {args : List V} {H : List Blk} {K : V → List Blk → Prop} (h : callK P G q f args H K) : ∃ v H', K v H' ∧ ∀ K' : V → List Blk → Prop, K' v H' → callK P G q f args H K' := by
  unfold callK at h ⊢
  cases q with
  | true =>
    simp only [if_true] at h ⊢
    obtain ⟨r, h1, h2⟩ := h
    exact ⟨r, H, h2, fun _ hk => ⟨r, h1, hk⟩⟩
  | false =>
    simp only [Bool.false_eq_true, if_false] at h ⊢
    obtain ⟨r, H', h1, h2⟩ := h
    exact ⟨r, H', h2, fun _ hk => ⟨r, H', h1, hk⟩⟩

theorem callK_quiet {f : Nat} {args : List V} {H : List Blk} {K : V → List Blk → Prop} (h : callK P G true f args H K) : ∃ v, K v H ∧ ∀ T (K' : V → List Blk → Prop), K' v (H ++ T) → callK P G true f args (H ++ T) K' := by
  unfold callK at h ⊢
  simp only [if_true] at h ⊢
  obtain ⟨r, h1, h2⟩ := h
  exact ⟨r, h2, fun T _ hk => ⟨r, fun T' => by rw [List.append_assoc]; exact h1 _, hk⟩⟩

/-- What writes, and calls. -/
theorem stepM_write {q : Bool} {m : MOp} {fr : Fr} {H : List Blk} {K : V → List Blk → Prop} (hm : 2 ≤ m.kind) (h : stepM P G q m fr H K) : ∃ v H', K v H' ∧ ∀ K' : V → List Blk → Prop, K' v H' → stepM P G q m fr H K' := by
  cases m <;> simp [MOp.kind] at hm
  case st n a x =>
    simp only [stepM, stK] at h ⊢
    obtain ⟨hg, h⟩ := h
    split at h
    · split at h
      · rename_i b n i j hp _ sz xs opn frz hH
        exact ⟨_, _, h.2.2.2.2, fun K' hk => ⟨hg, h.1, h.2.1, h.2.2.1, h.2.2.2.1, hk⟩⟩
      · exact h.elim
    · exact h.elim
  case app sz b z x y =>
    obtain ⟨ys, h1, h2⟩ := (elemsK_det (ev G fr y)).same (H := H) h
    obtain ⟨v, H', h3, h4⟩ := appK_det h1
    exact ⟨v, H', h3, fun K' hk => h2 _ (h4 K' hk)⟩
  case appZ => exact h.elim
  case cpy sz x y =>
    simp only [stepM] at h ⊢
    obtain ⟨ys, h1, h2⟩ := (elemsK_det (ev G fr y)).same (H := H) h
    obtain ⟨l, h3, h4⟩ := (lenK_det 1 (ev G fr x)).same (H := H) h1
    cases l <;> simp only at h3 <;> try exact h3.elim
    obtain ⟨H', h5, h6⟩ := wrK_det h3
    exact ⟨_, H', h5, fun K' hk => h2 _ (h4 _ (h6 _ hk))⟩
  case clr sz z x =>
    simp only [stepM] at h ⊢
    obtain ⟨l, h3, h4⟩ := (lenK_det 1 (ev G fr x)).same (H := H) h
    cases l <;> simp only at h3 <;> try exact h3.elim
    obtain ⟨H', h5, h6⟩ := wrK_det h3
    exact ⟨_, H', h5, fun K' hk => h4 _ (h6 _ hk)⟩
  case call f as => exact callK_det h
  case callv x as =>
    simp only [stepM, callvK] at h ⊢
    split at h
    · rename_i f first cap hx
      obtain ⟨v, H', h1, h2⟩ := callK_det h.2
      exact ⟨v, H', h1, fun K' hk => ⟨h.1, h2 K' hk⟩⟩
    · exact h.elim
  case mset => exact h.elim
  case mdel => exact h.elim

theorem stepM_quiet {m : MOp} {fr : Fr} {H : List Blk} {K : V → List Blk → Prop} (hm : m.kind = 2) (h : stepM P G true m fr H K) : ∃ v, K v H ∧ ∀ T (K' : V → List Blk → Prop), K' v (H ++ T) → stepM P G true m fr (H ++ T) K' := by
  cases m <;> simp [MOp.kind] at hm
  case call f as => exact callK_quiet h
  case callv x as =>
    simp only [stepM, callvK] at h ⊢
    split at h
    · rename_i f first cap hx
      obtain ⟨v, h1, h2⟩ := callK_quiet h.2
      exact ⟨v, h1, fun T K' hk => ⟨h.1, h2 T K' hk⟩⟩
    · exact h.elim

/-- Every step comes to one value and one heap. -/
theorem stepM_det {q : Bool} {m : MOp} {fr : Fr} {H : List Blk} {K : V → List Blk → Prop} (h : stepM P G q m fr H K) : ∃ v H', K v H' ∧ ∀ K' : V → List Blk → Prop, K' v H' → stepM P G q m fr H K' := by
  rcases hk : m.kind with _ | _ | k
  · obtain ⟨v, h1, h2⟩ := stepM_read hk h
    exact ⟨v, H, h1, fun K' hk => by simpa using h2 [] K' (by simpa using hk)⟩
  · rw [stepM_make hk] at h
    obtain ⟨r, k, h1, h2⟩ := mkM_det h
    exact ⟨_, _, h1, fun K' hk' => by rw [stepM_make hk]; exact h2 _ hk'⟩
  · exact stepM_write (by omega) h

theorem evs_congr {fr fr' : Fr} {xs : List Opd} (h : ∀ x ∈ xs, ev G fr x = ev G fr' x) : evs G fr xs = evs G fr' xs := List.map_congr_left h

theorem partsV_congr {fr fr' : Fr} : ∀ {l : List (Nat × Nat × Opd)} {z : List V} {K : List V → Prop}, (∀ x ∈ l.map (·.2.2), ev G fr x = ev G fr' x) → partsV G fr z l K = partsV G fr' z l K
  | [], z, K, _ => rfl
  | (off, sz, x) :: l, z, K, h => by
    simp only [partsV]
    rw [h x (by simp), partsV_congr (l := l) fun y hy => h y (by simp at hy ⊢; exact .inr hy)]

theorem partsS_congr {fr fr' : Fr} {sz : Nat} : ∀ {l : List (Nat × Opd)} {z : List V} {K : List V → Prop}, (∀ x ∈ l.map (·.2), ev G fr x = ev G fr' x) → partsS G fr sz z l K = partsS G fr' sz z l K
  | [], z, K, _ => rfl
  | (i, x) :: l, z, K, h => by
    simp only [partsS]
    rw [h x (by simp), partsS_congr (l := l) fun y hy => h y (by simp at hy ⊢; exact .inr hy)]

theorem optm_congr {fr fr' : Fr} {x : Option Opd} (h : ∀ y ∈ x.toList, ev G fr y = ev G fr' y) : x.map (ev G fr) = x.map (ev G fr') := by
  cases x with
  | none => rfl
  | some y => simp [h y (by simp)]

theorem stepM_congr {q : Bool} {m : MOp} {fr fr' : Fr} {H : List Blk} {K : V → List Blk → Prop} (h : ∀ x ∈ m.opds, ev G fr x = ev G fr' x) : stepM P G q m fr H K = stepM P G q m fr' H K := by
  cases m <;> simp only [MOp.opds] at h <;> simp only [stepM, mkM]
  case build z p => rw [partsV_congr h]
  case bslice sz z len p => rw [partsS_congr h]
  case mkf f a b => rw [evs_congr fun x hx => h x (by simp [hx]), evs_congr (xs := b) fun x hx => h x (by simp [hx])]
  case slS x lo hi => rw [h x (by simp), optm_congr fun y hy => h y (by simp at hy; simp [hy]), optm_congr (x := hi) fun y hy => h y (by simp at hy; simp [hy])]
  case sl sz x lo hi mx => rw [h x (by simp), optm_congr fun y hy => h y (by simp at hy; simp [hy]), optm_congr (x := hi) fun y hy => h y (by simp at hy; simp [hy]), optm_congr (x := mx) fun y hy => h y (by simp at hy; simp [hy])]
  case slA n sz x lo hi mx => rw [h x (by simp), optm_congr fun y hy => h y (by simp at hy; simp [hy]), optm_congr (x := hi) fun y hy => h y (by simp at hy; simp [hy]), optm_congr (x := mx) fun y hy => h y (by simp at hy; simp [hy])]
  case call f as => rw [evs_congr h]
  case callv x as => rw [h x (by simp), evs_congr fun y hy => h y (by simp [hy])]
  all_goals (simp only [List.mem_cons, List.not_mem_nil, or_false, forall_eq_or_imp, forall_eq] at h; simp only [h])

theorem mkM_congr {m : MOp} {fr fr' : Fr} {C : (Nat → V) → Blk → Prop} (h : ∀ x ∈ m.opds, ev G fr x = ev G fr' x) : mkM G m fr C = mkM G m fr' C := by
  cases m <;> simp only [MOp.opds] at h <;> simp only [mkM]
  case bslice sz z len p => rw [partsS_congr h]
  all_goals (simp only [List.mem_cons, List.not_mem_nil, or_false, forall_eq_or_imp, forall_eq] at h; simp only [h])

end
end Go.MW
