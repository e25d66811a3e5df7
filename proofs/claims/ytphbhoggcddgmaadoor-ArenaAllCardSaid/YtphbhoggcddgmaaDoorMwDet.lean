/- Each operation of the small code comes to one value, whatever stands behind the heap. -/
import Derived.Test.YtphbhoggcddgmaaDoorMwWp
namespace Go.MW
open Go Go.RowKit
set_option linter.unusedVariables false
set_option linter.unusedSimpArgs false

/-- It comes to one value, the same one on a heap with more blocks behind. -/
def Det {α : Type} (f : List Blk → (α → Prop) → Prop) : Prop := ∀ H K, f H K → ∃ v, K v ∧ ∀ T K', K' v → f (H ++ T) K'

theorem Det.same {α : Type} {f : List Blk → (α → Prop) → Prop} (h : Det f) {H : List Blk} {K : α → Prop} (hf : f H K) : ∃ v, K v ∧ ∀ K', K' v → f H K' := by
  obtain ⟨v, h1, h2⟩ := h H K hf
  exact ⟨v, h1, fun K' hk => by simpa using h2 [] K' hk⟩

theorem getB_app {H T : List Blk} {b : Nat} {sz : Nat} {xs : List V} {opn frz : Bool} (h : getB H b = .row sz xs opn frz) : getB (H ++ T) b = .row sz xs opn frz := by
  have hlt : b < H.length := by
    rcases Nat.lt_or_ge b H.length with h' | h'
    · exact h'
    · simp [getB, List.getD_eq_getElem?_getD, List.getElem?_eq_none h'] at h
  simp only [getB, List.getD_eq_getElem?_getD] at h ⊢
  rw [List.getElem?_append_left hlt]
  exact h

theorem getB_app' {H T : List Blk} {b : Nat} (h : b < H.length) : getB (H ++ T) b = getB H b := by
  simp only [getB, List.getD_eq_getElem?_getD]
  rw [List.getElem?_append_left h]

section
variable {P : Program} {G : Nat → Option (List V)}

theorem nchkK_det (x : V) : Det fun _ => nchkK x := by
  intro H K h
  cases x <;> simp only [nchkK] at h ⊢ <;> first | exact h.elim | exact ⟨_, h, fun _ _ hk => hk⟩ | skip
  rename_i f _ _
  cases f <;> simp only at h ⊢ <;> first | exact h.elim | exact ⟨_, h, fun _ _ hk => hk⟩

theorem binK_det (op : BinOp) (x y : V) : Det fun _ => binK op x y := by
  intro H K h
  cases x <;> cases y <;> cases op <;> simp only [binK] at h ⊢ <;> first | exact h.elim | exact ⟨_, h, fun _ _ hk => hk⟩ | exact ⟨_, h.2, fun _ _ hk => ⟨h.1, hk⟩⟩ | exact ⟨_, h.2.2, fun _ _ hk => ⟨h.1, h.2.1, hk⟩⟩ | exact ⟨_, h.2.2.2, fun _ _ hk => ⟨h.1, h.2.1, h.2.2.1, hk⟩⟩ | exact ⟨_, h.2.2.2.2, fun _ _ hk => ⟨h.1, h.2.1, h.2.2.1, h.2.2.2.1, hk⟩⟩

theorem unK_det (op : UnOp) (x : V) : Det fun _ => unK op x := by
  intro H K h
  cases op <;> cases x <;> simp only [unK] at h ⊢ <;> first | exact h.elim | exact ⟨_, h, fun _ _ hk => hk⟩ | exact ⟨_, h.2, fun _ _ hk => ⟨h.1, hk⟩⟩ | exact ⟨_, h.2.2, fun _ _ hk => ⟨h.1, h.2.1, hk⟩⟩ | exact ⟨_, h.2.2.2, fun _ _ hk => ⟨h.1, h.2.1, h.2.2.1, hk⟩⟩ | exact ⟨_, h.2.2.2.2, fun _ _ hk => ⟨h.1, h.2.1, h.2.2.1, h.2.2.2.1, hk⟩⟩

theorem faK_det (off : Nat) (x : V) : Det fun _ => faK off x := by
  intro H K h
  cases x <;> simp only [faK] at h ⊢ <;> first | exact h.elim | exact ⟨_, h, fun _ _ hk => hk⟩ | exact ⟨_, h.2, fun _ _ hk => ⟨h.1, hk⟩⟩ | exact ⟨_, h.2.2, fun _ _ hk => ⟨h.1, h.2.1, hk⟩⟩ | exact ⟨_, h.2.2.2, fun _ _ hk => ⟨h.1, h.2.1, h.2.2.1, hk⟩⟩ | exact ⟨_, h.2.2.2.2, fun _ _ hk => ⟨h.1, h.2.1, h.2.2.1, h.2.2.2.1, hk⟩⟩

theorem iaAK_det (n sz : Nat) (x i : V) : Det fun _ => iaAK n sz x i := by
  intro H K h
  cases x <;> cases i <;> simp only [iaAK] at h ⊢ <;> first | exact h.elim | exact ⟨_, h, fun _ _ hk => hk⟩ | exact ⟨_, h.2, fun _ _ hk => ⟨h.1, hk⟩⟩ | exact ⟨_, h.2.2, fun _ _ hk => ⟨h.1, h.2.1, hk⟩⟩ | exact ⟨_, h.2.2.2, fun _ _ hk => ⟨h.1, h.2.1, h.2.2.1, hk⟩⟩ | exact ⟨_, h.2.2.2.2, fun _ _ hk => ⟨h.1, h.2.1, h.2.2.1, h.2.2.2.1, hk⟩⟩

theorem ixAK_det (n sz : Nat) (agg : Bool) (x i : V) : Det fun _ => ixAK n sz agg x i := by
  intro H K h
  cases x <;> cases i <;> simp only [ixAK] at h ⊢ <;> first | exact h.elim | exact ⟨_, h, fun _ _ hk => hk⟩ | exact ⟨_, h.2, fun _ _ hk => ⟨h.1, hk⟩⟩ | exact ⟨_, h.2.2, fun _ _ hk => ⟨h.1, h.2.1, hk⟩⟩ | exact ⟨_, h.2.2.2, fun _ _ hk => ⟨h.1, h.2.1, h.2.2.1, hk⟩⟩ | exact ⟨_, h.2.2.2.2, fun _ _ hk => ⟨h.1, h.2.1, h.2.2.1, h.2.2.2.1, hk⟩⟩

theorem ixSK_det (x i : V) : Det fun _ => ixSK x i := by
  intro H K h
  cases x <;> cases i <;> simp only [ixSK] at h ⊢ <;> first | exact h.elim | exact ⟨_, h, fun _ _ hk => hk⟩ | exact ⟨_, h.2, fun _ _ hk => ⟨h.1, hk⟩⟩ | exact ⟨_, h.2.2, fun _ _ hk => ⟨h.1, h.2.1, hk⟩⟩ | exact ⟨_, h.2.2.2, fun _ _ hk => ⟨h.1, h.2.1, h.2.2.1, hk⟩⟩ | exact ⟨_, h.2.2.2.2, fun _ _ hk => ⟨h.1, h.2.1, h.2.2.1, h.2.2.2.1, hk⟩⟩

theorem extK_det (x : V) (i : Nat) : Det fun _ => (fun K => extK x i K) := by
  intro H K h
  cases x <;> simp only [extK] at h ⊢ <;> first | exact h.elim | exact ⟨_, h, fun _ _ hk => hk⟩ | exact ⟨_, h.2, fun _ _ hk => ⟨h.1, hk⟩⟩ | exact ⟨_, h.2.2, fun _ _ hk => ⟨h.1, h.2.1, hk⟩⟩ | exact ⟨_, h.2.2.2, fun _ _ hk => ⟨h.1, h.2.1, h.2.2.1, hk⟩⟩ | exact ⟨_, h.2.2.2.2, fun _ _ hk => ⟨h.1, h.2.1, h.2.2.1, h.2.2.2.1, hk⟩⟩

theorem pickK_det (c a b : V) : Det fun _ => pickK c a b := by
  intro H K h
  cases c <;> simp only [pickK] at h ⊢ <;> first | exact h.elim | exact ⟨_, h, fun _ _ hk => hk⟩ | exact ⟨_, h.2, fun _ _ hk => ⟨h.1, hk⟩⟩ | exact ⟨_, h.2.2, fun _ _ hk => ⟨h.1, h.2.1, hk⟩⟩ | exact ⟨_, h.2.2.2, fun _ _ hk => ⟨h.1, h.2.1, h.2.2.1, hk⟩⟩ | exact ⟨_, h.2.2.2.2, fun _ _ hk => ⟨h.1, h.2.1, h.2.2.1, h.2.2.2.1, hk⟩⟩

theorem minK_det (lt : Bool) (x y : V) : Det fun _ => minK lt x y := by
  intro H K h
  cases x <;> cases y <;> simp only [minK] at h ⊢ <;> first | exact h.elim | exact ⟨_, h, fun _ _ hk => hk⟩ | exact ⟨_, h.2, fun _ _ hk => ⟨h.1, hk⟩⟩ | exact ⟨_, h.2.2, fun _ _ hk => ⟨h.1, h.2.1, hk⟩⟩ | exact ⟨_, h.2.2.2, fun _ _ hk => ⟨h.1, h.2.1, h.2.2.1, hk⟩⟩ | exact ⟨_, h.2.2.2.2, fun _ _ hk => ⟨h.1, h.2.1, h.2.2.1, h.2.2.2.1, hk⟩⟩

theorem fldK_det (agg : Option Nat) (off : Nat) (x : V) : Det fun _ => fldK agg off x := by
  intro H K h
  cases x <;> cases agg <;> simp only [fldK] at h ⊢ <;> first | exact h.elim | exact ⟨_, h, fun _ _ hk => hk⟩ | exact ⟨_, h.2, fun _ _ hk => ⟨h.1, hk⟩⟩ | exact ⟨_, h.2.2, fun _ _ hk => ⟨h.1, h.2.1, hk⟩⟩ | exact ⟨_, h.2.2.2, fun _ _ hk => ⟨h.1, h.2.1, h.2.2.1, hk⟩⟩ | exact ⟨_, h.2.2.2.2, fun _ _ hk => ⟨h.1, h.2.1, h.2.2.1, h.2.2.2.1, hk⟩⟩

theorem nilqK_det (neg : Bool) (x : V) : Det fun _ => nilqK neg x := by
  intro H K h
  cases x <;> simp only [nilqK] at h ⊢ <;> first | exact h.elim | exact ⟨_, h, fun _ _ hk => hk⟩

theorem bnd_det (d : Nat) (x : Option V) : Det fun _ => bnd d x := by
  intro H K h
  rcases x with _ | x
  · exact ⟨_, h, fun _ _ hk => hk⟩
  · cases x <;> simp only [bnd] at h ⊢ <;> first | exact h.elim | exact ⟨_, h, fun _ _ hk => hk⟩ | exact ⟨_, h.2, fun _ _ hk => ⟨h.1, hk⟩⟩ | exact ⟨_, h.2.2, fun _ _ hk => ⟨h.1, h.2.1, hk⟩⟩ | exact ⟨_, h.2.2.2, fun _ _ hk => ⟨h.1, h.2.1, h.2.2.1, hk⟩⟩ | exact ⟨_, h.2.2.2.2, fun _ _ hk => ⟨h.1, h.2.1, h.2.2.1, h.2.2.2.1, hk⟩⟩

/-- One behind another. -/
theorem Det.bind {α β : Type} {f : List Blk → (α → Prop) → Prop} {g : α → List Blk → (β → Prop) → Prop} {C : α → Prop} (hf : Det f) (hg : ∀ a, Det (g a)) : Det fun H K => f H fun a => C a ∧ g a H K := by
  intro H K h
  obtain ⟨a, h1, h2⟩ := hf H _ h
  obtain ⟨b, h3, h4⟩ := hg a H K h1.2
  exact ⟨b, h3, fun T K' hk => h2 T _ ⟨h1.1, h4 T K' hk⟩⟩

theorem Det.ret {α : Type} (v : α) : Det fun (_ : List Blk) (K : α → Prop) => K v := fun H K h => ⟨v, h, fun _ _ hk => hk⟩

theorem Det.and {α : Type} {C : Prop} {f : List Blk → (α → Prop) → Prop} (hf : Det f) : Det fun H K => C ∧ f H K := by
  intro H K h
  obtain ⟨b, h3, h4⟩ := hf H K h.2
  exact ⟨b, h3, fun T K' hk => ⟨h.1, h4 T K' hk⟩⟩

theorem Det.ite {α : Type} {c : Prop} [Decidable c] {f g : List Blk → (α → Prop) → Prop} (hf : Det f) (hg : Det g) : Det fun H K => if c then f H K else g H K := by
  by_cases h : c
  · simp only [if_pos h]; exact hf
  · simp only [if_neg h]; exact hg

theorem Det.no {α : Type} : Det fun (_ : List Blk) (_ : α → Prop) => False := fun H K h => h.elim

theorem slSK_det (x : V) (lo hi : Option V) : Det fun _ => slSK x lo hi := by
  cases x <;> try exact Det.no
  rename_i s
  have := Det.bind (C := fun h => h ≤ s.length) (bnd_det s.length hi) fun h => Det.bind (C := fun l => l ≤ h) (bnd_det 0 lo) fun l => Det.ret (V.str ((s.drop l).take (h - l)))
  exact this

theorem ldK_det (agg : Option Nat) (a : V) : ∀ H (K : V → List Blk → Prop), ldK agg a H K → ∃ v, K v H ∧ ∀ T (K' : V → List Blk → Prop), K' v (H ++ T) → ldK agg a (H ++ T) K' := by
  intro H K h
  cases a <;> simp only [ldK] at h ⊢ <;> try exact h.elim
  · cases agg <;> exact ⟨_, h.2, fun _ _ hk => ⟨h.1, hk⟩⟩
  · split at h
    · rename_i hH
      obtain ⟨h1, h2, h3⟩ := h
      cases agg with
      | none => exact ⟨_, h3.2, fun T K' hk => by rw [getB_app hH]; exact ⟨h1, h2, h3.1, hk⟩⟩
      | some m => exact ⟨_, h3.2, fun T K' hk => by rw [getB_app hH]; exact ⟨h1, h2, h3.1, hk⟩⟩
    · exact h.elim

theorem elemsK_det (x : V) : Det fun H => elemsK H x := by
  intro H K h
  cases x <;> simp only [elemsK] at h ⊢ <;> try exact h.elim
  · exact ⟨_, h, fun _ _ hk => hk⟩
  · exact ⟨_, h, fun _ _ hk => hk⟩
  · exact ⟨_, h, fun _ _ hk => hk⟩
  · split at h
    · rename_i hH
      obtain ⟨h1, h2⟩ := h
      split at h2
      · rename_i hc
        refine ⟨_, h2.2, fun T K' hk => ?_⟩
        rw [getB_app hH]
        exact ⟨h1, by rw [if_pos hc]; exact ⟨h2.1, hk⟩⟩
      · rename_i hc
        refine ⟨_, h2.2.2.2.2, fun T K' hk => ?_⟩
        rw [getB_app hH]
        exact ⟨h1, by rw [if_neg hc]; exact ⟨h2.1, h2.2.1, h2.2.2.1, h2.2.2.2.1, hk⟩⟩
    · exact h.elim

theorem lenK_det (k : Nat) (x : V) : Det fun H => lenK k H x := by
  intro H K h
  rcases k with _ | _ | _ | k <;> cases x <;> simp only [lenK] at h ⊢ <;> try exact h.elim
  · exact ⟨_, h, fun _ _ hk => hk⟩
  · exact ⟨_, h, fun _ _ hk => hk⟩
  · exact ⟨_, h, fun _ _ hk => hk⟩
  · exact ⟨_, h, fun _ _ hk => hk⟩
  · obtain ⟨h1, h2⟩ := h
    split at h2
    · rename_i hH
      refine ⟨_, h2, fun T K' hk => ⟨by rw [List.length_append]; omega, ?_⟩⟩
      rw [getB_app' h1, hH]
      exact hk
    · exact h2.elim

theorem slHK_det (b n i j : Nat) (cap : Option Nat) (sz l h : Nat) : Det fun H => slHK H b n i j cap sz l h := by
  intro H K hh
  unfold slHK at hh
  split at hh
  · rename_i rsz xs opn frz hH
    obtain ⟨h1, h2⟩ := hh
    have e : ∀ T K', (slHK (H ++ T) b n i j cap sz l h K' ↔ (xs.length = n ∧ if l = 0 then K' (.hs b n i j h cap sz)
      else (if l = h ∧ (cap = some l ∨ cap = none) then K' (.vs [])
      else K' (if rsz = sz then .hs b n (i + l) j (h - l) (cap.map (· - l)) sz else .hs b n i (j + l * sz) (h - l) (cap.map (· - l)) sz)))) := by
      intro T K'
      unfold slHK
      rw [getB_app hH]
    split at h2
    · rename_i hc
      exact ⟨_, h2, fun T K' hk => by show slHK (H ++ T) b n i j cap sz l h K'; rw [e, if_pos hc]; exact ⟨h1, hk⟩⟩
    · rename_i hc
      split at h2
      · rename_i hc2
        exact ⟨_, h2, fun T K' hk => by show slHK (H ++ T) b n i j cap sz l h K'; rw [e, if_neg hc, if_pos hc2]; exact ⟨h1, hk⟩⟩
      · rename_i hc2
        exact ⟨_, h2, fun T K' hk => by show slHK (H ++ T) b n i j cap sz l h K'; rw [e, if_neg hc, if_neg hc2]; exact ⟨h1, hk⟩⟩
  · exact hh.elim

theorem slK_det (sz : Nat) (x : V) (lo hi mx : Option V) : Det fun H => slK H sz x lo hi mx := by
  refine Det.and (f := fun H K => _) ?_
  cases x <;> try exact Det.no
  · rename_i xs
    exact Det.and (Det.bind (C := fun m => m ≤ xs.length) (bnd_det _ _) fun m => Det.bind (C := fun h => h ≤ m) (bnd_det _ _) fun h => Det.bind (C := fun l => l ≤ h) (bnd_det _ _) fun l => Det.ret (V.vs ((xs.drop l).take (h - l))))
  · exact Det.bind (bnd_det _ _) fun m => Det.bind (bnd_det _ _) fun h => Det.bind (bnd_det _ _) fun l => Det.ret _
  · refine Det.and ?_
    rcases mx with _ | mx <;> rename_i cap _ <;> cases cap
    · exact Det.bind (bnd_det _ _) fun h => Det.bind (bnd_det _ _) fun l => slHK_det _ _ _ _ _ _ _ _
    · exact Det.bind (bnd_det _ _) fun h => Det.bind (bnd_det _ _) fun l => slHK_det _ _ _ _ _ _ _ _
    · exact Det.bind (bnd_det _ _) fun m => Det.bind (bnd_det _ _) fun h => Det.bind (bnd_det _ _) fun l => slHK_det _ _ _ _ _ _ _ _
    · exact Det.bind (bnd_det _ _) fun m => Det.bind (bnd_det _ _) fun h => Det.bind (bnd_det _ _) fun l => slHK_det _ _ _ _ _ _ _ _

theorem slAK_det (n sz : Nat) (x : V) (lo hi mx : Option V) : Det fun H => slAK H n sz x lo hi mx := by
  refine Det.and (f := fun H K => _) ?_
  cases x <;> try exact Det.no
  exact Det.bind (bnd_det _ _) fun m => Det.bind (bnd_det _ _) fun h => Det.bind (bnd_det _ _) fun l => slHK_det _ _ _ _ _ _ _ _

theorem iaK_det (sz : Nat) (x i : V) : Det fun H => iaK H sz x i := by
  intro H K h
  cases x <;> cases i <;> simp only [iaK] at h ⊢ <;> try exact h.elim
  · exact ⟨_, h.2.2.2, fun _ _ hk => ⟨h.1, h.2.1, h.2.2.1, hk⟩⟩
  · obtain ⟨h1, h2, h3, h4⟩ := h
    split at h4
    · rename_i hH
      refine ⟨_, h4.2, fun T K' hk => ⟨h1, h2, h3, ?_⟩⟩
      rw [getB_app hH]
      exact ⟨h4.1, hk⟩
    · exact h4.elim

theorem bytesK_det (xs : List V) : Det fun _ => bytesK xs := by
  rintro H K ⟨s, h1, h2⟩
  exact ⟨_, h2, fun _ _ hk => ⟨s, h1, hk⟩⟩

theorem partsV_det (fr : Fr) : ∀ (l : List (Nat × Nat × Opd)) (z : List V), Det fun _ => partsV G fr z l
  | [], z => Det.ret z
  | (off, sz, x) :: l, z => Det.and (Det.and (partsV_det fr l _))

theorem partsS_det (fr : Fr) (sz : Nat) : ∀ (l : List (Nat × Opd)) (z : List V), Det fun _ => partsS G fr sz z l
  | [], z => Det.ret z
  | (i, x) :: l, z => Det.and (Det.and (partsS_det fr sz l _))

end
end Go.MW
