/-
  For every input StoreNone returns true, and each argument reads behind the call as it read before.
  Condition: math/bits.deBruijn64tab reads as the program's text lays it (the card ties it).
-/
import Derived.Test.YtbkcfhchmjdgpaaDoorRows
import Derived.Test.YtbkcfhchmjdgpaaDoorCards
import Derived.Test.YtbkcfhchmjdgpaaDoorTie
import Derived.SevenTiedAt
import Derived.Test.YtbkcfhchmjdgpaaDoorMwB8
namespace Go.Proofs.YtbkcfhchmjdgpaaDoor
open Go Go.MW Go.ChangeShapes Go.WideShapes Go.ChangeAt Go.RowKit
set_option linter.unusedVariables false
set_option linter.unusedSimpArgs false

set_option maxRecDepth 100000 in
theorem storeNone_lifted (os : Os) (started : os.Started) (H : Type) (enc : TypeId × Value → H) :
    ReturnsInHanded {} Tryd.checked os 4 .any (fun w args => (Rows.storeNoneSpec.pre enc Tryd.prog Tryd.f4 [] false w args ∧ laidMetH Tryd.prog laids w) ∧ sizedMet enc Tryd.prog Tryd.f4 (OpenSpec.ofChange Rows.storeNoneSpec) false w args)
      (Rows.storeNoneSpec.post enc Tryd.prog Tryd.f4 false true false false) := by
  refine returnsInHanded_of_change_and (C := Tryd.checked) (X := fun w _ => laidMetH Tryd.prog laids w) (fun _ _ _ hh h => h.of_heap hh) own started (by kernel_rfl) Tryd.func4
    (ChangeSpec.witness_shaped (enc := enc) (C := Tryd.checked) (os := os) (X := fun w _ => laidMetH Tryd.prog laids w) false (World.doorLaid Tryd.prog 400 os) #[.agg #[.slice none 0 0, .string ⟨#[]⟩], .slice none 0 0, .int .i64 0] 8 rfl (World.shaped_of_RefB (by kernel_rfl) (by kernel_rfl)) (by kernel_rfl) (by kernel_rfl) (by kernel_rfl) (door_met os _)) ?_
  intro W base args ds gs before hval hW _ _ hL _
  refine law_contract (P := Tryd.prog) (G := G0) (n := 6) (M := maxLen) (μ := fun _ => 0) (tb := 4) laidOut (by kernel_rfl) rfl Tryd.underlying4 rfl ?_ (.inl rfl) (of_laid hL) ?_ hval hW
  · intro ds hd
    rw [Tryd.params4] at hd
    rcases ds with _ | ⟨a, _ | ⟨b, _ | ⟨c, _ | ⟨z, ds⟩⟩⟩⟩ <;> first | rfl | (simp at hd)
  · intro Vs hV _
    rw [Tryd.params4] at hV
    obtain ⟨v, y, z, rfl, h1, h3, h4⟩ := typ_three hV
    obtain ⟨w, l, b, rfl, iv, hl, hn, hb⟩ := typ_store h1
    obtain ⟨xs, ix, _⟩ := typ_slots h3
    obtain ⟨c, rfl, _⟩ := typ_int Tryd.underlying3 h4
    exact none_fn iv hl ix c

theorem storeNone_holds : Rows.StoreNoneSaid :=
  OpenClaim.holds_of_wide 4 Tryd.f4 rfl rfl rfl rfl rfl rfl rfl ⟨rfl, rfl, rfl, rfl, rfl⟩ rfl rfl rfl rfl rfl (by kernel_rfl) Tryd.func4 (by kernel_rfl)
    (of_decide_eq_true (by kernel_rfl)) (by unfold Func.isWrapper; first | (rw [if_pos (by decide +kernel)]; kernel_rfl) | (rw [if_neg (by decide +kernel)]; exact ⟨rfl, rfl⟩))
    (fun os started H enc _ => storeNone_lifted os started H enc)

theorem storeNone_card : Rows.StoreNoneCardSaid :=
  Claim7.holds_tied_plain_at .later [] [.data] true (true, "27df8ddfcb08e7ff90d744abe177b30463be7d05bb4e2e99c5608227897d05eb") false
    storeNone_holds (fun _ h => by cases h) (by kernel_rfl) (fun _ h => by cases h) storeNone_row_tie rfl ⟨rfl, rfl⟩ (by kernel_rfl) rfl
    (fun f fn hf hfn => by
      obtain rfl : f = 4 := Option.some.inj ((show Tryd.prog.funcNamed "linhay/linhaylaw12.StoreNone" = some 4 by kernel_rfl).symm.trans hf) |>.symm
      obtain rfl : fn = Tryd.f4 := (Option.some.inj (Tryd.func4.symm.trans hfn)).symm
      exact ⟨by kernel_rfl, fun j t ht => by
        rw [Tryd.params4] at ht
        have hm : t ∈ [24, 25, 3] := by simpa using Array.mem_of_getElem? ht
        have hall : ([24, 25, 3].all fun u => !Tryd.prog.wantsStandIn u) = true := by kernel_rfl
        exact (show Tryd.prog.wantsStandIn t = false by simpa using List.all_eq_true.1 hall t hm)⟩)
    (by kernel_rfl)
#print axioms storeNone_card

end Go.Proofs.YtbkcfhchmjdgpaaDoor
