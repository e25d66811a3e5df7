/-
  For every input StoreOrder returns true, and each argument reads behind the call as it read before.
  Condition: math/bits.deBruijn64tab reads as the program's text lays it (the card ties it).
-/
import Derived.Test.YtlcbogafgdofgaaDoorRows
import Derived.Test.YtlcbogafgdofgaaDoorCards
import Derived.Test.YtlcbogafgdofgaaDoorTie
import Derived.SevenTiedAt
import Derived.Test.YtlcbogafgdofgaaDoorMwB10
namespace Go.Proofs.YtlcbogafgdofgaaDoor
open Go Go.MW Go.ChangeShapes Go.WideShapes Go.ChangeAt Go.RowKit
set_option linter.unusedVariables false
set_option linter.unusedSimpArgs false

set_option maxRecDepth 100000 in
theorem storeOrder_lifted (os : Os) (started : os.Started) (H : Type) (enc : TypeId × Value → H) :
    ReturnsInHanded {} Tryd.checked os 5 .any (fun w args => (Rows.storeOrderSpec.pre enc Tryd.prog Tryd.f5 [] false w args ∧ laidMetH Tryd.prog laids w) ∧ sizedMet enc Tryd.prog Tryd.f5 (OpenSpec.ofChange Rows.storeOrderSpec) false w args)
      (Rows.storeOrderSpec.post enc Tryd.prog Tryd.f5 false true false false) := by
  refine returnsInHanded_of_change_and (C := Tryd.checked) (X := fun w _ => laidMetH Tryd.prog laids w) (fun _ _ _ hh h => h.of_heap hh) own started (by kernel_rfl) Tryd.func5
    (ChangeSpec.witness_shaped (enc := enc) (C := Tryd.checked) (os := os) (X := fun w _ => laidMetH Tryd.prog laids w) false (World.doorLaid Tryd.prog 400 os) #[.string ⟨#[]⟩, .string ⟨#[]⟩, .string ⟨#[]⟩] 8 rfl (World.shaped_of_RefB (by kernel_rfl) (by kernel_rfl)) (by kernel_rfl) (by kernel_rfl) (by kernel_rfl) (door_met os _)) ?_
  intro W base args ds gs before hval hW _ _ hL _
  refine law_contract (P := Tryd.prog) (G := G0) (n := 6) (M := maxLen) (μ := fun _ => 0) (tb := 4) laidOut (by kernel_rfl) rfl Tryd.underlying4 rfl ?_ (.inl rfl) (of_laid hL) ?_ hval hW
  · intro ds hd
    rw [Tryd.params5] at hd
    rcases ds with _ | ⟨a, _ | ⟨b, _ | ⟨c, _ | ⟨z, ds⟩⟩⟩⟩ <;> first | rfl | (simp at hd)
  · intro Vs hV _
    rw [Tryd.params5] at hV
    obtain ⟨x, y, z, rfl, h1, h2, h3⟩ := typ_three hV
    obtain ⟨a, rfl, _⟩ := typ_string h1
    obtain ⟨b, rfl, _⟩ := typ_string h2
    obtain ⟨c, rfl, _⟩ := typ_string h3
    exact order_fn a b c

theorem storeOrder_holds : Rows.StoreOrderSaid :=
  OpenClaim.holds_of_wide 5 Tryd.f5 rfl rfl rfl rfl rfl rfl rfl ⟨rfl, rfl, rfl, rfl, rfl⟩ rfl rfl rfl rfl rfl (by kernel_rfl) Tryd.func5 (by kernel_rfl)
    (of_decide_eq_true (by kernel_rfl)) (by unfold Func.isWrapper; first | (rw [if_pos (by decide +kernel)]; kernel_rfl) | (rw [if_neg (by decide +kernel)]; exact ⟨rfl, rfl⟩))
    (fun os started H enc _ => storeOrder_lifted os started H enc)

theorem storeOrder_card : Rows.StoreOrderCardSaid :=
  Claim7.holds_tied_plain_at .later [] [.data] true (true, "27df8ddfcb08e7ff90d744abe177b30463be7d05bb4e2e99c5608227897d05eb") false
    storeOrder_holds (fun _ h => by cases h) (by kernel_rfl) (fun _ h => by cases h) storeOrder_row_tie rfl ⟨rfl, rfl⟩ (by kernel_rfl) rfl
    (fun f fn hf hfn => by
      obtain rfl : f = 5 := Option.some.inj ((show Tryd.prog.funcNamed "linhay/linhaylaw12.StoreOrder" = some 5 by kernel_rfl).symm.trans hf) |>.symm
      obtain rfl : fn = Tryd.f5 := (Option.some.inj (Tryd.func5.symm.trans hfn)).symm
      exact ⟨by kernel_rfl, fun j t ht => by
        rw [Tryd.params5] at ht
        have hm : t ∈ [9, 9, 9] := by simpa using Array.mem_of_getElem? ht
        have hall : ([9, 9, 9].all fun u => !Tryd.prog.wantsStandIn u) = true := by kernel_rfl
        exact (show Tryd.prog.wantsStandIn t = false by simpa using List.all_eq_true.1 hall t hm)⟩)
    (by kernel_rfl)
#print axioms storeOrder_card

end Go.Proofs.YtlcbogafgdofgaaDoor
