/-
  For every input ArenaAll returns true, and each argument reads behind the call as it read before.
  Condition: math/bits.deBruijn64tab reads as the program's text lays it (the card ties it).
-/
import Derived.Test.YtphbhoggcddgmaaDoorRows
import Derived.Test.YtphbhoggcddgmaaDoorCards
import Derived.Test.YtphbhoggcddgmaaDoorTie
import Derived.Test.YtphbhoggcddgmaaDoorMwTypAr
import Derived.Test.YtphbhoggcddgmaaDoorMwArA2
import Derived.SevenTiedAt
namespace Go.Proofs.YtphbhoggcddgmaaDoor
open Go Go.MW Go.ChangeShapes Go.WideShapes Go.ChangeAt Go.RowKit
set_option linter.unusedVariables false
set_option linter.unusedSimpArgs false

theorem typN_act {M n : Nat} {cs : List V} (h : TypN Tryd.prog M n 42 cs) : ∃ a, mkV Tryd.prog 42 cs = actE.f a ∧ True := by
  obtain ⟨m, h⟩ := typN_fs Tryd.underlying42 h
  obtain ⟨a, b, rfl, h1, h⟩ := typFs_cons h
  obtain ⟨c, d, rfl, h2, h⟩ := typFs_cons h
  obtain rfl := typFs_nil h
  obtain ⟨x, rfl⟩ := typN_bool Tryd.underlying4 h1
  obtain ⟨y, rfl, hy⟩ := typN_int Tryd.underlying3 h2
  exact ⟨(x, y), by simp [mkV, Tryd.underlying42, actE], trivial⟩
theorem typ_acts {M : Nat} {v : V} (h : Typ Tryd.prog M 37 v) : ∃ l, IsE actE v l ∧ l.length ≤ M := by
  obtain ⟨l, h1, _, h2⟩ := typ_list (e := actE) (Q := fun _ => True) Tryd.underlying37 (fun _ _ h => typN_act h) h
  exact ⟨l, h1, h2⟩

set_option maxRecDepth 100000 in
theorem arenaAll_lifted (os : Os) (started : os.Started) (H : Type) (enc : TypeId × Value → H) :
    ReturnsInHanded {} Tryd.checked os 4 .any (fun w args => (Rows.arenaAllSpec.pre enc Tryd.prog Tryd.f4 [] false w args ∧ laidMetH Tryd.prog laids w) ∧ sizedMet enc Tryd.prog Tryd.f4 (OpenSpec.ofChange Rows.arenaAllSpec) false w args)
      (Rows.arenaAllSpec.post enc Tryd.prog Tryd.f4 false true false false) := by
  refine returnsInHanded_of_change_and (C := Tryd.checked) (X := fun w _ => laidMetH Tryd.prog laids w) (fun _ _ _ hh h => h.of_heap hh) own started (by kernel_rfl) Tryd.func4
    (ChangeSpec.witness_shaped (enc := enc) (C := Tryd.checked) (os := os) (X := fun w _ => laidMetH Tryd.prog laids w) false (World.doorLaid Tryd.prog 400 os) #[.int .u8 0, .slice none 0 0] 8 rfl (World.shaped_of_RefB (by kernel_rfl) (by kernel_rfl)) (by kernel_rfl) (by kernel_rfl) (by kernel_rfl) (door_met os _)) ?_
  intro W base args ds gs before hval hW _ _ hL _
  refine law_contract (P := Tryd.prog) (G := G0) (n := 6) (M := maxLen) (μ := fun _ => 0) (tb := 4) laidOut (by kernel_rfl) rfl Tryd.underlying4 rfl ?_ (.inl rfl) (of_laid hL) ?_ hval hW
  · intro ds hd
    rw [Tryd.params4] at hd
    rcases ds with _ | ⟨a, _ | ⟨b, _ | ⟨z, ds⟩⟩⟩ <;> first | rfl | (simp at hd)
  · intro Vs hV _
    rw [Tryd.params4] at hV
    obtain ⟨v, x, rfl, h1, h2⟩ := typ_two hV
    obtain ⟨s, rfl, hs⟩ := typ_int Tryd.underlying5 h1
    obtain ⟨s, rfl, hs'⟩ := u8_nat hs
    obtain ⟨l, iv, _⟩ := typ_acts h2
    exact all_ok s hs' iv

theorem arenaAll_holds : Rows.ArenaAllSaid :=
  OpenClaim.holds_of_wide 4 Tryd.f4 rfl rfl rfl rfl rfl rfl rfl ⟨rfl, rfl, rfl, rfl, rfl⟩ rfl rfl rfl rfl rfl (by kernel_rfl) Tryd.func4 (by kernel_rfl)
    (of_decide_eq_true (by kernel_rfl)) (by unfold Func.isWrapper; first | (rw [if_pos (by decide +kernel)]; kernel_rfl) | (rw [if_neg (by decide +kernel)]; exact ⟨rfl, rfl⟩))
    (fun os started H enc _ => arenaAll_lifted os started H enc)

theorem arenaAll_card : Rows.ArenaAllCardSaid :=
  Claim7.holds_tied_plain_at .later [] [.data] true (true, "89e1882a575d7a5daa339bb1b3ea73910952d47422028d82df269bd4f5741b59") false
    arenaAll_holds (fun _ h => by cases h) (by kernel_rfl) (fun _ h => by cases h) arenaAll_row_tie rfl ⟨rfl, rfl⟩ (by kernel_rfl) rfl
    (fun f fn hf hfn => by
      obtain rfl : f = 4 := Option.some.inj ((show Tryd.prog.funcNamed "linhay/linhaylaw11.ArenaAll" = some 4 by kernel_rfl).symm.trans hf) |>.symm
      obtain rfl : fn = Tryd.f4 := (Option.some.inj (Tryd.func4.symm.trans hfn)).symm
      exact ⟨by kernel_rfl, fun j t ht => by
        rw [Tryd.params4] at ht
        have hm : t ∈ [5, 37] := by simpa using Array.mem_of_getElem? ht
        have hall : ([5, 37].all fun u => !Tryd.prog.wantsStandIn u) = true := by kernel_rfl
        exact (show Tryd.prog.wantsStandIn t = false by simpa using List.all_eq_true.1 hall t hm)⟩)
    (by kernel_rfl)
#print axioms arenaAll_card

end Go.Proofs.YtphbhoggcddgmaaDoor
