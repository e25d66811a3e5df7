/- Class: plain laws of the cut. -/
import Derived.Test.YtfpdkikhigffoaaMwClL
namespace Go.Proofs.Ytfpdkikhigffoaa
open Go Go.MW
set_option linter.unusedSimpArgs false
set_option linter.unusedVariables false

/-- The sum of the bytes of slots. -/
def rsum : List Int → Int
  | [] => 0
  | c :: l => byts c + rsum l

theorem byts_range (c : Int) : 0 ≤ byts c ∧ byts c ≤ 64 := by
  rcases byts_cases c with ⟨h, _⟩ | ⟨h, _⟩ | ⟨h, _⟩ | ⟨h, _⟩ | h <;> omega

theorem rsum_range : ∀ l : List Int, 0 ≤ rsum l ∧ rsum l ≤ 64 * l.length
  | [] => by simp [rsum]
  | c :: l => by
    have := rsum_range l
    have := byts_range c
    simp only [rsum, List.length_cons]
    omega

theorem rsum_append : ∀ l m : List Int, rsum (l ++ m) = rsum l + rsum m
  | [], m => by simp [rsum]
  | c :: l, m => by
    simp only [List.cons_append, rsum, rsum_append l m]
    omega

theorem room_acc : ∀ (l : List Int) (a : Int), 0 ≤ a → a + 64 * l.length < 2 ^ 62 → l.foldl (fun a c => IntKind.i64.wrap (a + byts c)) a = a + rsum l
  | [], a, _, _ => by simp [rsum]
  | c :: l, a, h0, h1 => by
    have hb := byts_range c
    simp only [List.length_cons] at h1
    simp only [List.foldl_cons, rsum]
    rw [wrap64 (by omega) (by omega), room_acc l _ (by omega) (by omega)]
    omega

theorem room_rsum {l : List Int} (h : l.length < 2 ^ 50) : room l = rsum l := by
  unfold room
  rw [room_acc l 0 (by omega) (by omega)]
  omega

theorem rsum_rep : ∀ k : Nat, rsum (List.replicate k 3) = 64 * k
  | 0 => by simp [rsum]
  | k + 1 => by
    have : byts 3 = 64 := by decide
    simp only [List.replicate_succ, rsum, rsum_rep k, this]
    omega

theorem fit_cases {r : Int} (h : 1 ≤ r ∧ r ≤ 64) : (fit r = 0 ∧ r ≤ 8 ∧ byts (fit r) = 8) ∨ (fit r = 1 ∧ 9 ≤ r ∧ r ≤ 16 ∧ byts (fit r) = 16) ∨ (fit r = 2 ∧ 17 ≤ r ∧ r ≤ 32 ∧ byts (fit r) = 32) ∨ (fit r = 3 ∧ 33 ≤ r ∧ r ≤ 64 ∧ byts (fit r) = 64) := by
  unfold fit
  have h0 : byts 0 = 8 := by decide
  have h1 : byts 1 = 16 := by decide
  have h2 : byts 2 = 32 := by decide
  have h3 : byts 3 = 64 := by decide
  (repeat' split) <;> omega

/-- What an object's slots are, told by quotient and rest. -/
theorem cut_spec {n : Int} (h : 1 ≤ n ∧ n ≤ 4096) : ∃ q : Nat, (q : Int) = n / 64 ∧ q ≤ 64 ∧ ((0 < n % 64 ∧ cut n = List.replicate q 3 ++ [fit (n % 64)]) ∨ (n % 64 = 0 ∧ 1 ≤ q ∧ cut n = List.replicate q 3)) := by
  refine ⟨(n / 64).toNat, by omega, by omega, ?_⟩
  unfold cut
  split
  · rename_i h1; exact .inl ⟨h1, rfl⟩
  · rename_i h1; exact .inr ⟨by omega, by omega, by simp⟩

theorem cut_room {n : Int} (h : 1 ≤ n ∧ n ≤ 4096) : room (cut n) = 64 * (n / 64) + (if 0 < n % 64 then byts (fit (n % 64)) else 0) ∧ (cut n).length = (n / 64).toNat + (if 0 < n % 64 then 1 else 0) := by
  obtain ⟨q, hq, hq2, ⟨h1, h2⟩ | ⟨h1, h3, h2⟩⟩ := cut_spec h
  · rw [h2, if_pos h1, if_pos h1, room_rsum (by simp; omega), rsum_append, rsum_rep]
    simp [rsum]
    omega
  · rw [h2, if_neg (by omega), if_neg (by omega), room_rsum (by simp; omega), rsum_rep]
    simp
    omega

end Go.Proofs.Ytfpdkikhigffoaa
