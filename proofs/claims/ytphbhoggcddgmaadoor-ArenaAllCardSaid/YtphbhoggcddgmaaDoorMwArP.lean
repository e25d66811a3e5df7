/- Arena: the plain laws. -/
import Derived.Test.YtphbhoggcddgmaaDoorMwFAr3
namespace Go.Proofs.YtphbhoggcddgmaaDoor
open Go Go.MW
set_option linter.unusedSimpArgs false
set_option linter.unusedVariables false

abbrev sat (l : List Sg) (i : Nat) : Sg := l.getD i (0, 0)
theorem sat_eq {l : List Sg} {i : Nat} (h : i < l.length) : sat l i = l[i] := by simp [sat, List.getD_eq_getElem?_getD, h]
theorem sat_set {l : List Sg} {i : Nat} (h : i < l.length) (x : Sg) : sat (l.set i x) i = x := by simp [sat, List.getD_eq_getElem?_getD, h]
theorem sat_set_ne {l : List Sg} {i j : Nat} (h : i ≠ j) (x : Sg) : sat (l.set i x) j = sat l j := by simp [sat, List.getD_eq_getElem?_getD, List.getElem?_set_ne h]

/-- What 'seek' finds. -/
def fits (c : Int) (p : Sg) : Prop := p.1 = c ∧ p.2 ≠ allN c
theorem seek_spec (c : Int) : ∀ (l : List Sg) (i : Nat) (at_ : Int), at_ < i →
    (∃ j : Nat, j < l.length ∧ seek c l i at_ = (i + j : Nat) ∧ fits c (sat l j) ∧ ∀ b, b < j → ¬ fits c (sat l b)) ∨
    ((∀ b, b < l.length → ¬ fits c (sat l b)) ∧ ((0 ≤ at_ ∧ seek c l i at_ = at_) ∨ (at_ < 0 ∧ ((∃ j : Nat, j < l.length ∧ seek c l i at_ = (i + j : Nat) ∧ (sat l j).1 = -1 ∧ ∀ b, b < j → (sat l b).1 ≠ -1) ∨ (seek c l i at_ = at_ ∧ ∀ b, b < l.length → (sat l b).1 ≠ -1)))))
  | [], i, at_, h => by
    refine .inr ⟨by simp, ?_⟩
    by_cases h0 : 0 ≤ at_
    · exact .inl ⟨h0, rfl⟩
    · exact .inr ⟨by omega, .inr ⟨rfl, by simp⟩⟩
  | p :: l, i, at_, h => by
    have at0 : sat (p :: l) 0 = p := rfl
    have atS : ∀ j, sat (p :: l) (j + 1) = sat l j := fun _ => rfl
    unfold seek
    split
    · rename_i hf
      exact .inl ⟨0, by simp, by simp, hf, by omega⟩
    · rename_i hf
      have fst : ∀ n, (∀ b, b < n → ¬ fits c (sat l b)) → ∀ b, b < n + 1 → ¬ fits c (sat (p :: l) b) := by
        intro n hn b hb
        cases b with
        | zero => exact hf
        | succ b => exact hn b (by omega)
      split
      · rename_i hq
        rcases seek_spec c l (i + 1) i (by omega) with ⟨j, j1, j2, j3, j4⟩ | ⟨k1, k2⟩
        · exact .inl ⟨j + 1, by simpa using j1, by rw [j2]; omega, j3, fst _ j4⟩
        · refine .inr ⟨fst _ k1, .inr ⟨hq.2, .inl ⟨0, by simp, ?_, hq.1, by omega⟩⟩⟩
          rcases k2 with ⟨_, k2⟩ | ⟨k2, _⟩
          · rw [k2]; simp
          · omega
      · rename_i hq
        rcases seek_spec c l (i + 1) at_ (by omega) with ⟨j, j1, j2, j3, j4⟩ | ⟨k1, k2⟩
        · exact .inl ⟨j + 1, by simpa using j1, by rw [j2]; omega, j3, fst _ j4⟩
        · refine .inr ⟨fst _ k1, ?_⟩
          rcases k2 with k2 | ⟨k2, k3⟩
          · exact .inl k2
          · have hp : p.1 ≠ -1 := fun e => hq ⟨e, k2⟩
            have frs : ∀ n, (∀ b, b < n → (sat l b).1 ≠ -1) → ∀ b, b < n + 1 → (sat (p :: l) b).1 ≠ -1 := by
              intro n hn b hb
              cases b with
              | zero => exact hp
              | succ b => exact hn b (by omega)
            refine .inr ⟨k2, ?_⟩
            rcases k3 with ⟨j, j1, j2, j3, j4⟩ | ⟨k3, k4⟩
            · exact .inl ⟨j + 1, by simpa using j1, by rw [j2]; omega, j3, frs _ j4⟩
            · exact .inr ⟨k3, frs _ k4⟩

theorem sgOK_free {p : Sg} (h : sgOK p = true) (hp : p.1 = -1) : p.2 = 0 := by
  simpa [sgOK, hp] using h
theorem sgOK_used {p : Sg} (h : sgOK p = true) (hp : p.1 ≠ -1) : slN p.1 ≠ 0 ∧ p.2 ≠ 0 ∧ p.2 < 2 ^ slN p.1 := by
  simpa [sgOK, hp, and_assoc] using h
theorem sgOK_of {c : Int} {u : Nat} (h0 : slN c ≠ 0) (h1 : u ≠ 0) (h2 : u < 2 ^ slN c) : sgOK (c, u) = true := by
  have : c ≠ -1 := by rintro rfl; exact h0 rfl
  simp [sgOK, this, h0, h1, h2]
theorem chk_iff {l : List Sg} : chk l = true ↔ l.length ≤ 200 ∧ ∀ i, i < l.length → sgOK (sat l i) = true := by
  simp only [chk, Bool.and_eq_true, decide_eq_true_eq, List.all_eq_true]
  refine and_congr_right fun _ => ⟨fun h i hi => by rw [sat_eq hi]; exact h _ (List.getElem_mem hi), fun h p hp => ?_⟩
  obtain ⟨i, hi, rfl⟩ := List.getElem_of_mem hp
  rw [← sat_eq hi]
  exact h i hi
theorem chk_set {l : List Sg} {i : Nat} {x : Sg} (h : chk l = true) (hx : sgOK x = true) : chk (l.set i x) = true := by
  rw [chk_iff] at h ⊢
  refine ⟨by simpa using h.1, fun j hj => ?_⟩
  rw [List.length_set] at hj
  by_cases e : i = j
  · subst e; rw [sat_set hj]; exact hx
  · rw [sat_set_ne e]; exact h.2 j hj
theorem SegOK.set {l : List Sg} {i : Nat} {x : Sg} (h : SegOK l) (hx : x.2 < 2 ^ 64) : SegOK (l.set i x) := by
  intro p hp
  rcases List.mem_or_eq_of_mem_set hp with h' | rfl
  · exact h p h'
  · exact hx

theorem isum_set {h : Sg → Int} : ∀ (l : List Sg) (i : Nat) (x : Sg), i < l.length → isum ((l.set i x).map h) = isum (l.map h) - h (sat l i) + h x
  | [], i, x, hi => by simp at hi
  | p :: l, 0, x, _ => by simp only [List.set_cons_zero, List.map_cons, isum_cons, sat, List.getD_cons_zero]; omega
  | p :: l, i + 1, x, hi => by
    have := isum_set (h := h) l i x (by simpa using hi)
    simp only [List.set_cons_succ, List.map_cons, isum_cons, sat, List.getD_cons_succ] at this ⊢
    omega

/-- Places below the least free one. -/
theorem low0_lt {u n : Nat} (h : u < 2 ^ n) (hn : n ≤ 64) (hu : u ≠ 2 ^ n - 1) (h0 : n ≠ 0) : low0 u < n ∧ u.testBit (low0 u) = false ∧ ∀ i, i < low0 u → u.testBit i = true := by
  have hp : 2 ^ n ≤ 2 ^ 64 := Nat.pow_le_pow_right (by decide) hn
  obtain ⟨h1, h2, h3⟩ := low0_spec (a := u) (by omega)
  refine ⟨?_, h2, h3⟩
  refine Nat.lt_of_not_le fun hle => hu ?_
  refine Nat.eq_of_testBit_eq fun i => ?_
  rw [Nat.testBit_two_pow_sub_one]
  by_cases hi : i < n
  · rw [h3 i (by omega)]; simp [hi]
  · rw [Nat.testBit_lt_two_pow (Nat.lt_of_lt_of_le h (Nat.pow_le_pow_right (by decide) (by omega)))]; simp [hi]

theorem or_bit {u q i : Nat} : (u ||| 2 ^ q).testBit i = (u.testBit i || decide (q = i)) := by
  rw [Nat.testBit_or, Nat.testBit_two_pow]

/-- A slot that is taken: all that is said of it. -/
theorem tak_ok {l : List Sg} {c : Int} (hl : SegOK l) (hc : chk l = true) (h : (tak l c).2.2 = 0) :
    ∃ (j q : Nat), j < l.length ∧ q < slN c ∧ slN c ≠ 0 ∧ tak l c = (l.set j (c, (sat l j).2 ||| 2 ^ q), ((j : Int), (q : Int)), 0) ∧ (sat l j).2.testBit q = false ∧ (∀ i, i < q → (sat l j).2.testBit i = true) ∧ (sat l j).2 < 2 ^ slN c ∧
      (((sat l j).1 = c ∧ (sat l j).2 ≠ 0 ∧ (sat l j).2 ≠ allN c ∧ ∀ b, b < j → ¬ fits c (sat l b)) ∨ ((sat l j).1 = -1 ∧ (sat l j).2 = 0 ∧ (∀ b, b < l.length → ¬ fits c (sat l b)) ∧ ∀ b, b < j → (sat l b).1 ≠ -1)) := by
  have h0 : slN c ≠ 0 := by
    intro h0
    simp [tak, hc, h0] at h
  have h1 : ¬ seek c l 0 (-1) < 0 := by
    intro h1
    simp [tak, hc, h0, h1] at h
  have ht : tak l c = (l.set (seek c l 0 (-1)).toNat (tak1 (l.getD (seek c l 0 (-1)).toNat (0, 0)) c), (seek c l 0 (-1), (low0 (l.getD (seek c l 0 (-1)).toNat (0, 0)).2 : Int)), 0) := by
    simp only [tak, hc, h0, h1, if_false, Bool.true_eq_false]
  have hsp := seek_spec c l 0 (-1) (by omega)
  have hok := (chk_iff.1 hc).2
  have hsl := slN_le c
  rcases hsp with ⟨j, j1, j2, j3, j4⟩ | ⟨k1, k2⟩
  · rw [Nat.zero_add] at j2
    rw [j2, Int.toNat_natCast] at ht
    obtain ⟨s1, s2, s3⟩ := sgOK_used (hok j j1) (by rw [j3.1]; rintro rfl; exact h0 rfl)
    rw [j3.1] at s1 s3
    obtain ⟨q1, q2, q3⟩ := low0_lt s3 hsl j3.2 h0
    refine ⟨j, low0 (sat l j).2, j1, q1, h0, ?_, q2, q3, s3, .inl ⟨j3.1, s2, j3.2, j4⟩⟩
    rw [ht]
    simp only [tak1, shb, if_pos (Nat.lt_of_lt_of_le q1 hsl)]
  · rcases k2 with ⟨k2, _⟩ | ⟨_, k2⟩
    · omega
    · rcases k2 with ⟨j, j1, j2, j3, j4⟩ | ⟨k2, _⟩
      · rw [Nat.zero_add] at j2
        rw [j2, Int.toNat_natCast] at ht
        have u0 := sgOK_free (hok j j1) j3
        have q0 : low0 (sat l j).2 = 0 := by rw [u0]; decide
        refine ⟨j, 0, j1, by omega, h0, ?_, by rw [u0]; rfl, by omega, by rw [u0]; exact Nat.two_pow_pos _, .inr ⟨j3, u0, k1, j4⟩⟩
        rw [ht]
        simp only [tak1, q0]
        rfl
      · rw [k2] at h1; omega

theorem has_at {l : List Sg} {j : Nat} {a : Nat} (hc : chk l = true) (hj : j < l.length) : has l j a = (sat l j).2.testBit a := by
  simp [has, hc, hj, sat]

/-- A slot taken: it was not; it is then, and it alone; given back all is as it was. -/
theorem back_law {l : List Sg} {c : Int} (hl : SegOK l) (hc : chk l = true) (h : (tak l c).2.2 = 0) (s a : Int) :
    has l (tak l c).2.1.1 (tak l c).2.1.2 = false ∧ has (tak l c).1 (tak l c).2.1.1 (tak l c).2.1.2 = true ∧ fre (tak l c).1 (tak l c).2.1.1 (tak l c).2.1.2 = (l, 0) ∧
    ((s = (tak l c).2.1.1 ∧ a = (tak l c).2.1.2) ∨ has l s a = has (tak l c).1 s a) ∧ chk (tak l c).1 = true ∧ SegOK (tak l c).1 ∧ (tak l c).1.length = l.length ∧ cnt sgTaken (tak l c).1 = cnt sgTaken l + byts c ∧ 0 ≤ cnt sgTaken l ∧ cnt sgTaken l ≤ 819200 := by
  obtain ⟨j, q, hj, hq, h0, ht, hb, hlow, hlt, hor⟩ := tak_ok hl hc h
  rw [ht]
  simp only
  have hq64 : q < 64 := Nat.lt_of_lt_of_le hq (slN_le c)
  have hu := hl.at hj
  have hor_lt : (sat l j).2 ||| 2 ^ q < 2 ^ slN c := Nat.or_lt_two_pow hlt (Nat.pow_lt_pow_right (by decide) hq)
  have hor_ne : (sat l j).2 ||| 2 ^ q ≠ 0 := by
    intro e
    have := congrArg (Nat.testBit · q) e
    simp [or_bit] at this
  have h64 : (sat l j).2 ||| 2 ^ q < 2 ^ 64 := Nat.lt_of_lt_of_le hor_lt (Nat.pow_le_pow_right (by decide) (slN_le c))
  have hcm : chk (l.set j (c, (sat l j).2 ||| 2 ^ q)) = true := chk_set hc (sgOK_of h0 hor_ne hor_lt)
  have hjm : j < (l.set j (c, (sat l j).2 ||| 2 ^ q)).length := by simpa using hj
  have hclr : clr1 ((sat l j).2 ||| 2 ^ q) q = (sat l j).2 := by
    refine Nat.eq_of_testBit_eq fun i => ?_
    rw [clr1_bit h64 hq64, or_bit]
    by_cases e : i = q
    · subst e; rw [hb]; simp
    · simp [e, Ne.symm e]
  have hhm : has (l.set j (c, (sat l j).2 ||| 2 ^ q)) j q = true := by rw [has_at hcm hjm, sat_set hj, or_bit]; simp
  refine ⟨by rw [has_at hc hj, hb], hhm, ?_, ?_, hcm, hl.set h64, by simp, ?_, ?_⟩
  · rw [fre, if_pos hhm]
    simp only [Int.toNat_natCast]
    rw [show List.getD (l.set j (c, (sat l j).2 ||| 2 ^ q)) j (0, 0) = (c, (sat l j).2 ||| 2 ^ q) from sat_set hj _, fre1]
    simp only [hclr]
    rw [List.set_set]
    have : (if (sat l j).2 = 0 then -1 else c, (sat l j).2) = sat l j := by
      rcases hor with ⟨h1, h2, _⟩ | ⟨h1, h2, _⟩
      · rw [if_neg h2, ← h1]
      · rw [if_pos h2, ← h1]
    rw [this, sat_eq hj, List.set_getElem_self]
  · by_cases e1 : s = j
    · subst e1
      by_cases e2 : a = q
      · exact .inl ⟨rfl, e2⟩
      · right
        have hp : (sat (l.set j (c, (sat l j).2 ||| 2 ^ q)) j).2.testBit a.toNat = (sat l j).2.testBit a.toNat ∨ a < 0 := by
          by_cases ha : a < 0
          · exact .inr ha
          · left
            rw [sat_set hj, or_bit]
            have : ¬ q = a.toNat := by omega
            simp [this]
        rcases hp with hp | hp
        · simp only [has, hc, hcm, Int.toNat_natCast, List.length_set]
          rw [show (l.getD j (0, 0)).2.testBit a.toNat = _ from hp.symm]
        · have : ¬ 0 ≤ a := by omega
          simp [has, this]
    · right
      have hp : (sat (l.set j (c, (sat l j).2 ||| 2 ^ q)) s.toNat) = sat l s.toNat ∨ s < 0 := by
        by_cases hs : s < 0
        · exact .inr hs
        · left
          exact sat_set_ne (by omega) _
      rcases hp with hp | hp
      · simp only [has, hc, hcm, List.length_set]
        rw [show (l.getD s.toNat (0, 0)) = _ from hp.symm]
      · have : ¬ 0 ≤ s := by omega
        simp [has, this]
  · simp only [cnt, hc, hcm, if_true]
    rw [isum_set l j _ hj]
    have hpc : pc 64 ((sat l j).2 ||| 2 ^ q) = pc 64 (sat l j).2 + 1 := pc_bits 64 _ _ q hq64 hb (by rw [or_bit]; simp) fun i hi => by rw [or_bit]; simp [Ne.symm hi]
    have hnew : sgTaken (c, (sat l j).2 ||| 2 ^ q) = (pc 64 (sat l j).2 : Int) * byts c + byts c := by
      unfold sgTaken
      rw [hpc, Int.natCast_succ, Int.add_mul, Int.one_mul]
    have hold : sgTaken (sat l j) = (pc 64 (sat l j).2 : Int) * byts c := by
      unfold sgTaken
      rcases hor with ⟨h1, _⟩ | ⟨_, h2, _⟩
      · rw [h1]
      · rw [h2]; simp [show pc 64 0 = 0 by decide]
    rw [hnew, hold]
    omega
  · have := isum_le sgTaken_le l
    have := chk_len hc
    simp only [cnt, hc, if_true]
    omega

theorem has_eq {l l' : List Sg} {s a : Int} (h1 : chk l = chk l') (h2 : l.length = l'.length) (h3 : 0 ≤ s → s < l.length → 0 ≤ a → (sat l s.toNat).2.testBit a.toNat = (sat l' s.toNat).2.testBit a.toNat) : has l s a = has l' s a := by
  unfold has
  rw [h1, h2]
  by_cases e1 : 0 ≤ s
  · by_cases e2 : s < l'.length
    · by_cases e3 : 0 ≤ a
      · have := h3 e1 (by omega) e3
        rw [show (l.getD s.toNat (0, 0)).2.testBit a.toNat = _ from this]
      · simp [e3]
    · simp [e2]
  · simp [e1]

/-- A slot given back. -/
theorem fre_spec {l : List Sg} (hl : SegOK l) (hc : chk l = true) {s a : Int} (h : has l s a = true) :
    ∃ (j q : Nat), s = j ∧ a = q ∧ j < l.length ∧ q < 64 ∧ (sat l j).2.testBit q = true ∧ fre l s a = (l.set j (fre1 (sat l j) q), 0) ∧ chk (l.set j (fre1 (sat l j) q)) = true ∧ SegOK (l.set j (fre1 (sat l j) q)) ∧ sgTaken (fre1 (sat l j) q) ≤ sgTaken (sat l j) := by
  obtain ⟨_, h1, h2, h3, h4⟩ := has_iff.1 h
  obtain ⟨j, rfl⟩ : ∃ j : Nat, s = j := ⟨s.toNat, by omega⟩
  obtain ⟨q, rfl⟩ : ∃ q : Nat, a = q := ⟨a.toNat, by omega⟩
  have hj : j < l.length := by omega
  rw [Int.toNat_natCast, Int.toNat_natCast] at h4
  have hu := hl.at hj
  have hq : q < 64 := by
    rcases Nat.lt_or_ge q 64 with h | h
    · exact h
    · rw [testBit_big hu h] at h4; cases h4
  have hok := (chk_iff.1 hc).2 j hj
  have hne : (sat l j).2 ≠ 0 := by
    intro e
    have h4' : (sat l j).2.testBit q = true := h4
    rw [e, Nat.zero_testBit] at h4'
    cases h4'
  have hcl : (sat l j).1 ≠ -1 := fun e => hne (sgOK_free hok e)
  obtain ⟨k1, k2, k3⟩ := sgOK_used hok hcl
  have hle : clr1 (sat l j).2 q ≤ (sat l j).2 := Nat.and_le_left
  have hnew : sgOK (fre1 (sat l j) q) = true := by
    unfold fre1
    split
    · rename_i e; rw [e]; rfl
    · rename_i e; exact sgOK_of k1 e (Nat.lt_of_le_of_lt hle k3)
  refine ⟨j, q, rfl, rfl, hj, hq, h4, ?_, chk_set hc hnew, hl.set (Nat.lt_of_le_of_lt hle hu), ?_⟩
  · rw [fre, if_pos h]; simp only [Int.toNat_natCast]
  · have hpc : pc 64 (sat l j).2 = pc 64 (clr1 (sat l j).2 q) + 1 := pc_bits 64 _ _ q hq (by rw [clr1_bit hu hq]; simp) h4 fun i hi => by rw [clr1_bit hu hq]; simp [hi]
    have hb := (byts_le (sat l j).1).1
    have h1 : (pc 64 (sat l j).2 : Int) * byts (sat l j).1 = (pc 64 (clr1 (sat l j).2 q) : Int) * byts (sat l j).1 + byts (sat l j).1 := by
      rw [hpc, Int.natCast_succ, Int.add_mul, Int.one_mul]
    unfold sgTaken fre1
    simp only
    rw [h1]
    split
    · rename_i e
      rw [e, show pc 64 0 = 0 by decide]
      simp only [Int.natCast_zero, Int.zero_mul]
      omega
    · omega

theorem fre_no {l : List Sg} {s a : Int} (h : has l s a = false) : fre l s a = (l, 120) := by simp [fre, h]

theorem fre_ok {l : List Sg} (hl : SegOK l) (hc : chk l = true) (s a : Int) : chk (fre l s a).1 = true ∧ SegOK (fre l s a).1 ∧ (fre l s a).1.length = l.length ∧ cnt sgTaken (fre l s a).1 ≤ cnt sgTaken l := by
  cases h : has l s a with
  | false => rw [fre_no h]; exact ⟨hc, hl, rfl, Int.le_refl _⟩
  | true =>
    obtain ⟨j, q, _, _, hj, _, _, hf, h1, h2, h3⟩ := fre_spec hl hc h
    rw [hf]
    refine ⟨h1, h2, by simp, ?_⟩
    have h1' : chk (l.set j (fre1 (sat l j) q)) = true := h1
    simp only [cnt, hc, h1', if_true]
    rw [isum_set l j _ hj]
    omega

theorem fre_has {l : List Sg} (hl : SegOK l) (hc : chk l = true) (s a t b : Int) (hne : ¬ (s = t ∧ a = b)) : has (fre l s a).1 t b = has l t b := by
  cases h : has l s a with
  | false => rw [fre_no h]
  | true =>
    obtain ⟨j, q, rfl, rfl, hj, hq, hbit, hf, h1, h2, h3⟩ := fre_spec hl hc h
    rw [hf]
    refine has_eq (by rw [h1, hc]) (by simp) fun e1 e2 e3 => ?_
    by_cases e : t = j
    · subst e
      rw [Int.toNat_natCast, sat_set hj]
      show (clr1 _ _).testBit _ = _
      rw [clr1_bit (hl.at hj) hq]
      have : b.toNat ≠ q := by omega
      simp [this]
    · rw [sat_set_ne (by omega)]

theorem fre_gone {l : List Sg} (hl : SegOK l) (hc : chk l = true) (s a : Int) : has (fre l s a).1 s a = false := by
  cases h : has l s a with
  | false => rw [fre_no h]; exact h
  | true =>
    obtain ⟨j, q, rfl, rfl, hj, hq, hbit, hf, h1, h2, h3⟩ := fre_spec hl hc h
    rw [hf]
    simp only
    rw [has_at h1 (by simpa using hj), sat_set hj]
    show (clr1 _ _).testBit _ = _
    rw [clr1_bit (hl.at hj) hq]
    simp

/-- Two slots given back, in either order. -/
theorem turns_law {l : List Sg} (hl : SegOK l) (hc : chk l = true) {s a t b : Int} (hne : ¬ (s = t ∧ a = b)) :
    (fre (fre l s a).1 t b).1 = (fre (fre l t b).1 s a).1 ∧ (fre l s a).2 = (fre (fre l t b).1 s a).2 ∧ (fre (fre l s a).1 t b).2 = (fre l t b).2 ∧ (fre (fre (fre l s a).1 t b).1 s a).2 = 120 := by
  obtain ⟨c1, l1, n1, _⟩ := fre_ok hl hc s a
  obtain ⟨c2, l2, n2, _⟩ := fre_ok hl hc t b
  have hs : has (fre l t b).1 s a = has l s a := fre_has hl hc t b s a (by omega)
  have ht : has (fre l s a).1 t b = has l t b := fre_has hl hc s a t b hne
  have e120 : ∀ (m : List Sg) (x y : Int), (fre m x y).2 = if has m x y then 0 else 120 := by intro m x y; unfold fre; split <;> rfl
  refine ⟨?_, by rw [e120, e120, hs], by rw [e120, e120, ht], ?_⟩
  · cases h1 : has l s a with
    | false =>
      rw [fre_no h1, fre_no (l := (fre l t b).1) (by rw [hs, h1])]
    | true =>
      cases h2 : has l t b with
      | false => rw [fre_no h2, fre_no (l := (fre l s a).1) (by rw [ht, h2])]
      | true =>
        obtain ⟨j, q, rfl, rfl, hj, hq, hbit, hf, _⟩ := fre_spec hl hc h1
        obtain ⟨i, r, rfl, rfl, hi, hr, hbit2, hg, _⟩ := fre_spec hl hc h2
        have k1 := ht.trans h2
        have k2 := hs.trans h1
        rw [hf] at k1 c1 l1 ⊢
        rw [hg] at k2 c2 l2 ⊢
        obtain ⟨i', r', e1, e2, hi', hr', _, hf', _⟩ := fre_spec l1 c1 k1
        obtain ⟨j', q', e3, e4, hj', hq', _, hg', _⟩ := fre_spec l2 c2 k2
        obtain rfl : i = i' := by omega
        obtain rfl : r = r' := by omega
        obtain rfl : j = j' := by omega
        obtain rfl : q = q' := by omega
        simp only at hf' hg' ⊢
        rw [hf', hg']
        simp only
        by_cases e : i = j
        · subst e
          rw [List.set_set, List.set_set, sat_set hi, sat_set hi]
          congr 1
          have hu := hl.at hi
          have hqr : q ≠ r := by omega
          have hcc : clr1 (clr1 (sat l i).2 q) r = clr1 (clr1 (sat l i).2 r) q := by
            refine Nat.eq_of_testBit_eq fun k => ?_
            rw [clr1_bit (clr1_lt hu) hr, clr1_bit (clr1_lt hu) hq, clr1_bit hu hr, clr1_bit hu hq]
            rw [Bool.and_assoc, Bool.and_assoc, Bool.and_comm (decide (k ≠ q))]
          have z1 : clr1 (sat l i).2 q ≠ 0 := by
            intro z
            have := congrArg (Nat.testBit · r) z
            simp only [clr1_bit hu hq, hbit2, Nat.zero_testBit, Bool.true_and, decide_eq_false_iff_not] at this
            omega
          have z2 : clr1 (sat l i).2 r ≠ 0 := by
            intro z
            have := congrArg (Nat.testBit · q) z
            simp only [clr1_bit hu hr, hbit, Nat.zero_testBit, Bool.true_and, decide_eq_false_iff_not] at this
            omega
          simp only [fre1, hcc, if_neg z1, if_neg z2]
        · rw [sat_set_ne (Ne.symm e), sat_set_ne e, List.set_comm _ _ (Ne.symm e)]
  · rw [e120]
    have h3 : has (fre (fre l s a).1 t b).1 s a = has (fre l s a).1 s a := fre_has l1 c1 t b s a (by omega)
    rw [h3, fre_gone hl hc]
    rfl

end Go.Proofs.YtphbhoggcddgmaaDoor
