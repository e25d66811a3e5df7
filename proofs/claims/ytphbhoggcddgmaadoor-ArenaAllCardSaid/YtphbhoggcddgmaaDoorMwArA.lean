/- Arena: through any acts just the slots are taken that were, and not given back (the plain law). -/
import Derived.Test.YtphbhoggcddgmaaDoorMwArL2
namespace Go.Proofs.YtphbhoggcddgmaaDoor
open Go Go.MW
set_option linter.unusedSimpArgs false
set_option linter.unusedVariables false

/-- A slot, and the class that it was taken for. -/
abbrev SC := (Int × Int) × Int
structure Inv (l : List Sg) (ss : List SC) : Prop where
  chk : chk l = true
  ok : SegOK l
  has : ∀ p ∈ ss, has l p.1.1 p.1.2 = true ∧ (sat l p.1.1.toNat).1 = p.2
  nodup : (ss.map (·.1)).Nodup
  sum : cnt sgTaken l = isum (ss.map fun p => byts p.2)

theorem has_used {l : List Sg} (hc : Go.Proofs.YtphbhoggcddgmaaDoor.chk l = true) {s a : Int} (h : Go.Proofs.YtphbhoggcddgmaaDoor.has l s a = true) : (sat l s.toNat).2 ≠ 0 ∧ (sat l s.toNat).1 ≠ -1 := by
  obtain ⟨_, h1, h2, h3, h4⟩ := has_iff.1 h
  have h4' : (sat l s.toNat).2.testBit a.toNat = true := h4
  have hne : (sat l s.toNat).2 ≠ 0 := by
    intro e
    rw [e, Nat.zero_testBit] at h4'
    cases h4'
  exact ⟨hne, fun e => hne (sgOK_free ((chk_iff.1 hc).2 _ (by omega)) e)⟩

theorem Inv.take {l : List Sg} {ss : List SC} (h : Inv l ss) {c : Int} (he : (tak l c).2.2 = 0) : Inv (tak l c).1 (ss ++ [((tak l c).2.1, c)]) := by
  obtain ⟨b1, b2, b3, _, b5, b6, b7, b8, b9, b10⟩ := back_law h.ok h.chk he 0 0
  obtain ⟨j, q, hj, hq, h0, ht, hb, hlow, hlt, hor⟩ := tak_ok h.ok h.chk he
  have hcls : (sat (tak l c).1 j).1 = c := by rw [ht]; simp only; rw [sat_set hj]
  have hslot : (tak l c).2.1.1 = (j : Int) := by rw [ht]
  refine ⟨b5, b6, fun p hp => ?_, ?_, ?_⟩
  · rcases List.mem_append.1 hp with hp | hp
    · obtain ⟨k1, k2⟩ := h.has p hp
      have hpn : ¬ (p.1.1 = (tak l c).2.1.1 ∧ p.1.2 = (tak l c).2.1.2) := by
        rintro ⟨e1, e2⟩
        rw [e1, e2, b1] at k1
        cases k1
      obtain ⟨_, _, _, b4, _⟩ := back_law h.ok h.chk he p.1.1 p.1.2
      refine ⟨?_, ?_⟩
      · rcases b4 with b4 | b4
        · exact absurd b4 hpn
        · rw [← b4]; exact k1
      · obtain ⟨_, e0, e1, _⟩ := has_iff.1 k1
        by_cases e : p.1.1 = (j : Int)
        · rw [e] at k2 k1 ⊢
          rw [Int.toNat_natCast] at k2 ⊢
          obtain ⟨u1, u2⟩ := has_used h.chk k1
          rw [Int.toNat_natCast] at u1 u2
          rw [hcls, ← k2]
          rcases hor with ⟨g1, _⟩ | ⟨g1, _⟩
          · exact g1.symm
          · exact absurd g1 u2
        · rw [ht]
          simp only
          rw [sat_set_ne (by omega)]
          exact k2
    · obtain rfl := List.mem_singleton.1 hp
      refine ⟨b2, ?_⟩
      simp only [hslot, Int.toNat_natCast]
      exact hcls
  · rw [List.map_append, List.nodup_append]
    refine ⟨h.nodup, by simp, ?_⟩
    intro a ha b hb' e
    subst e
    obtain ⟨p, hp, rfl⟩ := List.mem_map.1 ha
    have := (h.has p hp).1
    simp only [List.map_cons, List.map_nil, List.mem_singleton] at hb'
    rw [hb', b1] at this
    cases this
  · rw [b8, h.sum, List.map_append, isum_append]
    simp [isum]

theorem isum_erase : ∀ (l : List Int) (k : Nat) (h : k < l.length), isum (l.eraseIdx k) = isum l - l[k]
  | [], k, h => by simp at h
  | a :: l, 0, _ => by simp [isum_cons]; omega
  | a :: l, k + 1, h => by
    have := isum_erase l k (by simpa using h)
    simp only [List.eraseIdx_cons_succ, isum_cons, List.getElem_cons_succ]
    omega

theorem fre_taken {l : List Sg} (hl : SegOK l) (hc : Go.Proofs.YtphbhoggcddgmaaDoor.chk l = true) {s a : Int} (h : Go.Proofs.YtphbhoggcddgmaaDoor.has l s a = true) : cnt sgTaken (fre l s a).1 = cnt sgTaken l - byts (sat l s.toNat).1 := by
  obtain ⟨j, q, rfl, rfl, hj, hq, hbit, hf, h1, h2, h3⟩ := fre_spec hl hc h
  rw [hf]
  simp only [cnt, hc, h1, if_true]
  rw [isum_set l j _ hj, Int.toNat_natCast]
  have hu := hl.at hj
  have hpc : pc 64 (sat l j).2 = pc 64 (clr1 (sat l j).2 q) + 1 := pc_bits 64 _ _ q hq (by rw [clr1_bit hu hq]; simp) hbit fun i hi => by rw [clr1_bit hu hq]; simp [hi]
  have h1 : (pc 64 (sat l j).2 : Int) * byts (sat l j).1 = (pc 64 (clr1 (sat l j).2 q) : Int) * byts (sat l j).1 + byts (sat l j).1 := by
    rw [hpc, Int.natCast_succ, Int.add_mul, Int.one_mul]
  have h2 : sgTaken (fre1 (sat l j) q) = (pc 64 (clr1 (sat l j).2 q) : Int) * byts (sat l j).1 := by
    unfold sgTaken fre1
    simp only
    split
    · rename_i e
      rw [e, show pc 64 0 = 0 by decide]
      simp
    · rfl
  rw [h2]
  unfold sgTaken
  omega

theorem erase_map {α β : Type} (f : α → β) : ∀ (l : List α) (k : Nat), (l.eraseIdx k).map f = (l.map f).eraseIdx k
  | [], k => by simp
  | a :: l, 0 => rfl
  | a :: l, k + 1 => by simp [erase_map f l k]

theorem Inv.free {l : List Sg} {ss : List SC} (h : Inv l ss) {k : Nat} (hk : k < ss.length) : (fre l ss[k].1.1 ss[k].1.2).2 = 0 ∧ Inv (fre l ss[k].1.1 ss[k].1.2).1 (ss.eraseIdx k) := by
  obtain ⟨k1, k2⟩ := h.has _ (List.getElem_mem hk)
  obtain ⟨c1, l1, n1, u1⟩ := fre_ok h.ok h.chk ss[k].1.1 ss[k].1.2
  have hn := h.nodup
  refine ⟨by simp [fre, k1], c1, l1, fun p hp => ?_, ?_, ?_⟩
  · have hp' : p ∈ ss := List.mem_of_mem_eraseIdx hp
    obtain ⟨g1, g2⟩ := h.has p hp'
    have hne : ¬ (ss[k].1.1 = p.1.1 ∧ ss[k].1.2 = p.1.2) := by
      rintro ⟨e1, e2⟩
      obtain ⟨i, hi, he⟩ := List.mem_eraseIdx_iff_getElem.1 hp
      obtain ⟨hik, he⟩ := he
      have e3 : (ss.map (·.1))[i]'(by simpa using hi) = (ss.map (·.1))[k]'(by simpa using hk) := by
        simp only [List.getElem_map, he]
        exact Prod.ext e1.symm e2.symm
      have := (List.getElem_inj hn).1 e3
      omega
    have g3 := fre_has h.ok h.chk ss[k].1.1 ss[k].1.2 p.1.1 p.1.2 hne
    refine ⟨by rw [g3]; exact g1, ?_⟩
    obtain ⟨j, q, e1, e2, hj, hq, hbit, hf, f1, f2, f3⟩ := fre_spec h.ok h.chk k1
    obtain ⟨_, d1, d2, _⟩ := has_iff.1 g1
    by_cases e : p.1.1 = (j : Int)
    · have hu := (has_used c1 (g3.trans g1)).1
      rw [hf] at hu ⊢
      simp only at hu ⊢
      rw [e, Int.toNat_natCast] at g2 hu ⊢
      rw [sat_set hj] at hu ⊢
      simp only [fre1] at hu ⊢
      rw [if_neg hu]
      exact g2
    · rw [hf]
      simp only
      rw [sat_set_ne (by omega)]
      exact g2
  · rw [erase_map]
    exact hn.sublist (List.eraseIdx_sublist _ _)
  · rw [fre_taken h.ok h.chk k1, h.sum, k2, erase_map, isum_erase _ _ (by simpa using hk)]
    simp

theorem pc_le_of_lt : ∀ (n u : Nat) (k : Nat), u < 2 ^ k → pc n u ≤ k
  | 0, u, k, h => by simp [pc]
  | n + 1, u, 0, h => by
    obtain rfl : u = 0 := by omega
    have : ∀ m, pc m 0 = 0 := by
      intro m
      induction m with
      | zero => rfl
      | succ m ih => simp [pc, ih]
    rw [this]
    omega
  | n + 1, u, k + 1, h => by
    have := pc_le_of_lt n (u / 2) k (by rw [Nat.pow_succ] at h; omega)
    have := Nat.mod_lt u (show 0 < 2 by decide)
    simp only [pc]
    omega

theorem held_ge {l : List Sg} (hc : Go.Proofs.YtphbhoggcddgmaaDoor.chk l = true) : cnt sgTaken l ≤ cnt sgHeld l ∧ cnt sgHeld l ≤ 512 * l.length := by
  have h := (chk_iff.1 hc).2
  simp only [cnt, hc, if_true]
  have : ∀ p ∈ l, sgTaken p ≤ sgHeld p ∧ 0 ≤ sgHeld p ∧ sgHeld p ≤ 512 := by
    intro p hp
    obtain ⟨i, hi, rfl⟩ := List.getElem_of_mem hp
    have ho := h i hi
    rw [sat_eq hi] at ho
    generalize l[i] = p at ho
    by_cases e : p.1 = -1
    · have := sgOK_free ho e
      simp [sgTaken, sgHeld, e, this, show pc 64 0 = 0 by decide]
    · obtain ⟨s1, s2, s3⟩ := sgOK_used ho e
      have h2 := pc_le_of_lt 64 p.2 (slN p.1) s3
      have h3 : (pc 64 p.2 : Int) * byts p.1 ≤ (slN p.1 : Int) * byts p.1 := Int.mul_le_mul_of_nonneg_right (by omega) (byts_le _).1
      have h4 : (slN p.1 : Int) * byts p.1 ≤ 512 := by
        unfold slN byts
        repeat' split
        all_goals first | omega | decide
      simp only [sgTaken, sgHeld, e, if_false]
      omega
  clear h hc
  induction l with
  | nil => simp [isum]
  | cons p l ih =>
    have h1 := this p (by simp)
    have h2 := ih fun q hq => this q (by simp [hq])
    simp only [List.map_cons, isum_cons, List.length_cons]
    omega

end Go.Proofs.YtphbhoggcddgmaaDoor
