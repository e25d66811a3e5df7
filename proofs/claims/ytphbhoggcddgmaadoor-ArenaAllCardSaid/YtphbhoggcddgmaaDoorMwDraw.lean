/- Regions whose order is drawn: whatever the order, they do what they do in text order. -/
import Derived.Test.YtphbhoggcddgmaaDoorMwDet2
import Derived.Orders
namespace Go.MW
open Go Go.RowKit
set_option linter.unusedVariables false
set_option linter.unusedSimpArgs false

section
variable {P : Program} {G : Nat → Option (List V)}

/-- What happens in text order: values, heaps, frames, and which operations are run. -/
structure Trace (P : Program) (G : Nat → Option (List V)) (ms : List MO) (v : Nat → V) (h : Nat → List Blk) (fr : Nat → Fr) (run : Nat → Bool) : Prop where
  frs : ∀ i m, ms[i]? = some m → fr (i + 1) = put m.dst (v i) (fr i)
  gd : ∀ i m, ms[i]? = some m → ∀ p q : Prop, (if run i then p else q) → gdK (fr i) m.gd p q
  yes : ∀ i m, ms[i]? = some m → run i = true → ∀ K : V → List Blk → Prop, K (v i) (h (i + 1)) → stepM P G m.q m.op (fr i) (h i) K
  no : ∀ i m, ms[i]? = some m → run i = false → v i = .junk ∧ h (i + 1) = h i

theorem gdK_inv {fr : Fr} {g : Option (Nat × Bool)} {p q : Prop} (h : gdK fr g p q) : ∃ b : Bool, (∀ p' q' : Prop, (if b then p' else q') → gdK fr g p' q') ∧ (if b then p else q) := by
  rcases g with _ | ⟨t, want⟩
  · exact ⟨true, fun p' q' hh => hh, h⟩
  · simp only [gdK] at h ⊢
    split at h
    · rename_i b hb
      refine ⟨b == want, fun p' q' hh => ?_, ?_⟩
      · refine ⟨fun e => ?_, fun e => ?_⟩
        · rw [e] at hh; exact hh
        · rw [e] at hh; exact hh
      · rcases hc : (b == want) with _ | _
        · exact h.2 hc
        · exact h.1 hc
    · exact h.elim

theorem mops_trace : ∀ (ms : List MO) (K : St → Prop) (st : St), mops P G ms K st → ∃ v h fr run, fr 0 = st.fr ∧ h 0 = st.H ∧ K ⟨fr ms.length, h ms.length⟩ ∧ Trace P G ms v h fr run
  | [], K, st, hm => ⟨fun _ => .junk, fun _ => st.H, fun _ => st.fr, fun _ => true, rfl, rfl, hm, by simp, by simp, by simp, by simp⟩
  | m :: ms, K, st, hm => by
    simp only [mops] at hm
    obtain ⟨b, hb, hbr⟩ := gdK_inv hm
    have : ∃ v0 H1, (b = true → ∀ K : V → List Blk → Prop, K v0 H1 → stepM P G m.q m.op st.fr st.H K) ∧ (b = false → v0 = .junk ∧ H1 = st.H) ∧ mops P G ms K ⟨put m.dst v0 st.fr, H1⟩ := by
      cases b with
      | true =>
        simp only [if_true] at hbr
        obtain ⟨v0, H1, h1, h2⟩ := stepM_det hbr
        exact ⟨v0, H1, fun _ => h2, fun h => (by cases h), h1⟩
      | false =>
        simp only [Bool.false_eq_true, if_false] at hbr
        exact ⟨.junk, st.H, fun h => (by cases h), fun _ => ⟨rfl, rfl⟩, hbr⟩
    obtain ⟨v0, H1, hyes, hno, hrest⟩ := this
    obtain ⟨v, h, fr, run, e1, e2, e3, tr⟩ := mops_trace ms K _ hrest
    refine ⟨fun i => match i with | 0 => v0 | i + 1 => v i, fun i => match i with | 0 => st.H | i + 1 => h i, fun i => match i with | 0 => st.fr | i + 1 => fr i, fun i => match i with | 0 => b | i + 1 => run i, rfl, rfl, e3, ?_, ?_, ?_, ?_⟩
    · rintro (_ | i) m' hm'
      · simp at hm'; subst hm'; exact e1
      · exact tr.frs i m' (by simpa using hm')
    · rintro (_ | i) m' hm'
      · simp at hm'; subst hm'; exact hb
      · exact tr.gd i m' (by simpa using hm')
    · rintro (_ | i) m' hm'
      · simp at hm'; subst hm'
        intro hb' K' hk
        refine hyes hb' K' ?_
        simp only [e2] at hk
        exact hk
      · exact tr.yes i m' (by simpa using hm')
    · rintro (_ | i) m' hm'
      · simp at hm'; subst hm'
        intro hb'
        simp only [e2]
        exact hno hb'
      · exact tr.no i m' (by simpa using hm')

/-- The frame where just some of the operations are done. -/
def frl (dst : Nat → Option Nat) (v : Nat → V) (fr0 : Fr) (D : Nat → Bool) : Nat → Fr
  | 0 => fr0
  | k + 1 => if D k then put (dst k) (v k) (frl dst v fr0 D k) else frl dst v fr0 D k

section
variable {dst : Nat → Option Nat} {v : Nat → V} {fr0 : Fr} {D D' : Nat → Bool}

theorem get_put (d : Option Nat) (x : V) (fr : Fr) (t : Nat) : get (put d x fr) t = if d = some t then x else get fr t := by
  cases d with
  | none => simp [MW.put]
  | some e => simp [MW.put, get_cons]

theorem frl_succ (k t : Nat) : get (frl dst v fr0 D (k + 1)) t = if D k = true ∧ dst k = some t then v k else get (frl dst v fr0 D k) t := by
  simp only [frl]
  cases hd : D k with
  | true => simp [get_put]
  | false => simp

theorem frl_ext {t : Nat} : ∀ k, (∀ j, j < k → dst j = some t → D j = D' j) → get (frl dst v fr0 D k) t = get (frl dst v fr0 D' k) t
  | 0, _ => rfl
  | k + 1, h => by
    rw [frl_succ, frl_succ, frl_ext k fun j hj => h j (by omega)]
    by_cases hd : dst k = some t
    · rw [h k (by omega) hd]
    · simp [hd]

theorem frl_skip {t k : Nat} : ∀ n, k ≤ n → (∀ j, k ≤ j → j < n → dst j = some t → D j = false) → get (frl dst v fr0 D n) t = get (frl dst v fr0 D k) t
  | 0, h, _ => by rw [show k = 0 by omega]
  | n + 1, h, hh => by
    by_cases hk : k = n + 1
    · rw [hk]
    · rw [frl_succ, frl_skip n (by omega) fun j h1 h2 => hh j h1 (by omega), if_neg]
      rintro ⟨h1, h2⟩
      rw [hh n (by omega) (by omega) h2] at h1
      cases h1

end

/-- How heaps go on where nothing writes. -/
theorem Trace.grow {ms : List MO} {v : Nat → V} {h : Nat → List Blk} {fr : Nat → Fr} {run : Nat → Bool} (tr : Trace P G ms v h fr run) {i : Nat} {m : MO} (hi : ms[i]? = some m) (hw : m.isW = false) : ∃ T, h (i + 1) = h i ++ T := by
  cases hr : run i with
  | false => exact ⟨[], by rw [(tr.no i m hi hr).2]; simp⟩
  | true =>
    have hs := tr.yes i m hi hr (fun v' H' => v' = v i ∧ H' = h (i + 1)) ⟨rfl, rfl⟩
    simp only [MO.isW, Bool.or_eq_false_iff, beq_eq_false_iff_ne, Bool.and_eq_false_iff, Bool.not_eq_false', beq_iff_eq] at hw
    rcases hk : m.op.kind with _ | _ | _ | _ | k
    · obtain ⟨v', ⟨_, h1⟩, _⟩ := stepM_read hk hs
      exact ⟨[], by simp [h1]⟩
    · rw [stepM_make hk] at hs
      obtain ⟨r, k, ⟨_, h1⟩, _⟩ := mkM_det hs
      exact ⟨[k], h1.symm⟩
    · have hq : m.q = true := by
        rcases hw.2 with h2 | h2
        · exact absurd hk h2
        · exact h2
      rw [hq] at hs
      obtain ⟨v', ⟨_, h1⟩, _⟩ := stepM_quiet hk hs
      exact ⟨[], by simp [h1]⟩
    · exact absurd hk hw.1
    · exfalso
      cases hm : m.op <;> rw [hm] at hk <;> simp [MOp.kind] at hk

theorem Trace.seg {ms : List MO} {v : Nat → V} {h : Nat → List Blk} {fr : Nat → Fr} {run : Nat → Bool} (tr : Trace P G ms v h fr run) {i : Nat} : ∀ c, i ≤ c → c ≤ ms.length → (∀ j, i ≤ j → j < c → (ms.getD j noMO).isW = false) → ∃ T, h c = h i ++ T
  | 0, h1, _, _ => ⟨[], by rw [show i = 0 by omega]; simp⟩
  | c + 1, h1, h2, hw => by
    by_cases hc : i = c + 1
    · exact ⟨[], by rw [hc]; simp⟩
    · obtain ⟨T, hT⟩ := tr.seg c (by omega) (by omega) fun j hj hj' => hw j hj (by omega)
      have hlt : c < ms.length := by omega
      obtain ⟨T', hT'⟩ := tr.grow (i := c) (m := ms.getD c noMO) (by simp [List.getD_eq_getElem?_getD, hlt]) (hw c (by omega) (by omega))
      exact ⟨T ++ T', by rw [hT', hT, List.append_assoc]⟩

theorem kind_heat {m : MOp} (h : m.kind ≠ 0) : m.heat ≠ 0 := by cases m <;> simp [MOp.kind, MOp.heat] at h ⊢

/-- The edges' closure. -/
theorem ancs_length : ∀ (l : List Oper) (acc : List Nat), (ancs l acc).length = acc.length + l.length
  | [], acc => by simp [ancs]
  | o :: l, acc => by rw [ancs, ancs_length l]; simp; omega

theorem ancs_old : ∀ (l : List Oper) (acc : List Nat) (i : Nat), i < acc.length → (ancs l acc).getD i 0 = acc.getD i 0
  | [], acc, i, h => rfl
  | o :: l, acc, i, h => by
    rw [ancs, ancs_old l _ i (by simp; omega)]
    simp [List.getD_eq_getElem?_getD, List.getElem?_append_left h]

theorem ancOf_spec {acc : List Nat} {j : Nat} : ∀ (es : List Edge), (es.foldr (fun e r => if Region.binds .any e then r ||| (2 ^ e.on ||| acc.getD e.on 0) else r) 0).testBit j = true → ∃ e ∈ es, Region.binds .any e = true ∧ (j = e.on ∨ (acc.getD e.on 0).testBit j = true)
  | [], h => by simp at h
  | e :: es, h => by
    simp only [List.foldr_cons] at h
    split at h
    · rename_i hb
      rw [Nat.testBit_or, Bool.or_eq_true, Nat.testBit_or, Bool.or_eq_true] at h
      rcases h with h | h | h
      · obtain ⟨e', h1, h2⟩ := ancOf_spec es h
        exact ⟨e', List.mem_cons_of_mem _ h1, h2⟩
      · refine ⟨e, List.mem_cons_self, hb, .inl ?_⟩
        rw [Nat.testBit_two_pow] at h
        simp at h
        exact h.symm
      · exact ⟨e, List.mem_cons_self, hb, .inr h⟩
    · obtain ⟨e', h1, h2⟩ := ancOf_spec es h
      exact ⟨e', List.mem_cons_of_mem _ h1, h2⟩

theorem ancs_spec : ∀ (l : List Oper) (acc : List Nat) (i : Nat) (o : Oper) (j : Nat), l[i]? = some o → (∀ e ∈ o.after, Region.binds .any e = true → e.on < acc.length + i) → ((ancs l acc).getD (acc.length + i) 0).testBit j = true →
    ∃ e ∈ o.after, Region.binds .any e = true ∧ (j = e.on ∨ ((ancs l acc).getD e.on 0).testBit j = true)
  | [], acc, i, o, j, h, _, _ => by simp at h
  | o' :: l, acc, 0, o, j, h, hlt, hb => by
    simp at h
    subst h
    have e1 : (ancs (o' :: l) acc).getD (acc.length + 0) 0 = ancOf acc o' := by
      rw [ancs, ancs_old l _ _ (by simp)]
      simp [List.getD_eq_getElem?_getD]
    rw [e1] at hb
    obtain ⟨e, h1, h2, h3⟩ := ancOf_spec o'.after.toList hb
    have h1' : e ∈ o'.after := by simpa using h1
    refine ⟨e, h1', h2, h3.imp id fun h4 => ?_⟩
    have := hlt e h1' h2
    rw [ancs, ancs_old l _ _ (by simp; omega)]
    rw [List.getD_eq_getElem?_getD, List.getElem?_append_left (by omega), ← List.getD_eq_getElem?_getD]
    exact h4
  | o' :: l, acc, i + 1, o, j, h, hlt, hb => by
    rw [ancs] at hb ⊢
    have := ancs_spec l (acc ++ [ancOf acc o']) i o j (by simpa using h) (fun e h1 h2 => by have := hlt e h1 h2; simp; omega) (by
      rw [show (acc ++ [ancOf acc o']).length + i = acc.length + (i + 1) by simp; omega]
      exact hb)
    exact this

theorem edgesOK_spec : ∀ (l : List Oper) (k i : Nat) (o : Oper), edgesOK k l = true → l[i]? = some o → ∀ e ∈ o.after, Region.binds .any e = true → e.on < k + i
  | [], k, i, o, _, h => by simp at h
  | o' :: l, k, i, o, h, hi => by
    simp only [edgesOK, Bool.and_eq_true, List.all_eq_true] at h
    intro e he hb
    cases i with
    | zero =>
      simp at hi
      subst hi
      have := h.1 e (by simpa using he)
      simpa [hb] using this
    | succ i =>
      have := edgesOK_spec l (k + 1) i o h.2 (by simpa using hi) e he hb
      omega

end
end Go.MW
