/- Slices of one's own, more than one: what an append leaves as it was; parts of them. -/
import Derived.Test.YtphbhoggcddgmaaDoorMwTyp
namespace Go.MW
open Go
set_option linter.unusedVariables false
set_option linter.unusedSimpArgs false

/-- Does a value lie in a block? -/
def hasB : V → Nat → Prop
  | .hs c _ _ _ _ _ _, b => c = b
  | _, _ => False
def Sep (v w : V) : Prop := ∀ b, hasB v b → ¬ hasB w b
theorem Sep.symm {v w : V} (h : Sep v w) : Sep w v := fun b h1 h2 => h b h2 h1
/-- The blocks are as they were, and there may be more. -/
def Keeps (H H' : List Blk) : Prop := H.length ≤ H'.length ∧ ∀ c, c < H.length → getB H' c = getB H c
/-- The same, but for one's. -/
def KeepsBut (v : V) (H H' : List Blk) : Prop := H.length ≤ H'.length ∧ ∀ c, c < H.length → ¬ hasB v c → getB H' c = getB H c
theorem Keeps.refl (H : List Blk) : Keeps H H := ⟨Nat.le_refl _, fun _ _ => rfl⟩
theorem Keeps.trans {H H' H'' : List Blk} (h : Keeps H H') (k : Keeps H' H'') : Keeps H H'' := ⟨Nat.le_trans h.1 k.1, fun c hc => by rw [k.2 c (Nat.lt_of_lt_of_le hc h.1), h.2 c hc]⟩
theorem Keeps.app (H T : List Blk) : Keeps H (H ++ T) := ⟨by simp, fun c hc => getB_app' hc⟩
theorem Keeps.but {H H' : List Blk} (h : Keeps H H') (v : V) : KeepsBut v H H' := ⟨h.1, fun c hc _ => h.2 c hc⟩
theorem KeepsBut.fresh {v : V} {H0 H H' : List Blk} (h0 : Keeps H0 H) (h : KeepsBut v H H') (hv : ∀ b, hasB v b → H0.length ≤ b) : Keeps H0 H' :=
  ⟨Nat.le_trans h0.1 h.1, fun c hc => by rw [h.2 c (Nat.lt_of_lt_of_le hc h0.1) fun hb => by have := hv c hb; omega, h0.2 c hc]⟩
theorem Keeps.set {H0 H : List Blk} (h : Keeps H0 H) {b : Nat} (k : Blk) (hb : H0.length ≤ b) : Keeps H0 (H.set b k) :=
  ⟨by simpa using h.1, fun c hc => by rw [getB_set_ne _ (by omega), h.2 c hc]⟩

theorem Own.lt {sz : Nat} {H : List Blk} {v : V} {xs : List V} (h : Own sz H v xs) {b : Nat} (hb : hasB v b) : b < H.length := by
  rcases h with ⟨rfl, _⟩ | ⟨c, cap, opn, rfl, hc, _⟩
  · exact hb.elim
  · obtain rfl : c = b := hb
    exact getB_lt' hc
theorem Own.but {sz : Nat} {H H' : List Blk} {v w : V} {ys : List V} (h : Own sz H w ys) (k : KeepsBut v H H') (hs : Sep v w) : Own sz H' w ys := by
  rcases h with h | ⟨c, cap, opn, rfl, hc, h3⟩
  · exact .inl h
  · exact .inr ⟨c, cap, opn, rfl, by rw [k.2 c (getB_lt' hc) fun hb => hs c hb rfl]; exact hc, h3⟩
theorem Own.keep {sz : Nat} {H H' : List Blk} {w : V} {ys : List V} (h : Own sz H w ys) (k : Keeps H H') : Own sz H' w ys := by
  rcases h with h | ⟨c, cap, opn, rfl, hc, h3⟩
  · exact .inl h
  · exact .inr ⟨c, cap, opn, rfl, by rw [k.2 c (getB_lt' hc)]; exact hc, h3⟩

/-- Appending to a slice of one's own: what is told of the heap, and of the new one. -/
theorem Own.appS {sz by_ : Nat} {H : List Blk} {v : V} {xs ys : List V} {K : V → List Blk → Prop} (h : Own sz H v xs) (hx : Goods sz xs) (hy : Goods sz ys) (hr : roomy (xs.length + ys.length) by_)
    (hk : ∀ v' H', Own sz H' v' (xs ++ ys) → KeepsBut v H H' → (∀ b, hasB v' b → hasB v b ∨ H.length ≤ b) → K v' H') : appK sz by_ v ys H K := by
  have new : ∀ (u : V) (k : Blk), KeepsBut u H (H ++ [k]) := fun u k => (Keeps.app H [k]).but u
  rcases h with ⟨rfl, rfl⟩ | ⟨b, cap, opn, rfl, hb, hc⟩
  · rw [eq_app1]
    refine ⟨hy, ?_⟩
    split
    · rename_i h0
      subst h0
      exact hk _ _ (Own.nil _ _) ((Keeps.refl H).but _) fun b hb => hb.elim
    · exact ⟨by simpa using hr, hk _ _ (Own.hs (by simp) (getB_new _ _) (.inl rfl)) (new _ _) fun b hb => .inr (Nat.le_of_eq hb)⟩
  · have hset : ∀ k : Blk, KeepsBut (.hs b xs.length 0 0 xs.length cap sz) H (H.set b k) := fun k => ⟨by simp, fun c hc hn => getB_set_ne _ fun e => hn e⟩
    rcases hc with rfl | rfl
    · rw [eq_app4]
      refine ⟨hy, rfl, rfl, ?_⟩
      rw [hb]
      refine ⟨rfl, rfl, by omega, hx, ?_⟩
      split
      · rename_i h0
        have : ys = [] := List.length_eq_zero_iff.1 (by omega)
        subst this
        refine ⟨rfl, hk _ _ (.inr ⟨b, none, opn, by simp, ?_, .inl rfl⟩) (hset _) fun c hc => .inl hc⟩
        rw [getB_set _ (getB_lt' hb)]
        simp
      · refine ⟨rfl, rfl, hr, hk _ _ (.inr ⟨b, none, true, by simp, ?_, .inl rfl⟩) (hset _) fun c hc => .inl hc⟩
        rw [getB_set _ (getB_lt' hb), List.take_length]
    · rw [eq_app3]
      refine ⟨hy, rfl, rfl, ?_⟩
      rw [hb]
      refine ⟨rfl, rfl, by omega, hx, ?_⟩
      split
      · rename_i h0
        have : ys = [] := List.length_eq_zero_iff.1 (by omega)
        subst this
        refine ⟨by omega, rfl, hk _ _ (.inr ⟨b, some xs.length, opn, by simp, ?_, .inr (by simp)⟩) (hset _) fun c hc => .inl hc⟩
        rw [getB_set _ (getB_lt' hb)]
        simp
      · refine ⟨hr, hk _ _ (Own.hs (by simp) (by rw [getB_new, List.drop_zero, List.take_length]) (.inl rfl)) (new _ _) fun c hc => .inr (Nat.le_of_eq hc)⟩

theorem getB_plus (H T : List Blk) (k : Nat) : getB (H ++ T) (H.length + k) = getB T k := by
  simp [getB, List.getD_eq_getElem?_getD, List.getElem?_append_right]
theorem getB_plus0 (H T : List Blk) : getB (H ++ T) H.length = getB T 0 := getB_plus H T 0
theorem set_plus (H T : List Blk) (k : Nat) (x : Blk) : (H ++ T).set (H.length + k) x = H ++ T.set k x := by
  rw [List.set_append_right _ _ (by omega), Nat.add_sub_cancel_left]
theorem set_plus0 (H T : List Blk) (x : Blk) : (H ++ T).set H.length x = H ++ T.set 0 x := set_plus H T 0 x

/-- Two of one's own. -/
structure Own2 (s1 s2 : Nat) (H : List Blk) (v : V) (xs : List V) (w : V) (ys : List V) : Prop where
  a : Own s1 H v xs
  b : Own s2 H w ys
  sep : Sep v w
section
variable {s1 s2 by_ : Nat} {H H' : List Blk} {v w : V} {xs ys zs : List V} {K : V → List Blk → Prop}
theorem Own2.symm (h : Own2 s1 s2 H v xs w ys) : Own2 s2 s1 H w ys v xs := ⟨h.b, h.a, h.sep.symm⟩
theorem Own2.nil (s1 s2 : Nat) (H : List Blk) : Own2 s1 s2 H .nils [] .nils [] := ⟨.nil _ _, .nil _ _, fun b h => h.elim⟩
theorem Own2.keep (h : Own2 s1 s2 H v xs w ys) (k : Keeps H H') : Own2 s1 s2 H' v xs w ys := ⟨h.a.keep k, h.b.keep k, h.sep⟩
theorem Own2.app (h : Own2 s1 s2 H v xs w ys) (hx : Goods s1 xs) (hz : Goods s1 zs) (hr : roomy (xs.length + zs.length) by_) (hk : ∀ v' H', Own2 s1 s2 H' v' (xs ++ zs) w ys → KeepsBut v H H' → K v' H') : appK s1 by_ v zs H K :=
  h.a.appS hx hz hr fun v' H' h1 h2 h3 => hk v' H' ⟨h1, h.b.but h2 h.sep, fun b hb hw => by
    rcases h3 b hb with h4 | h4
    · exact h.sep b h4 hw
    · have := h.b.lt hw; omega⟩ h2
/-- One of them is put in the place of a new one. -/
theorem Own2.put {v' : V} {xs' : List V} (h : Own2 s1 s2 H v xs w ys) (k : Keeps H H') (h' : Own s1 H' v' xs') (hf : ∀ b, hasB v' b → H.length ≤ b) : Own2 s1 s2 H' v' xs' w ys :=
  ⟨h', h.b.keep k, fun b hb hw => by have := hf b hb; have := h.b.lt hw; omega⟩
end

/-- The part of a slice below a place, and from a place on. -/
def cutLo (k : Nat) : V → V
  | .hs b n i j _ cap sz => .hs b n i j k cap sz
  | v => v
def cutHi (l : Nat) : V → V
  | .hs b n i j len cap sz => if l = 0 then .hs b n i j len cap sz else if l = len then .vs [] else .hs b n (i + l) j (len - l) (cap.map (· - l)) sz
  | v => v
section
variable {sz : Nat} {H H' : List Blk} {v : V} {xs : List V} {k : Nat} {K : V → Prop}
theorem own_lo (h : Own sz H v xs) (hx : k ≤ xs.length) {kd : IntKind} (hk : Keeps H H') : slK H' sz v none (some (.int kd k)) none K = K (cutLo k v) := by
  rcases h with ⟨rfl, rfl⟩ | ⟨b, cap, opn, rfl, hb, hc⟩
  · obtain rfl : k = 0 := by simpa using hx
    simp [slK, bnd, cutLo]
  · have hb' : getB H' b = .row sz xs opn false := by rw [hk.2 b (getB_lt' hb)]; exact hb
    rcases hc with rfl | rfl
    · simp [slK, bnd, cutLo, slHK, hb', hx]
    · simp [slK, bnd, cutLo, slHK, hb', hx]
theorem own_hi (h : Own sz H v xs) (hx : k ≤ xs.length) {kd : IntKind} (hk : Keeps H H') : slK H' sz v (some (.int kd k)) none none K = K (cutHi k v) := by
  rcases h with ⟨rfl, rfl⟩ | ⟨b, cap, opn, rfl, hb, hc⟩
  · obtain rfl : k = 0 := by simpa using hx
    simp [slK, bnd, cutHi]
  · have hb' : getB H' b = .row sz xs opn false := by rw [hk.2 b (getB_lt' hb)]; exact hb
    by_cases h0 : k = 0
    · subst h0
      rcases hc with rfl | rfl <;> simp [slK, bnd, cutHi, slHK, hb']
    · by_cases h1 : k = xs.length
      · subst h1
        rcases hc with rfl | rfl <;> simp [slK, bnd, cutHi, slHK, hb', h0]
      · rcases hc with rfl | rfl <;> simp [slK, bnd, cutHi, slHK, hb', h0, h1, hx]
theorem els_lo (h : Own sz H v xs) (hx : k ≤ xs.length) (hk : Keeps H H') {C : List V → Prop} : elemsK H' (cutLo k v) C = C (xs.take k) := by
  rcases h with ⟨rfl, rfl⟩ | ⟨b, cap, opn, rfl, hb, hc⟩
  · simp [cutLo, elemsK]
  · have hb' : getB H' b = .row sz xs opn false := by rw [hk.2 b (getB_lt' hb)]; exact hb
    simp [cutLo, elemsK, hb', hx]
theorem els_hi (h : Own sz H v xs) (hx : k ≤ xs.length) (hk : Keeps H H') {C : List V → Prop} : elemsK H' (cutHi k v) C = C (xs.drop k) := by
  rcases h with ⟨rfl, rfl⟩ | ⟨b, cap, opn, rfl, hb, hc⟩
  · simp [cutHi, elemsK]
  · have hb' : getB H' b = .row sz xs opn false := by rw [hk.2 b (getB_lt' hb)]; exact hb
    by_cases h0 : k = 0
    · subst h0
      simp [cutHi, elemsK, hb']
    · by_cases h1 : k = xs.length
      · subst h1
        simp [cutHi, elemsK, h0]
      · have e : k + (xs.length - k) = xs.length := by omega
        have e2 : (xs.drop k).take (xs.length - k) = xs.drop k := List.take_of_length_le (by simp)
        simp [cutHi, elemsK, hb', h0, h1, e, e2]
/-- All of its elements. -/
theorem els_own (h : Own sz H v xs) (hk : Keeps H H') {C : List V → Prop} : elemsK H' v C = C xs := by
  rcases h with ⟨rfl, rfl⟩ | ⟨b, cap, opn, rfl, hb, hc⟩
  · rfl
  · have hb' : getB H' b = .row sz xs opn false := by rw [hk.2 b (getB_lt' hb)]; exact hb
    simp [elemsK, hb']
/-- An element's address, and the element. -/
def elP (n : Nat) : V → V
  | .hs b m i j _ _ _ => .ptr b m (i + n) j
  | v => v
theorem own_ia (h : Own sz H v xs) {n : Int} (h0 : 0 ≤ n) (hn : n.toNat < xs.length) {kd : IntKind} : iaK H sz v (.int kd n) K = K (elP n.toNat v) := by
  rcases h with ⟨rfl, rfl⟩ | ⟨b, cap, opn, rfl, hb, hc⟩
  · simp at hn
  · simp [iaK, elP, hb, h0, hn]
theorem own_ld (h : Own sz H v xs) {n : Nat} (hn : n < xs.length) {m : Nat} (hm : m = sz) {K : V → List Blk → Prop} : ldK (some m) (elP n v) H K = K (.agg (xs.getD n .junk).cells) H := by
  subst hm
  rcases h with ⟨rfl, rfl⟩ | ⟨b, cap, opn, rfl, hb, hc⟩
  · simp at hn
  · simp [ldK, elP, hb, hn, sub]
theorem own_ld1 (h : Own 1 H v xs) {n : Nat} (hn : n < xs.length) {K : V → List Blk → Prop} : ldK none (elP n v) H K = K ((xs.getD n .junk).cells.getD 0 .junk) H := by
  rcases h with ⟨rfl, rfl⟩ | ⟨b, cap, opn, rfl, hb, hc⟩
  · simp at hn
  · simp [ldK, elP, hb, hn]
end

/-- Numbers as elements. -/
def intE : El Int where
  sz := 1
  f n := .int .i64 n
  d := 0
  im := false
  good n := ⟨rfl, by simp [V.cells, V.one]⟩
  free n j hj := by obtain rfl : j = 0 := by omega
                    exact .int _ _
theorem intE_ints (l : List Int) : intE.vs l = ints l := rfl

end Go.MW
