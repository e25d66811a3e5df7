import Derived.Test.YtlcbogafgdofgaaDoorMwB8
/- Store: many objects, put one behind the other, and some dropped (the plain law). -/
namespace Go.Proofs.YtlcbogafgdofgaaDoor
open Go Go.MW
set_option linter.unusedSimpArgs false
set_option linter.unusedVariables false
set_option maxRecDepth 8000

/-- An object: where it is, and what it is. -/
abbrev Ob := List (Int × Int) × List UInt8
def obN (p : Ob) : Int := rsum (cut p.2.length)
structure Good1 (S : SB) (p : Ob) : Prop where
  n : 1 ≤ p.2.length ∧ p.2.length ≤ 4096
  cl : p.1.map (clX S.1) = cut p.2.length
  rd : ∃ z, p.1.flatMap (rdS S.1 S.2) = p.2 ++ List.replicate z 0
structure SInv (S : SB) (ps : List Ob) : Prop where
  w : W S
  nd : (ps.flatMap (·.1)).Nodup
  has : ∀ x ∈ ps.flatMap (·.1), hasX S.1 x = true
  g : ∀ p ∈ ps, Good1 S p
  sum : cnt sgTaken S.1 = isum (ps.map obN)

theorem Good1.keep {S S' : SB} {p : Ob} (h : Good1 S p) (hs : ∀ x ∈ p.1, rdS S'.1 S'.2 x = rdS S.1 S.2 x ∧ clX S'.1 x = clX S.1 x) : Good1 S' p :=
  ⟨h.n, by rw [← h.cl]; exact List.map_congr_left fun x hx => (hs x hx).2, by rw [flat_same fun x hx => (hs x hx).1]; exact h.rd⟩

theorem SInv.put {S S' : SB} {ps : List Ob} (h : SInv S ps) {d : List UInt8} {xs : List (Int × Int)} (hd : 1 ≤ d.length ∧ d.length ≤ 4096) (p : PutL S (cut d.length) d xs S') : SInv S' (ps ++ [(xs, d)]) := by
  have hfl : (ps ++ [(xs, d)]).flatMap (·.1) = ps.flatMap (·.1) ++ xs := by simp
  refine ⟨p.w, ?_, ?_, ?_, ?_⟩
  · rw [hfl, List.nodup_append]
    refine ⟨h.nd, p.nd, fun a ha b hb e => ?_⟩
    subst e
    have := p.no a hb
    rw [h.has a ha] at this
    cases this
  · rw [hfl]
    intro x hx
    rcases List.mem_append.1 hx with hx | hx
    · rw [p.oth x fun hy => by have := p.no x hy; rw [h.has x hx] at this; cases this]
      exact h.has x hx
    · exact p.has x hx
  · intro o ho
    rcases List.mem_append.1 ho with ho | ho
    · exact (h.g o ho).keep fun x hx => p.rdo x (h.has x (List.mem_flatMap.2 ⟨o, ho, hx⟩))
    · obtain rfl := List.mem_singleton.1 ho
      exact ⟨hd, p.cl, _, p.rd⟩
  · rw [p.cnt, h.sum, List.map_append, isum_append]
    simp [isum, obN]

theorem isum_erase : ∀ (l : List Int) (k : Nat) (h : k < l.length), isum (l.eraseIdx k) = isum l - l[k]
  | [], k, h => by simp at h
  | a :: l, 0, _ => by simp [isum_cons]; omega
  | a :: l, k + 1, h => by
    have := isum_erase l k (by simpa using h)
    simp only [List.eraseIdx_cons_succ, isum_cons, List.getElem_cons_succ]
    omega
theorem erase_map {α β : Type} (f : α → β) : ∀ (l : List α) (k : Nat), (l.eraseIdx k).map f = (l.map f).eraseIdx k
  | [], k => by simp
  | a :: l, 0 => rfl
  | a :: l, k + 1 => by simp [erase_map f l k]
theorem flat_erase {α β : Type} (f : α → List β) : ∀ (l : List α) (k : Nat) (h : k < l.length), (l.flatMap f).Perm (f l[k] ++ (l.eraseIdx k).flatMap f)
  | [], k, h => by simp at h
  | a :: l, 0, _ => by simp
  | a :: l, k + 1, h => by
    have := flat_erase f l k (by simpa using h)
    simp only [List.flatMap_cons, List.eraseIdx_cons_succ, List.getElem_cons_succ]
    refine (List.Perm.append_left _ this).trans ?_
    rw [← List.append_assoc, ← List.append_assoc]
    exact List.Perm.append_right _ List.perm_append_comm

theorem SInv.drop {S : SB} {ps : List Ob} (h : SInv S ps) {k : Nat} (hk : k < ps.length) : (dropS S.1 S.2 ps[k].1).2 = 0 ∧ SInv (dropS S.1 S.2 ps[k].1).1 (ps.eraseIdx k) ∧ (dropS S.1 S.2 ps[k].1).1.1.length = S.1.length := by
  have hp := flat_erase (·.1) ps k hk
  have hnd := hp.nodup_iff.1 h.nd
  rw [List.nodup_append] at hnd
  obtain ⟨n1, n2, n3⟩ := hnd
  have hh : ∀ x ∈ ps[k].1, hasX S.1 x = true := fun x hx => h.has x (hp.mem_iff.2 (List.mem_append_left _ hx))
  have hne : ∀ x ∈ (ps.eraseIdx k).flatMap (·.1), x ∉ ps[k].1 := fun x hx hy => n3 x hy x hx rfl
  have ho : ∀ x ∈ (ps.eraseIdx k).flatMap (·.1), hasX S.1 x = true := fun x hx => h.has x (hp.mem_iff.2 (List.mem_append_right _ hx))
  have dl := drops_law ps[k].1 h.w hh n1
  rw [dropS_ok h.w hh n1]
  refine ⟨rfl, ⟨dl.w, n2, fun x hx => ?_, fun p hp' => ?_, ?_⟩, dl.len⟩
  · rw [dl.oth x (hne x hx)]; exact ho x hx
  · refine (h.g p (List.mem_of_mem_eraseIdx hp')).keep fun x hx => ?_
    have hm : x ∈ (ps.eraseIdx k).flatMap (·.1) := List.mem_flatMap.2 ⟨p, hp', hx⟩
    exact dl.rdo x (hne x hm) (ho x hm)
  · have e := dl.cnt
    rw [(h.g _ (List.getElem_mem hk)).cl] at e
    rw [erase_map, isum_erase _ _ (by simpa using hk), ← h.sum, e]
    simp [obN]

theorem SInv.get {S : SB} {ps : List Ob} (h : SInv S ps) {p : Ob} (hp : p ∈ ps) : getS S.1 S.2 p.1 p.2.length = (p.2, 0) := by
  obtain ⟨z, hz⟩ := (h.g p hp).rd
  rw [getS_ok h.w (fun x hx => h.has x (List.mem_flatMap.2 ⟨p, hp, hx⟩)) (by omega) (by rw [hz]; simp; omega), hz]
  simp

theorem SInv.new (n : Nat) (hn : n ≤ 200) : SInv (List.replicate n (-1, 0), List.replicate (n * 512) 0) [] := by
  have w := W_new n hn
  refine ⟨w, by simp, by simp, by simp, ?_⟩
  have : ∀ m, isum ((List.replicate m ((-1, 0) : Sg)).map sgTaken) = 0 := by
    intro m
    induction m with
    | zero => rfl
    | succ m ih =>
      have h0 : sgTaken (-1, 0) = 0 := by decide +kernel
      rw [List.replicate_succ, List.map_cons, isum_cons, ih, h0]; rfl
  show cnt sgTaken (List.replicate n (-1, 0)) = 0
  unfold cnt
  rw [this]
  split <;> rfl

/-- Texts as elements. -/
def strE : El (List UInt8) where
  sz := 1
  f s := .str s
  d := []
  im := false
  good n := ⟨rfl, by simp [V.cells, V.one]⟩
  free n j hj := by obtain rfl : j = 0 := by omega
                    exact .str _
theorem iaK_str {v : V} {l : List (List UInt8)} (h : IsE strE v l) {H : List Blk} {k : IntKind} {n : Int} {K : V → Prop} (h0 : 0 ≤ n) (hn : n.toNat < l.length) : iaK H 1 v (.int k n) K = K (.vp [.str (l.getD n.toNat [])]) :=
  iaK_isE h (e := strE) rfl h0 hn

end Go.Proofs.YtlcbogafgdofgaaDoor

/- Store: many objects, put one behind the other, and some dropped (the walk). -/
namespace Go.Proofs.YtlcbogafgdofgaaDoor
open Go Go.MW
set_option linter.unusedSimpArgs false
set_option linter.unusedVariables false
set_option maxRecDepth 20000

theorem ch_cells (c : Ch) : c.v.cells = [c.v] ∧ c.v.one = true ∧ c.v.solid = true := by
  rcases c.h with ⟨h, _⟩ | h <;> rw [h] <;> exact ⟨rfl, rfl, rfl⟩
theorem ch_at {l : List Ch} {k : Nat} (h : k < l.length) : ((chE.vs l).getD k .junk).cells.getD 0 .junk = (l.getD k chE.d).v := by
  rw [El.vs_getD h]
  show (l.getD k chE.d).v.cells.getD 0 .junk = _
  rw [(ch_cells _).1]; rfl
theorem str_at {l : List (List UInt8)} {k : Nat} (h : k < l.length) : ((strE.vs l).getD k .junk).cells.getD 0 .junk = .str (l.getD k []) := by
  rw [El.vs_getD h]; rfl
/-- What is left when one is taken out. -/
theorem vs_erase {α : Type} (e : El α) : ∀ (l : List α) (k : Nat), ([] ++ (e.vs l).take k) ++ (e.vs l).drop (k + 1) = e.vs (l.eraseIdx k)
  | [], k => by simp [El.vs]
  | a :: l, 0 => by simp [El.vs]
  | a :: l, k + 1 => by
    have := vs_erase e l k
    simp only [El.vs, List.nil_append] at this
    simp [El.vs, this]
theorem Own2.mod {S : Nat → Prop} {H H' : List Blk} {s1 s2 : Nat} {v w : V} {xs ys : List V} (h : Own2 s1 s2 H v xs w ys) (m : Mod S H H') (h1 : ∀ c, hasB v c → ¬ S c) (h2 : ∀ c, hasB w c → ¬ S c) : Own2 s1 s2 H' v xs w ys :=
  ⟨m.own h.a h1, m.own h.b h2, h.sep⟩
theorem Own2.app3 {s1 s2 by_ : Nat} {H : List Blk} {v w : V} {xs ys zs : List V} {K : V → List Blk → Prop} (h : Own2 s1 s2 H v xs w ys) (hx : Goods s1 xs) (hz : Goods s1 zs) (hr : roomy (xs.length + zs.length) by_) (hk : ∀ v' H', Own2 s1 s2 H' v' (xs ++ zs) w ys → KeepsBut v H H' → (∀ b, hasB v' b → hasB v b ∨ H.length ≤ b) → K v' H') : appK s1 by_ v zs H K :=
  h.a.appS hx hz hr fun v' H' h1 h2 h3 => hk v' H' ⟨h1, h.b.but h2 h.sep, fun b hb hw => by
    rcases h3 b hb with h4 | h4
    · exact h.sep b h4 hw
    · have := h.b.lt hw; omega⟩ h2 h3

/-- The stand of things. -/
structure AS (H : List Blk) (S : SB) (ps : List Ob) (v : V) (chs : List Ch) (v8 v9 : V) : Prop where
  inv : SInv S ps
  len : S.1.length = 20
  iv : IsE segE v S.1
  ch : chs.map (·.xs) = ps.map (·.1)
  ow : Own2 1 1 H v8 (chE.vs chs) v9 (strE.vs (ps.map (·.2)))
  n0 : ∀ c, hasB v8 c ∨ hasB v9 c → 1 ≤ c
theorem AS.chl {H : List Blk} {S : SB} {ps : List Ob} {v : V} {chs : List Ch} {v8 v9 : V} (h : AS H S ps v chs v8 v9) : chs.length = ps.length := by
  have := congrArg List.length h.ch
  simpa using this
theorem AS.at {H : List Blk} {S : SB} {ps : List Ob} {v : V} {chs : List Ch} {v8 v9 : V} (h : AS H S ps v chs v8 v9) {k : Nat} (hk : k < ps.length) : (chs.getD k chE.d).xs = ps[k].1 := by
  have hk' : k < chs.length := by rw [h.chl]; exact hk
  have := congrArg (·[k]?) h.ch
  simp only [List.getElem?_map, List.getElem?_eq_getElem hk, List.getElem?_eq_getElem hk', Option.map_some, Option.some.injEq] at this
  rw [List.getD_eq_getElem?_getD, List.getElem?_eq_getElem hk']
  exact this
theorem AS.dat {ps : List Ob} {k : Nat} (hk : k < ps.length) : (ps.map (·.2)).getD k [] = ps[k].2 := by
  rw [List.getD_eq_getElem?_getD, List.getElem?_map, List.getElem?_eq_getElem hk]; rfl
theorem AS.mod {M : Nat → Prop} {H H' : List Blk} {S : SB} {ps : List Ob} {v : V} {chs : List Ch} {v8 v9 : V} (h : AS H S ps v chs v8 v9) (m : Mod M H H') (hm : ∀ c, hasB v8 c ∨ hasB v9 c → ¬ M c) : AS H' S ps v chs v8 v9 :=
  ⟨h.inv, h.len, h.iv, h.ch, Own2.mod h.ow m (fun c hc => hm c (.inl hc)) (fun c hc => hm c (.inr hc)), h.n0⟩
theorem obN_le (p : Ob) (h : 1 ≤ p.2.length ∧ p.2.length ≤ 4096) : 0 ≤ obN p ∧ obN p ≤ 4160 := by
  have h1 := rsum_range (cut p.2.length)
  have h2 := cut_len (n := (p.2.length : Int)) (by omega)
  unfold obN
  omega
theorem SInv.len_lt {S : SB} {ps : List Ob} (h : SInv S ps) {p : Ob} (hp : p ∈ ps) : p.1.length < 2 ^ 40 := by
  have g := h.g p hp
  have h1 := cut_len (n := (p.2.length : Int)) (by have := g.n; omega)
  have h2 := congrArg List.length g.cl
  rw [List.length_map] at h2
  omega
theorem tmod_nat (a b : Nat) : Int.tmod (a : Int) (b : Int) = ((a % b : Nat) : Int) := by
  rw [Int.tmod_eq_emod_of_nonneg (by omega)]; omega

theorem all_fn12 {va : V} {l : List (List UInt8)} (ha : IsE strE va l) {vd : V} {dr : List UInt8} (hd : IsE u8E vd dr) : Does Tryd.prog G0 true 6 [va, vd] (.bool true) := by
  refine Does.intro mixed comp6 ?_
  unfold c6
  simp -implicitDefEqProofs (disch := omega) only [mwx, ne_eq, false_implies, implies_true, forall_eq_or_imp, MW.get, ev, evs, argFr, resK, packV, slHK, partsV, partsS, setR, Int.cast_ofNat_Int, Int.natCast_zero, Int.natCast_one, Nat.reduceLeDiff, reduceIte, Nat.reduceEqDiff, Nat.reduceBEq, reduceCtorEq, Nat.reduceAdd, Nat.reduceMul, Nat.reduceSub, Nat.reduceLT, Int.reduceToNat, Int.reduceLT, Int.reduceLE, Int.reduceEq, Int.reduceAdd, Int.reduceNeg, Int.reduceMul, Int.reduceSub]
  refine Does.call awake_fn fr0 ?_
  simp -implicitDefEqProofs (disch := omega) only [mwx, ne_eq, false_implies, implies_true, forall_eq_or_imp, MW.get, ev, evs, argFr, resK, packV, slHK, partsV, partsS, setR, Int.cast_ofNat_Int, Int.natCast_zero, Int.natCast_one, Nat.reduceLeDiff, reduceIte, Nat.reduceEqDiff, Nat.reduceBEq, reduceCtorEq, Nat.reduceAdd, Nat.reduceMul, Nat.reduceSub, Nat.reduceLT, Int.reduceToNat, Int.reduceLT, Int.reduceLE, Int.reduceEq, Int.reduceAdd, Int.reduceNeg, Int.reduceMul, Int.reduceSub]
  refine Does.call (newS_fn 20 (by decide)) (fr1 (.int _ _)) ?_
  have inv0 : SInv (List.replicate 20 (-1, 0), List.replicate (20 * 512) 0) [] := SInv.new 20 (by decide)
  generalize hS : ((List.replicate 20 (-1, 0), List.replicate (20 * 512) 0) : SB) = S0 at inv0
  have e1 : (List.replicate 20 (-1, 0) : List Sg) = S0.1 := by rw [← hS]
  have e2 : (List.replicate (20 * 512) 0 : List UInt8) = S0.2 := by rw [← hS]
  have e3 : S0.1.length = 20 := by rw [← e1]; rfl
  rw [e1, e2]
  clear hS e1 e2
  simp -implicitDefEqProofs (disch := omega) only [lenK_isE ha, mwx, ne_eq, false_implies, implies_true, forall_eq_or_imp, MW.get, ev, evs, argFr, resK, packV, slHK, partsV, partsS, setR, Int.cast_ofNat_Int, Int.natCast_zero, Int.natCast_one, Nat.reduceLeDiff, reduceIte, Nat.reduceEqDiff, Nat.reduceBEq, reduceCtorEq, Nat.reduceAdd, Nat.reduceMul, Nat.reduceSub, Nat.reduceLT, Int.reduceToNat, Int.reduceLT, Int.reduceLE, Int.reduceEq, Int.reduceAdd, Int.reduceNeg, Int.reduceMul, Int.reduceSub]
  refine xg_decf (fun h => ?_) fun h => ?_
  · simp -implicitDefEqProofs (disch := omega) only [h, mwx, ne_eq, false_implies, implies_true, forall_eq_or_imp, MW.get, ev, evs, argFr, resK, packV, slHK, partsV, partsS, setR, Int.cast_ofNat_Int, Int.natCast_zero, Int.natCast_one, Nat.reduceLeDiff, reduceIte, Nat.reduceEqDiff, Nat.reduceBEq, reduceCtorEq, Nat.reduceAdd, Nat.reduceMul, Nat.reduceSub, Nat.reduceLT, Int.reduceToNat, Int.reduceLT, Int.reduceLE, Int.reduceEq, Int.reduceAdd, Int.reduceNeg, Int.reduceMul, Int.reduceSub]
    exact frz_bool rfl
  simp -implicitDefEqProofs (disch := omega) only [h, lenK_isE hd, mwx, ne_eq, false_implies, implies_true, forall_eq_or_imp, MW.get, ev, evs, argFr, resK, packV, slHK, partsV, partsS, setR, Int.cast_ofNat_Int, Int.natCast_zero, Int.natCast_one, Nat.reduceLeDiff, reduceIte, Nat.reduceEqDiff, Nat.reduceBEq, reduceCtorEq, Nat.reduceAdd, Nat.reduceMul, Nat.reduceSub, Nat.reduceLT, Int.reduceToNat, Int.reduceLT, Int.reduceLE, Int.reduceEq, Int.reduceAdd, Int.reduceNeg, Int.reduceMul, Int.reduceSub]
  refine xg_decf (fun h' => ?_) fun h' => ?_
  · simp -implicitDefEqProofs (disch := omega) only [h', mwx, ne_eq, false_implies, implies_true, forall_eq_or_imp, MW.get, ev, evs, argFr, resK, packV, slHK, partsV, partsS, setR, Int.cast_ofNat_Int, Int.natCast_zero, Int.natCast_one, Nat.reduceLeDiff, reduceIte, Nat.reduceEqDiff, Nat.reduceBEq, reduceCtorEq, Nat.reduceAdd, Nat.reduceMul, Nat.reduceSub, Nat.reduceLT, Int.reduceToNat, Int.reduceLT, Int.reduceLE, Int.reduceEq, Int.reduceAdd, Int.reduceNeg, Int.reduceMul, Int.reduceSub]
    exact frz_bool rfl
  have hlen : l.length ≤ 30 := by omega
  have hdl : dr.length ≤ 30 := by omega
  simp -implicitDefEqProofs (disch := omega) only [h', mwx, ne_eq, false_implies, implies_true, forall_eq_or_imp, MW.get, ev, evs, argFr, resK, packV, slHK, partsV, partsS, setR, Int.cast_ofNat_Int, Int.natCast_zero, Int.natCast_one, Nat.reduceLeDiff, reduceIte, Nat.reduceEqDiff, Nat.reduceBEq, reduceCtorEq, Nat.reduceAdd, Nat.reduceMul, Nat.reduceSub, Nat.reduceLT, Int.reduceToNat, Int.reduceLT, Int.reduceLE, Int.reduceEq, Int.reduceAdd, Int.reduceNeg, Int.reduceMul, Int.reduceSub]
  have hroom : ∀ m b, m ≤ 300 → b ≤ 128 → roomy m b := fun m b h1 h2 => roomy_of (by omega) h2
  refine xl_loop (fun k st => ∃ (i : Nat) (S : SB) (ps : List Ob) (v : V) (chs : List Ch) (v8 v9 : V), k + i = l.length ∧ AS st.H S ps v chs v8 v9 ∧ ps.length ≤ i ∧ getB st.H 0 = .row 2 [.agg [v, .str S.2]] false false ∧
      get st.fr 0 = va ∧ get st.fr 1 = vd ∧ get st.fr 5 = .bool true ∧ get st.fr 6 = .ptr 0 1 0 0 ∧ get st.fr 8 = v8 ∧ get st.fr 9 = v9 ∧ get st.fr 10 = .int .i64 i) l.length
    ⟨0, S0, [], _, [], .nils, .nils, by omega, ⟨inv0, e3, isE_vs _, rfl, .nil _ _ _, fun c h => by rcases h with h | h <;> exact h.elim⟩, by simp, rfl, rfl, rfl, rfl, rfl, rfl, rfl, rfl⟩ ?_
  clear inv0 e3 S0
  rintro J hJ k fr H ⟨i, S, ps, v, chs, v8, v9, k1, A, k2, hb0, h0, h1, h5, h6, h8, h9, h10⟩
  simp -implicitDefEqProofs (disch := omega) only [h0, h10, lenK_isE ha, mwx, ne_eq, false_implies, implies_true, forall_eq_or_imp, MW.get, ev, evs, argFr, resK, packV, slHK, partsV, partsS, setR, Int.cast_ofNat_Int, Int.natCast_zero, Int.natCast_one, Nat.reduceLeDiff, reduceIte, Nat.reduceEqDiff, Nat.reduceBEq, reduceCtorEq, Nat.reduceAdd, Nat.reduceMul, Nat.reduceSub, Nat.reduceLT, Int.reduceToNat, Int.reduceLT, Int.reduceLE, Int.reduceEq, Int.reduceAdd, Int.reduceNeg, Int.reduceMul, Int.reduceSub]
  refine xc_dec (fun h11 => ?_) fun h11 => ?_
  · have hi : i < l.length := by omega
    have hi0 : (0 : Int) ≤ (i : Int) := by omega
    have hi1 : (i : Int).toNat < l.length := by simpa using hi
    have hw : IntKind.i64.wrap ((i : Int) + 1) = ((i + 1 : Nat) : Int) := wrap64 (n := ((i + 1 : Nat) : Int)) (by omega) (by omega)
    simp -implicitDefEqProofs (disch := omega) only [h0, h10, iaK_str ha hi0 hi1, mwx, ne_eq, false_implies, implies_true, forall_eq_or_imp, MW.get, ev, evs, argFr, resK, packV, slHK, partsV, partsS, setR, Int.cast_ofNat_Int, Int.natCast_zero, Int.natCast_one, Nat.reduceLeDiff, reduceIte, Nat.reduceEqDiff, Nat.reduceBEq, reduceCtorEq, Nat.reduceAdd, Nat.reduceMul, Nat.reduceSub, Nat.reduceLT, Int.reduceToNat, Int.reduceLT, Int.reduceLE, Int.reduceEq, Int.reduceAdd, Int.reduceNeg, Int.reduceMul, Int.reduceSub]
    refine xc_dec (fun h12 => ?_) fun h12 => ?_
    · simp -implicitDefEqProofs (disch := omega) only [h5, mwx, ne_eq, false_implies, implies_true, forall_eq_or_imp, MW.get, ev, evs, argFr, resK, packV, slHK, partsV, partsS, setR, Int.cast_ofNat_Int, Int.natCast_zero, Int.natCast_one, Nat.reduceLeDiff, reduceIte, Nat.reduceEqDiff, Nat.reduceBEq, reduceCtorEq, Nat.reduceAdd, Nat.reduceMul, Nat.reduceSub, Nat.reduceLT, Int.reduceToNat, Int.reduceLT, Int.reduceLE, Int.reduceEq, Int.reduceAdd, Int.reduceNeg, Int.reduceMul, Int.reduceSub]
      exact frz_bool rfl
    generalize hdd : l.getD i [] = d at *
    have hb1 : getB (H ++ [.row 2 [.agg [.nils, .str []]] false false]) 0 = .row 2 [.agg [v, .str S.2]] false false := by rw [getB_app' (getB_lt' hb0)]; exact hb0
    have hbl := A.inv.w.b
    have hl20 := A.len
    have hH0 : 0 < H.length := getB_lt' hb0
    obtain ⟨v1, w1, i1, c1, d1⟩ := put_fn A.iv A.inv.w.ok (by omega) (b := S.2) (by omega) (d := d) (by omega)
    have o1 := (isE_one i1).2.2
    obtain ⟨q1, q2, q3⟩ := ch_cells ⟨w1, _, c1⟩
    have q1' : w1.cells.length = 1 := by rw [q1]; rfl
    simp -implicitDefEqProofs (disch := omega) only [h0, h6, h10, hb1, hdd, iaK_str ha hi0 hi1, mwx, ne_eq, false_implies, implies_true, forall_eq_or_imp, MW.get, ev, evs, argFr, resK, packV, slHK, partsV, partsS, setR, Int.cast_ofNat_Int, Int.natCast_zero, Int.natCast_one, Nat.reduceLeDiff, reduceIte, Nat.reduceEqDiff, Nat.reduceBEq, reduceCtorEq, Nat.reduceAdd, Nat.reduceMul, Nat.reduceSub, Nat.reduceLT, Int.reduceToNat, Int.reduceLT, Int.reduceLE, Int.reduceEq, Int.reduceAdd, Int.reduceNeg, Int.reduceMul, Int.reduceSub]
    refine Does.call d1 (fr2 (store_free A.iv _) (.str _)) ?_
    simp -implicitDefEqProofs (disch := omega) only [o1, getB_plus0, set_plus0, mwx, ne_eq, false_implies, implies_true, forall_eq_or_imp, MW.get, ev, evs, argFr, resK, packV, slHK, partsV, partsS, setR, Int.cast_ofNat_Int, Int.natCast_zero, Int.natCast_one, Nat.reduceLeDiff, reduceIte, Nat.reduceEqDiff, Nat.reduceBEq, reduceCtorEq, Nat.reduceAdd, Nat.reduceMul, Nat.reduceSub, Nat.reduceLT, Int.reduceToNat, Int.reduceLT, Int.reduceLE, Int.reduceEq, Int.reduceAdd, Int.reduceNeg, Int.reduceMul, Int.reduceSub]
    refine xc_mid (fun st => ∃ (S' : SB) (ps' : List Ob) (v' : V) (chs' : List Ch) (v8 v9 : V) (c : Nat), AS st.H S' ps' v' chs' v8 v9 ∧ ps'.length ≤ i + 1 ∧ getB st.H 0 = .row 2 [.agg [v, .str S.2]] false false ∧ getB st.H c = .row 2 [.agg [v', .str S'.2]] false false ∧
      get st.fr 0 = va ∧ get st.fr 1 = vd ∧ get st.fr 5 = .bool true ∧ get st.fr 6 = .ptr 0 1 0 0 ∧ get st.fr 8 = v8 ∧ get st.fr 9 = v9 ∧ get st.fr 10 = .int .i64 i ∧ get st.fr 11 = .ptr c 1 0 0) (fun J2 hJ2 => ?_) ?_
    · have kH : Keeps H (H ++ [.row 2 [.agg [v1, .str (putS S.1 S.2 d).1.1.2]] false false]) := .app _ _
      refine xc_dec (fun he => ?_) fun he => ?_
      · obtain ⟨p1, p2, p⟩ := putS_law A.inv.w he
        have inv' := A.inv.put ⟨p1, p2⟩ p
        generalize putS S.1 S.2 d = R at *
        obtain ⟨⟨S', xs⟩, er⟩ := R
        simp only at *
        subst he
        simp -implicitDefEqProofs (disch := omega) only [h8, q1, q1', q2, q3, List.length_append, getB_plus, getB_plus0, mwx, ne_eq, false_implies, implies_true, forall_eq_or_imp, MW.get, ev, evs, argFr, resK, packV, slHK, partsV, partsS, setR, Int.cast_ofNat_Int, Int.natCast_zero, Int.natCast_one, Nat.reduceLeDiff, reduceIte, Nat.reduceEqDiff, Nat.reduceBEq, reduceCtorEq, Nat.reduceAdd, Nat.reduceMul, Nat.reduceSub, Nat.reduceLT, Int.reduceToNat, Int.reduceLT, Int.reduceLE, Int.reduceEq, Int.reduceAdd, Int.reduceNeg, Int.reduceMul, Int.reduceSub]
        have ow1 := A.ow.keep (.app H [.row 2 [.agg [v1, .str S'.2]] false false, .row 1 [w1] false false])
        have hcl := A.chl
        refine Own2.app3 ow1 (El.vs_goods _) (El.vs_goods (e := chE) [⟨w1, xs, c1⟩]) (hroom _ _ (by rw [El.vs_length]; simp [El.vs]; omega) (by decide)) fun u1 H1 ow2 kb1 nw1 => ?_
        simp -implicitDefEqProofs (disch := omega) only [h0, h9, h10, iaK_str ha hi0 hi1, hdd, List.length_append, getB_plus, getB_plus0, mwx, ne_eq, false_implies, implies_true, forall_eq_or_imp, MW.get, ev, evs, argFr, resK, packV, slHK, partsV, partsS, setR, Int.cast_ofNat_Int, Int.natCast_zero, Int.natCast_one, Nat.reduceLeDiff, reduceIte, Nat.reduceEqDiff, Nat.reduceBEq, reduceCtorEq, Nat.reduceAdd, Nat.reduceMul, Nat.reduceSub, Nat.reduceLT, Int.reduceToNat, Int.reduceLT, Int.reduceLE, Int.reduceEq, Int.reduceAdd, Int.reduceNeg, Int.reduceMul, Int.reduceSub]
        have ow3 := (ow2.keep (.app H1 [.row 1 [.str d] false false])).symm
        refine Own2.app3 ow3 (El.vs_goods _) (El.vs_goods (e := strE) [d]) (hroom _ _ (by rw [El.vs_length]; simp [El.vs]; omega) (by decide)) fun u2 H2 ow4 kb2 nw2 => ?_
        have v1e : chE.vs chs ++ [w1] = chE.vs (chs ++ [⟨w1, xs, c1⟩]) := El.vs_append (e := chE) chs [⟨w1, xs, c1⟩]
        have v2e : strE.vs (ps.map (·.2)) ++ [.str d] = strE.vs ((ps ++ [(xs, d)]).map (·.2)) := by rw [List.map_append]; exact El.vs_append (e := strE) (ps.map (·.2)) [d]
        have ow5 := ow4.symm
        rw [v1e, v2e] at ow5
        have n81 : ∀ c, hasB v8 c → 1 ≤ c ∧ c < H.length := fun c hc => ⟨A.n0 c (.inl hc), A.ow.a.lt hc⟩
        have n91 : ∀ c, hasB v9 c → 1 ≤ c ∧ c < H.length := fun c hc => ⟨A.n0 c (.inr hc), A.ow.b.lt hc⟩
        have hM : Mod (fun x => hasB v8 x ∨ hasB v9 x) (H ++ [.row 2 [.agg [v1, .str S'.2]] false false]) H2 := by
          have m1 : Mod (fun x => hasB v8 x ∨ hasB v9 x) (H ++ [.row 2 [.agg [v1, .str S'.2]] false false]) (H ++ [.row 2 [.agg [v1, .str S'.2]] false false, .row 1 [w1] false false]) := by
            have := Keeps.mod (Keeps.app (H ++ [.row 2 [.agg [v1, .str S'.2]] false false]) [.row 1 [w1] false false]) (fun x => hasB v8 x ∨ hasB v9 x)
            rwa [List.append_assoc] at this
          exact ((m1.trans (KeepsBut.mod kb1 fun c hc => .inl hc)).trans (Keeps.mod (Keeps.app _ _) _)).trans (KeepsBut.mod kb2 fun c hc => .inr hc)
        have g0 : getB H2 0 = .row 2 [.agg [v, .str S.2]] false false := by
          rw [hM.2 0 (by simp) (fun h => by rcases h with h | h; have := n81 0 h; omega; have := n91 0 h; omega), getB_app' hH0]
          exact hb0
        have g1 : getB H2 H.length = .row 2 [.agg [v1, .str S'.2]] false false := by
          rw [hM.2 H.length (by simp) (fun h => by rcases h with h | h; have := n81 _ h; omega; have := n91 _ h; omega)]
          exact getB_new _ _
        simp -implicitDefEqProofs (disch := omega) only [mwx, ne_eq, false_implies, implies_true, forall_eq_or_imp, MW.get, ev, evs, argFr, resK, packV, slHK, partsV, partsS, setR, Int.cast_ofNat_Int, Int.natCast_zero, Int.natCast_one, Nat.reduceLeDiff, reduceIte, Nat.reduceEqDiff, Nat.reduceBEq, reduceCtorEq, Nat.reduceAdd, Nat.reduceMul, Nat.reduceSub, Nat.reduceLT, Int.reduceToNat, Int.reduceLT, Int.reduceLE, Int.reduceEq, Int.reduceAdd, Int.reduceNeg, Int.reduceMul, Int.reduceSub]
        refine hJ2 _ ⟨S', ps ++ [(xs, d)], v1, chs ++ [⟨w1, xs, c1⟩], u1, u2, H.length, ⟨inv', by rw [p.len]; exact A.len, i1, by rw [List.map_append, List.map_append, A.ch]; rfl, ow5, fun c hc => ?_⟩, by simp; omega, g0, g1, h0, h1, h5, h6, rfl, rfl, h10, rfl⟩
        have l1 : H.length ≤ H1.length := by have := kb1.1; simp at this; omega
        rcases hc with hc | hc
        · rcases nw1 c hc with h | h
          · exact (n81 c h).1
          · simp at h; omega
        · rcases nw2 c hc with h | h
          · exact (n91 c h).1
          · simp at h; omega
      · have er := putS_err A.inv.w he
        rw [er] at i1 ⊢
        simp only at i1 ⊢
        simp -implicitDefEqProofs (disch := omega) only [mwx, ne_eq, false_implies, implies_true, forall_eq_or_imp, MW.get, ev, evs, argFr, resK, packV, slHK, partsV, partsS, setR, Int.cast_ofNat_Int, Int.natCast_zero, Int.natCast_one, Nat.reduceLeDiff, reduceIte, Nat.reduceEqDiff, Nat.reduceBEq, reduceCtorEq, Nat.reduceAdd, Nat.reduceMul, Nat.reduceSub, Nat.reduceLT, Int.reduceToNat, Int.reduceLT, Int.reduceLE, Int.reduceEq, Int.reduceAdd, Int.reduceNeg, Int.reduceMul, Int.reduceSub]
        refine hJ2 _ ⟨S, ps, v1, chs, v8, v9, H.length, ⟨A.inv, A.len, i1, A.ch, A.ow.keep (.app _ _), A.n0⟩, by omega, ?_, getB_new _ _, h0, h1, h5, h6, h8, h9, h10, rfl⟩
        rw [getB_app' hH0]; exact hb0
    · clear A hb0 hb1 hbl hl20 hH0 i1 c1 d1 o1 q1 q2 q3 q1' h8 h9
      rintro fr H ⟨S', ps', v', chs', v8', v9', c, A, k2', hb0, hbc, h0, h1, h5, h6, h8, h9, h10, h11⟩
      have hH0 : 0 < H.length := getB_lt' hb0
      have o1 := (isE_one A.iv).2.2
      have A' : AS (H.set 0 (.row 2 [.agg [v', .str S'.2]] false false)) S' ps' v' chs' v8' v9' := A.mod (M := fun x => x = 0) ⟨by simp, fun q hq hn => getB_set_ne _ (Ne.symm hn)⟩ fun c hc h => by have := A.n0 c hc; omega
      have hb0' : getB (H.set 0 (.row 2 [.agg [v', .str S'.2]] false false)) 0 = .row 2 [.agg [v', .str S'.2]] false false := getB_set _ hH0
      have hcl := A.chl
      have hsl : (strE.vs (ps'.map (·.2))).length = ps'.length := by rw [El.vs_length, List.length_map]
      have hcl' : (chE.vs chs').length = ps'.length := by rw [El.vs_length, hcl]
      simp -implicitDefEqProofs (disch := omega) only [h6, h11, hbc, hb0, o1, h1, h10, lenK_isE hd, mwx, ne_eq, false_implies, implies_true, forall_eq_or_imp, MW.get, ev, evs, argFr, resK, packV, slHK, partsV, partsS, setR, Int.cast_ofNat_Int, Int.natCast_zero, Int.natCast_one, Nat.reduceLeDiff, reduceIte, Nat.reduceEqDiff, Nat.reduceBEq, reduceCtorEq, Nat.reduceAdd, Nat.reduceMul, Nat.reduceSub, Nat.reduceLT, Int.reduceToNat, Int.reduceLT, Int.reduceLE, Int.reduceEq, Int.reduceAdd, Int.reduceNeg, Int.reduceMul, Int.reduceSub]
      refine xg_dec (fun h13 => ?_) fun h13 => ?_
      rotate_left
      · simp -implicitDefEqProofs (disch := omega) only [h13, h10, hw, mwx, ne_eq, false_implies, implies_true, forall_eq_or_imp, MW.get, ev, evs, argFr, resK, packV, slHK, partsV, partsS, setR, Int.cast_ofNat_Int, Int.natCast_zero, Int.natCast_one, Nat.reduceLeDiff, reduceIte, Nat.reduceEqDiff, Nat.reduceBEq, reduceCtorEq, Nat.reduceAdd, Nat.reduceMul, Nat.reduceSub, Nat.reduceLT, Int.reduceToNat, Int.reduceLT, Int.reduceLE, Int.reduceEq, Int.reduceAdd, Int.reduceNeg, Int.reduceMul, Int.reduceSub]
        exact ⟨k - 1, by omega, hJ _ _ ⟨i + 1, S', ps', v', chs', v8', v9', by omega, A', by omega, hb0', h0, h1, h5, h6, h8, h9, rfl⟩⟩
      simp -implicitDefEqProofs (disch := omega) only [h13, h9, lenK_own A'.ow.b, hsl, mwx, ne_eq, false_implies, implies_true, forall_eq_or_imp, MW.get, ev, evs, argFr, resK, packV, slHK, partsV, partsS, setR, Int.cast_ofNat_Int, Int.natCast_zero, Int.natCast_one, Nat.reduceLeDiff, reduceIte, Nat.reduceEqDiff, Nat.reduceBEq, reduceCtorEq, Nat.reduceAdd, Nat.reduceMul, Nat.reduceSub, Nat.reduceLT, Int.reduceToNat, Int.reduceLT, Int.reduceLE, Int.reduceEq, Int.reduceAdd, Int.reduceNeg, Int.reduceMul, Int.reduceSub]
      refine xg_dec (fun h14 => ?_) fun h14 => ?_
      rotate_left
      · simp -implicitDefEqProofs (disch := omega) only [h14, h10, hw, mwx, ne_eq, false_implies, implies_true, forall_eq_or_imp, MW.get, ev, evs, argFr, resK, packV, slHK, partsV, partsS, setR, Int.cast_ofNat_Int, Int.natCast_zero, Int.natCast_one, Nat.reduceLeDiff, reduceIte, Nat.reduceEqDiff, Nat.reduceBEq, reduceCtorEq, Nat.reduceAdd, Nat.reduceMul, Nat.reduceSub, Nat.reduceLT, Int.reduceToNat, Int.reduceLT, Int.reduceLE, Int.reduceEq, Int.reduceAdd, Int.reduceNeg, Int.reduceMul, Int.reduceSub]
        exact ⟨k - 1, by omega, hJ _ _ ⟨i + 1, S', ps', v', chs', v8', v9', by omega, A', by omega, hb0', h0, h1, h5, h6, h8, h9, rfl⟩⟩
      have hdi : (i : Int).toNat < dr.length := by omega
      generalize hm : (dr.getD i 0).toNat = m
      have hm2 : m < 256 := by rw [← hm]; exact UInt8.toNat_lt _
      simp -implicitDefEqProofs (disch := omega) only [h14, h1, h10, iaK_u8 hd hi0 hdi, hm, mwx, ne_eq, false_implies, implies_true, forall_eq_or_imp, MW.get, ev, evs, argFr, resK, packV, slHK, partsV, partsS, setR, Int.cast_ofNat_Int, Int.natCast_zero, Int.natCast_one, Nat.reduceLeDiff, reduceIte, Nat.reduceEqDiff, Nat.reduceBEq, reduceCtorEq, Nat.reduceAdd, Nat.reduceMul, Nat.reduceSub, Nat.reduceLT, Int.reduceToNat, Int.reduceLT, Int.reduceLE, Int.reduceEq, Int.reduceAdd, Int.reduceNeg, Int.reduceMul, Int.reduceSub]
      refine xc_dec (fun h15 => ?_) fun h15 => ?_
      rotate_left
      · simp -implicitDefEqProofs (disch := omega) only [h10, hw, mwx, ne_eq, false_implies, implies_true, forall_eq_or_imp, MW.get, ev, evs, argFr, resK, packV, slHK, partsV, partsS, setR, Int.cast_ofNat_Int, Int.natCast_zero, Int.natCast_one, Nat.reduceLeDiff, reduceIte, Nat.reduceEqDiff, Nat.reduceBEq, reduceCtorEq, Nat.reduceAdd, Nat.reduceMul, Nat.reduceSub, Nat.reduceLT, Int.reduceToNat, Int.reduceLT, Int.reduceLE, Int.reduceEq, Int.reduceAdd, Int.reduceNeg, Int.reduceMul, Int.reduceSub]
        exact ⟨k - 1, by omega, hJ _ _ ⟨i + 1, S', ps', v', chs', v8', v9', by omega, A', by omega, hb0', h0, h1, h5, h6, h8, h9, rfl⟩⟩
      have hw8 : IntKind.i64.wrap (m : Int) = m := wrap64 (by omega) (by omega)
      have hz : ¬ (ps'.length : Int) = 0 := by omega
      have t4 := tmod_nat m ps'.length
      generalize hq : m % ps'.length = q at t4
      have hq' : q < ps'.length := by rw [← hq]; exact Nat.mod_lt _ (by omega)
      have hq0 : (0 : Int) ≤ (q : Int) := by omega
      have hq1 : (q : Int).toNat < (chE.vs chs').length := by omega
      have hw1 : IntKind.i64.wrap ((q : Int) + 1) = ((q + 1 : Nat) : Int) := wrap64 (n := ((q + 1 : Nat) : Int)) (by omega) (by omega)
      obtain ⟨f1, f2, f3⟩ := A'.inv.drop hq'
      have hxs := A'.at hq'
      have hch := A'.ch
      have hlen' := A'.len
      obtain ⟨v2, i2, d2⟩ := drop_fn A'.iv A'.inv.w.ok (by have := A'.len; omega) (b := S'.2) (by have := A'.inv.w.b; have := A'.len; omega) (chs'.getD q chE.d).h (by rw [hxs]; exact A'.inv.len_lt (List.getElem_mem hq'))
      rw [hxs] at d2 i2
      have kn : Keeps (H.set 0 (.row 2 [.agg [v', .str S'.2]] false false)) (H.set 0 (.row 2 [.agg [v', .str S'.2]] false false) ++ [.row 2 [.agg [.nils, .str []]] false false]) := .app _ _
      have A2 := A'.mod (M := fun _ => False) (Keeps.mod kn _) fun _ _ h => h
      have hb2 : getB (H.set 0 (.row 2 [.agg [v', .str S'.2]] false false) ++ [.row 2 [.agg [.nils, .str []]] false false]) 0 = .row 2 [.agg [v', .str S'.2]] false false := by rw [getB_app' (by simpa using hH0)]; exact hb0'
      generalize hG : H.set 0 (Blk.row 2 [.agg [v', .str S'.2]] false false) = G at *
      simp -implicitDefEqProofs (disch := omega) only [h1, h9, h10, iaK_u8 hd hi0 hdi, hm, hw8, lenK_own A'.ow.b, hsl, hz, t4, h6, h8, hb2, own_ia A2.ow.a hq0 hq1, own_ld1 A2.ow.a (n := q) (by omega), ch_at (k := q) (l := chs') (by omega), mwx, ne_eq, false_implies, implies_true, forall_eq_or_imp, MW.get, ev, evs, argFr, resK, packV, slHK, partsV, partsS, setR, Int.cast_ofNat_Int, Int.natCast_zero, Int.natCast_one, Nat.reduceLeDiff, reduceIte, Nat.reduceEqDiff, Nat.reduceBEq, reduceCtorEq, Nat.reduceAdd, Nat.reduceMul, Nat.reduceSub, Nat.reduceLT, Int.reduceToNat, Int.reduceLT, Int.reduceLE, Int.reduceEq, Int.reduceAdd, Int.reduceNeg, Int.reduceMul, Int.reduceSub]
      refine Does.call d2 (fr2 (store_free A'.iv _) (chs'.getD q chE.d).h.free) ?_
      generalize hD : dropS S'.1 S'.2 ps'[q].1 = D at *
      obtain ⟨D, er⟩ := D
      simp only at f1 f2 f3 i2 d2
      subst f1
      have o2 := (isE_one i2).2.2
      have kn3 : Keeps G (G ++ [.row 2 [.agg [v2, .str D.2]] false false]) := .app _ _
      have hb3 : getB (G ++ [.row 2 [.agg [v2, .str D.2]] false false]) 0 = .row 2 [.agg [v', .str S'.2]] false false := by rw [getB_app' (getB_lt' hb0')]; exact hb0'
      have hb4 : getB ((G ++ [Blk.row 2 [.agg [v2, .str D.2]] false false]).set 0 (.row 2 [.agg [v2, .str D.2]] false false)) 0 = .row 2 [.agg [v2, .str D.2]] false false := getB_set _ (getB_lt' hb3)
      have ow := Own2.mod (S := fun x => x = 0) (H' := (G ++ [Blk.row 2 [.agg [v2, .str D.2]] false false]).set 0 (.row 2 [.agg [v2, .str D.2]] false false)) A'.ow ((Keeps.mod kn3 _).trans ⟨by simp, fun q hq hn => getB_set_ne _ (Ne.symm hn)⟩) (fun c hc h => by have := A'.n0 c (.inl hc); omega) (fun c hc h => by have := A'.n0 c (.inr hc); omega)
      simp -implicitDefEqProofs (disch := omega) only [o2, getB_plus0, set_plus0, h6, hb3, h8, hw1, mwx, ne_eq, false_implies, implies_true, forall_eq_or_imp, MW.get, ev, evs, argFr, resK, packV, slHK, partsV, partsS, setR, Int.cast_ofNat_Int, Int.natCast_zero, Int.natCast_one, Nat.reduceLeDiff, reduceIte, Nat.reduceEqDiff, Nat.reduceBEq, reduceCtorEq, Nat.reduceAdd, Nat.reduceMul, Nat.reduceSub, Nat.reduceLT, Int.reduceToNat, Int.reduceLT, Int.reduceLE, Int.reduceEq, Int.reduceAdd, Int.reduceNeg, Int.reduceMul, Int.reduceSub]
      generalize hG3 : (G ++ [Blk.row 2 [.agg [v2, .str D.2]] false false]).set 0 (Blk.row 2 [.agg [v2, .str D.2]] false false) = G3 at *
      clear A' A2 A hb0' hb2 hb3 kn kn3 hG hbc hb0
      have kp1 : Keeps G3 (G3 ++ [.row 1 [] false false]) := .app _ _
      have tk : (q : Nat) ≤ (chE.vs chs').length := by omega
      have tk' : q + 1 ≤ (chE.vs chs').length := by omega
      simp -implicitDefEqProofs (disch := omega) only [own_lo ow.a tk kp1, els_lo ow.a tk kp1, mwx, ne_eq, false_implies, implies_true, forall_eq_or_imp, MW.get, ev, evs, argFr, resK, packV, slHK, partsV, partsS, setR, Int.cast_ofNat_Int, Int.natCast_zero, Int.natCast_one, Nat.reduceLeDiff, reduceIte, Nat.reduceEqDiff, Nat.reduceBEq, reduceCtorEq, Nat.reduceAdd, Nat.reduceMul, Nat.reduceSub, Nat.reduceLT, Int.reduceToNat, Int.reduceLT, Int.reduceLE, Int.reduceEq, Int.reduceAdd, Int.reduceNeg, Int.reduceMul, Int.reduceSub]
      refine (Own.hs (xs := []) rfl (getB_new _ _) (.inr rfl)).appS (by simp [Goods]) (by rw [El.vs_take]; exact El.vs_goods _) (hroom _ _ (by simp; omega) (by decide)) fun u1 H1 o1 b1 c1 => ?_
      have kp2 : Keeps G3 H1 := b1.fresh kp1 fun b hb => Nat.le_of_eq hb
      have c1' : ∀ b, hasB u1 b → G3.length ≤ b := fun b hb => by
        rcases c1 b hb with h | h
        · exact Nat.le_of_eq h
        · rw [List.length_append] at h; omega
      simp -implicitDefEqProofs (disch := omega) only [h8, hw1, own_hi ow.a tk' kp2, els_hi ow.a tk' kp2, mwx, ne_eq, false_implies, implies_true, forall_eq_or_imp, MW.get, ev, evs, argFr, resK, packV, slHK, partsV, partsS, setR, Int.cast_ofNat_Int, Int.natCast_zero, Int.natCast_one, Nat.reduceLeDiff, reduceIte, Nat.reduceEqDiff, Nat.reduceBEq, reduceCtorEq, Nat.reduceAdd, Nat.reduceMul, Nat.reduceSub, Nat.reduceLT, Int.reduceToNat, Int.reduceLT, Int.reduceLE, Int.reduceEq, Int.reduceAdd, Int.reduceNeg, Int.reduceMul, Int.reduceSub]
      refine o1.appS (by rw [List.nil_append]; exact by rw [El.vs_take]; exact El.vs_goods _) (by rw [El.vs_drop]; exact El.vs_goods _) (hroom _ _ (by simp; omega) (by decide)) fun u2 H2 o3 b2 c2 => ?_
      have kp3 : Keeps G3 H2 := b2.fresh kp2 c1'
      have c2' : ∀ b, hasB u2 b → G3.length ≤ b := fun b hb => by
        rcases c2 b hb with h | h
        · exact c1' b h
        · have := kp2.1; omega
      rw [vs_erase] at o3
      have ow2 := (ow.put kp3 o3 c2').symm
      have lt2 : ∀ b, hasB u2 b → b < H2.length := fun b hb => o3.lt hb
      clear o1 b1 c1 c1' kp1 kp2 b2 c2 o3
      have kp1 : Keeps H2 (H2 ++ [.row 1 [] false false]) := .app _ _
      have tk : (q : Nat) ≤ (strE.vs (ps'.map (·.2))).length := by omega
      have tk' : q + 1 ≤ (strE.vs (ps'.map (·.2))).length := by omega
      simp -implicitDefEqProofs (disch := omega) only [h9, own_lo ow2.a tk kp1, els_lo ow2.a tk kp1, mwx, ne_eq, false_implies, implies_true, forall_eq_or_imp, MW.get, ev, evs, argFr, resK, packV, slHK, partsV, partsS, setR, Int.cast_ofNat_Int, Int.natCast_zero, Int.natCast_one, Nat.reduceLeDiff, reduceIte, Nat.reduceEqDiff, Nat.reduceBEq, reduceCtorEq, Nat.reduceAdd, Nat.reduceMul, Nat.reduceSub, Nat.reduceLT, Int.reduceToNat, Int.reduceLT, Int.reduceLE, Int.reduceEq, Int.reduceAdd, Int.reduceNeg, Int.reduceMul, Int.reduceSub]
      refine (Own.hs (xs := []) rfl (getB_new _ _) (.inr rfl)).appS (by simp [Goods]) (by rw [El.vs_take]; exact El.vs_goods _) (hroom _ _ (by simp; omega) (by decide)) fun u1 H1 o1 b1 c1 => ?_
      have kp2 : Keeps H2 H1 := b1.fresh kp1 fun b hb => Nat.le_of_eq hb
      have c1' : ∀ b, hasB u1 b → H2.length ≤ b := fun b hb => by
        rcases c1 b hb with h | h
        · exact Nat.le_of_eq h
        · rw [List.length_append] at h; omega
      simp -implicitDefEqProofs (disch := omega) only [h9, hw1, own_hi ow2.a tk' kp2, els_hi ow2.a tk' kp2, mwx, ne_eq, false_implies, implies_true, forall_eq_or_imp, MW.get, ev, evs, argFr, resK, packV, slHK, partsV, partsS, setR, Int.cast_ofNat_Int, Int.natCast_zero, Int.natCast_one, Nat.reduceLeDiff, reduceIte, Nat.reduceEqDiff, Nat.reduceBEq, reduceCtorEq, Nat.reduceAdd, Nat.reduceMul, Nat.reduceSub, Nat.reduceLT, Int.reduceToNat, Int.reduceLT, Int.reduceLE, Int.reduceEq, Int.reduceAdd, Int.reduceNeg, Int.reduceMul, Int.reduceSub]
      refine o1.appS (by rw [List.nil_append]; exact by rw [El.vs_take]; exact El.vs_goods _) (by rw [El.vs_drop]; exact El.vs_goods _) (hroom _ _ (by simp; omega) (by decide)) fun u3 H3 o3 b2 c2 => ?_
      have kp4 : Keeps H2 H3 := b2.fresh kp2 c1'
      have c3' : ∀ b, hasB u3 b → H2.length ≤ b := fun b hb => by
        rcases c2 b hb with h | h
        · exact c1' b h
        · have := kp2.1; omega
      rw [vs_erase, ← erase_map] at o3
      have ow3 := (ow2.put kp4 o3 c3').symm
      have hG0 : 0 < G3.length := getB_lt' hb4
      have hel : (ps'.eraseIdx q).length ≤ ps'.length := by rw [List.length_eraseIdx]; split <;> omega
      simp -implicitDefEqProofs (disch := omega) only [h10, hw, mwx, ne_eq, false_implies, implies_true, forall_eq_or_imp, MW.get, ev, evs, argFr, resK, packV, slHK, partsV, partsS, setR, Int.cast_ofNat_Int, Int.natCast_zero, Int.natCast_one, Nat.reduceLeDiff, reduceIte, Nat.reduceEqDiff, Nat.reduceBEq, reduceCtorEq, Nat.reduceAdd, Nat.reduceMul, Nat.reduceSub, Nat.reduceLT, Int.reduceToNat, Int.reduceLT, Int.reduceLE, Int.reduceEq, Int.reduceAdd, Int.reduceNeg, Int.reduceMul, Int.reduceSub]
      refine ⟨k - 1, by omega, hJ _ _ ⟨i + 1, D, ps'.eraseIdx q, v2, chs'.eraseIdx q, u2, u3, by omega, ⟨f2, by omega, i2, by rw [erase_map, erase_map, hch], ow3, fun c hc => ?_⟩, by omega, ?_, h0, h1, h5, h6, rfl, rfl, rfl⟩⟩
      · rcases hc with hc | hc
        · have := c2' c hc; omega
        · have := c3' c hc; have := kp3.1; omega
      · rw [kp4.2 0 (by have := kp3.1; omega), kp3.2 0 hG0]
        exact hb4
  · have hcl := A.chl
    have hsl : (strE.vs (ps.map (·.2))).length = ps.length := by rw [El.vs_length, List.length_map]
    have hcl' : (chE.vs chs).length = ps.length := by rw [El.vs_length, hcl]
    have hl20 := A.len
    have hbl := A.inv.w.b
    have hps : ps.length ≤ 30 := by omega
    have hnum : ∀ j, 0 ≤ isum ((ps.take j).map obN) ∧ isum ((ps.take j).map obN) ≤ 4160 * 30 := fun j => by
      have h1 : ∀ (q : List Ob), (∀ p ∈ q, p ∈ ps) → 0 ≤ isum (q.map obN) ∧ isum (q.map obN) ≤ 4160 * q.length := by
        intro q
        induction q with
        | nil => intro _; simp [isum]
        | cons p q ih =>
          intro hq
          have h2 := ih fun x hx => hq x (by simp [hx])
          have h3 := obN_le p (A.inv.g p (hq p (by simp))).n
          rw [List.map_cons, isum_cons, List.length_cons]
          omega
      have h2 := h1 (ps.take j) fun p hp => List.mem_of_mem_take hp
      have h3 : (ps.take j).length ≤ 30 := by rw [List.length_take]; omega
      omega
    simp -implicitDefEqProofs (disch := omega) only [mwx, ne_eq, false_implies, implies_true, forall_eq_or_imp, MW.get, ev, evs, argFr, resK, packV, slHK, partsV, partsS, setR, Int.cast_ofNat_Int, Int.natCast_zero, Int.natCast_one, Nat.reduceLeDiff, reduceIte, Nat.reduceEqDiff, Nat.reduceBEq, reduceCtorEq, Nat.reduceAdd, Nat.reduceMul, Nat.reduceSub, Nat.reduceLT, Int.reduceToNat, Int.reduceLT, Int.reduceLE, Int.reduceEq, Int.reduceAdd, Int.reduceNeg, Int.reduceMul, Int.reduceSub]
    refine xl_loop (fun k' st => ∃ j : Nat, k' + j = ps.length ∧ st.H = H ∧ get st.fr 5 = .bool true ∧ get st.fr 6 = .ptr 0 1 0 0 ∧ get st.fr 8 = v8 ∧ get st.fr 9 = v9 ∧ get st.fr 17 = .int .i64 (isum ((ps.take j).map obN)) ∧ get st.fr 18 = .int .i64 j) ps.length
      ⟨0, by omega, rfl, h5, h6, h8, h9, rfl, rfl⟩ ?_
    clear h0 h1 h5 h6 h8 h9 h10 k1 hJ J
    rintro J hJ k' fr H' ⟨j, k1, hH, h5, h6, h8, h9, h17, h18⟩
    obtain rfl : H' = H := hH
    simp -implicitDefEqProofs (disch := omega) only [h9, h18, lenK_own A.ow.b, hsl, mwx, ne_eq, false_implies, implies_true, forall_eq_or_imp, MW.get, ev, evs, argFr, resK, packV, slHK, partsV, partsS, setR, Int.cast_ofNat_Int, Int.natCast_zero, Int.natCast_one, Nat.reduceLeDiff, reduceIte, Nat.reduceEqDiff, Nat.reduceBEq, reduceCtorEq, Nat.reduceAdd, Nat.reduceMul, Nat.reduceSub, Nat.reduceLT, Int.reduceToNat, Int.reduceLT, Int.reduceLE, Int.reduceEq, Int.reduceAdd, Int.reduceNeg, Int.reduceMul, Int.reduceSub]
    refine xc_dec (fun h19 => ?_) fun h19 => ?_
    · have hj : j < ps.length := by omega
      have hj0 : (0 : Int) ≤ (j : Int) := by omega
      have hj1 : (j : Int).toNat < (chE.vs chs).length := by omega
      have hj2 : (j : Int).toNat < (strE.vs (ps.map (·.2))).length := by omega
      have hw : IntKind.i64.wrap ((j : Int) + 1) = ((j + 1 : Nat) : Int) := wrap64 (n := ((j + 1 : Nat) : Int)) (by omega) (by omega)
      have hm := List.getElem_mem hj
      have gp := A.inv.g _ hm
      have hxs := A.at hj
      have gf := get_fn A.iv A.inv.w.ok (by omega) (b := S.2) (by omega) (chs.getD j chE.d).h (by rw [hxs]; have := A.inv.len_lt hm; omega) ps[j].2.length
      rw [hxs, A.inv.get hm] at gf
      have cf := cut_fn (ps[j].2.length : Int) (by have := gp.n; omega)
      have hcl2 := cut_len (n := (ps[j].2.length : Int)) (by have := gp.n; omega)
      have rf := room_fn (v := .vs (ints (cut ps[j].2.length))) (l := cut ps[j].2.length) (.inr rfl) (by omega)
      rw [room_rsum (by omega)] at rf
      have hsat : ((strE.vs (ps.map (·.2))).getD j .junk).cells.getD 0 .junk = .str ps[j].2 := by rw [str_at (by simpa using hj), AS.dat hj]
      have hself : (ps[j].2 != ps[j].2) = false := by simp
      have e1 : isum ((ps.take (j + 1)).map obN) = isum ((ps.take j).map obN) + rsum (cut ps[j].2.length) := by
        rw [take_succ_at hj (d := ([], [])), List.map_append, isum_append, List.getD_eq_getElem?_getD, List.getElem?_eq_getElem hj]
        simp [isum, obN]
      have n1 := hnum (j + 1)
      rw [e1] at n1
      have hw2 : IntKind.i64.wrap (isum ((ps.take j).map obN) + rsum (cut ps[j].2.length)) = isum ((ps.take j).map obN) + rsum (cut ps[j].2.length) := wrap64 (by omega) (by omega)
      simp -implicitDefEqProofs (disch := omega) only [h6, hb0, h8, h9, h18, own_ia A.ow.a hj0 hj1, own_ld1 A.ow.a (n := j) (by omega), ch_at (k := j) (l := chs) (by omega), own_ia A.ow.b hj0 hj2, own_ld1 A.ow.b (n := j) (by omega), hsat, mwx, ne_eq, false_implies, implies_true, forall_eq_or_imp, MW.get, ev, evs, argFr, resK, packV, slHK, partsV, partsS, setR, Int.cast_ofNat_Int, Int.natCast_zero, Int.natCast_one, Nat.reduceLeDiff, reduceIte, Nat.reduceEqDiff, Nat.reduceBEq, reduceCtorEq, Nat.reduceAdd, Nat.reduceMul, Nat.reduceSub, Nat.reduceLT, Int.reduceToNat, Int.reduceLT, Int.reduceLE, Int.reduceEq, Int.reduceAdd, Int.reduceNeg, Int.reduceMul, Int.reduceSub]
      refine Does.call gf (fr3 (store_free A.iv _) (chs.getD j chE.d).h.free (.int _ _)) ?_
      simp -implicitDefEqProofs (disch := omega) only [h9, h18, own_ia A.ow.b hj0 hj2, own_ld1 A.ow.b (n := j) (by omega), hsat, mwx, ne_eq, false_implies, implies_true, forall_eq_or_imp, MW.get, ev, evs, argFr, resK, packV, slHK, partsV, partsS, setR, Int.cast_ofNat_Int, Int.natCast_zero, Int.natCast_one, Nat.reduceLeDiff, reduceIte, Nat.reduceEqDiff, Nat.reduceBEq, reduceCtorEq, Nat.reduceAdd, Nat.reduceMul, Nat.reduceSub, Nat.reduceLT, Int.reduceToNat, Int.reduceLT, Int.reduceLE, Int.reduceEq, Int.reduceAdd, Int.reduceNeg, Int.reduceMul, Int.reduceSub]
      refine Does.call cf (fr1 (.int _ _)) ?_
      simp -implicitDefEqProofs (disch := omega) only [h9, h18, own_ia A.ow.b hj0 hj2, own_ld1 A.ow.b (n := j) (by omega), hsat, hself, mwx, ne_eq, false_implies, implies_true, forall_eq_or_imp, MW.get, ev, evs, argFr, resK, packV, slHK, partsV, partsS, setR, Int.cast_ofNat_Int, Int.natCast_zero, Int.natCast_one, Nat.reduceLeDiff, reduceIte, Nat.reduceEqDiff, Nat.reduceBEq, reduceCtorEq, Nat.reduceAdd, Nat.reduceMul, Nat.reduceSub, Nat.reduceLT, Int.reduceToNat, Int.reduceLT, Int.reduceLE, Int.reduceEq, Int.reduceAdd, Int.reduceNeg, Int.reduceMul, Int.reduceSub]
      refine Does.call rf (fr1 (free_ints _)) ?_
      simp -implicitDefEqProofs (disch := omega) only [h17, hw2, h18, hw, mwx, ne_eq, false_implies, implies_true, forall_eq_or_imp, MW.get, ev, evs, argFr, resK, packV, slHK, partsV, partsS, setR, Int.cast_ofNat_Int, Int.natCast_zero, Int.natCast_one, Nat.reduceLeDiff, reduceIte, Nat.reduceEqDiff, Nat.reduceBEq, reduceCtorEq, Nat.reduceAdd, Nat.reduceMul, Nat.reduceSub, Nat.reduceLT, Int.reduceToNat, Int.reduceLT, Int.reduceLE, Int.reduceEq, Int.reduceAdd, Int.reduceNeg, Int.reduceMul, Int.reduceSub]
      exact ⟨k' - 1, by omega, hJ _ _ ⟨j + 1, by omega, rfl, h5, h6, h8, h9, by rw [e1]; rfl, rfl⟩⟩
    · have e2 : ps.take j = ps := List.take_of_length_le (by omega)
      rw [e2, ← A.inv.sum] at h17
      have ck := chkS_fn A.iv A.inv.w.ok (by omega) (b := S.2) (by omega)
      rw [A.inv.w.chk] at ck
      simp -implicitDefEqProofs (disch := omega) only [h5, h6, hb0, mwx, ne_eq, false_implies, implies_true, forall_eq_or_imp, MW.get, ev, evs, argFr, resK, packV, slHK, partsV, partsS, setR, Int.cast_ofNat_Int, Int.natCast_zero, Int.natCast_one, Nat.reduceLeDiff, reduceIte, Nat.reduceEqDiff, Nat.reduceBEq, reduceCtorEq, Nat.reduceAdd, Nat.reduceMul, Nat.reduceSub, Nat.reduceLT, Int.reduceToNat, Int.reduceLT, Int.reduceLE, Int.reduceEq, Int.reduceAdd, Int.reduceNeg, Int.reduceMul, Int.reduceSub]
      refine Does.call (taken_fn A.iv A.inv.w.ok) (fr1 A.iv.free) ?_
      simp -implicitDefEqProofs (disch := omega) only [h17, h6, hb0, mwx, ne_eq, false_implies, implies_true, forall_eq_or_imp, MW.get, ev, evs, argFr, resK, packV, slHK, partsV, partsS, setR, Int.cast_ofNat_Int, Int.natCast_zero, Int.natCast_one, Nat.reduceLeDiff, reduceIte, Nat.reduceEqDiff, Nat.reduceBEq, reduceCtorEq, Nat.reduceAdd, Nat.reduceMul, Nat.reduceSub, Nat.reduceLT, Int.reduceToNat, Int.reduceLT, Int.reduceLE, Int.reduceEq, Int.reduceAdd, Int.reduceNeg, Int.reduceMul, Int.reduceSub]
      refine Does.call ck (fr1 (store_free A.iv _)) ?_
      simp -implicitDefEqProofs (disch := omega) only [mwx, ne_eq, false_implies, implies_true, forall_eq_or_imp, MW.get, ev, evs, argFr, resK, packV, slHK, partsV, partsS, setR, Int.cast_ofNat_Int, Int.natCast_zero, Int.natCast_one, Nat.reduceLeDiff, reduceIte, Nat.reduceEqDiff, Nat.reduceBEq, reduceCtorEq, Nat.reduceAdd, Nat.reduceMul, Nat.reduceSub, Nat.reduceLT, Int.reduceToNat, Int.reduceLT, Int.reduceLE, Int.reduceEq, Int.reduceAdd, Int.reduceNeg, Int.reduceMul, Int.reduceSub]
      exact frz_bool rfl

end Go.Proofs.YtlcbogafgdofgaaDoor

/- Store: all packed anew (the plain law). -/
namespace Go.Proofs.YtlcbogafgdofgaaDoor
open Go Go.MW
set_option linter.unusedSimpArgs false
set_option linter.unusedVariables false
set_option maxRecDepth 8000

/-- Slots of a class that are taken, and segments of a class. -/
def nU (c : Int) (p : Sg) : Int := if p.1 = c then (pc 64 p.2 : Int) else 0
def nS (c : Int) (p : Sg) : Int := if p.1 = c then 1 else 0
def NU (l : List Sg) (c : Int) : Int := isum (l.map (nU c))
def NS (l : List Sg) (c : Int) : Int := isum (l.map (nS c))
/-- How many of them are of a class. -/
def rem (f : Int × Int → Int) (xs : List (Int × Int)) (c : Int) : Int := isum (xs.map fun x => if f x = c then 1 else 0)

theorem pc_zero (m : Nat) : pc m 0 = 0 := by
  induction m with
  | zero => rfl
  | succ m ih => simp [pc, ih]

theorem Adds.NU {l l1 : List Sg} {j q : Nat} {c : Int} (h : Adds l l1 j q c) {c' : Int} (hc' : c' ≠ -1) : NU l1 c' = NU l c' + if c = c' then 1 else 0 := by
  have hp := h.pop
  unfold Proofs.YtlcbogafgdofgaaDoor.NU
  rw [h.eq, isum_set l j _ h.hj]
  have h1 : nU c' (sat l1 j) = nU c' (sat l j) + if c = c' then 1 else 0 := by
    unfold nU
    rw [h.c1, hp]
    rcases h.s0 with s | ⟨s, s'⟩
    · rw [s]; split <;> omega
    · rw [s, s', pc_zero, if_neg (Ne.symm hc')]
      split <;> simp
  rw [h1]
  omega
theorem Adds.NS {l l1 : List Sg} {j q : Nat} {c : Int} (h : Adds l l1 j q c) (hc : c ≠ -1) {c' : Int} (hc' : c' ≠ -1) : NS l1 c' = NS l c' + if c = c' ∧ (sat l j).1 = -1 then 1 else 0 := by
  unfold Proofs.YtlcbogafgdofgaaDoor.NS
  rw [h.eq, isum_set l j _ h.hj]
  have h1 : nS c' (sat l1 j) = nS c' (sat l j) + if c = c' ∧ (sat l j).1 = -1 then 1 else 0 := by
    unfold nS
    rw [h.c1]
    rcases h.s0 with s | ⟨s, s'⟩
    · rw [s]
      simp [hc]
    · rw [s, if_neg (Ne.symm hc')]
      simp
  rw [h1]
  omega

/-- As many of a class as there are: what is dropped. -/
theorem drops_NU : ∀ (xs : List (Int × Int)) {S : SB}, W S → (∀ x ∈ xs, hasX S.1 x = true) → xs.Nodup → ∀ c', c' ≠ -1 → NU S.1 c' = NU (xs.foldl freS S).1 c' + rem (clX S.1) xs c'
  | [], S, hw, _, _, c', _ => by simp [rem, isum]
  | x :: xs, S, hw, ha, hn, c', hc' => by
    have f := fre_law hw (ha x (by simp))
    obtain ⟨h1, h2⟩ := List.nodup_cons.1 hn
    have hne : ∀ y ∈ xs, y ≠ x := fun y hy e => h1 (e ▸ hy)
    have g := drops_NU xs f.w (fun y hy => by rw [f.oth y (hne y hy)]; exact ha y (by simp [hy])) h2 c' hc'
    obtain ⟨j, q, hx, had⟩ := fre_adds hw.ok hw.c (ha x (by simp))
    have e := Adds.NU had hc'
    have hcl : clX S.1 x = (sat S.1 j).1 := by rw [hx]; rfl
    rw [List.foldl_cons]
    have e2 : rem (clX S.1) (x :: xs) c' = (if (sat S.1 j).1 = c' then 1 else 0) + rem (clX S.1) xs c' := by
      unfold rem
      rw [List.map_cons, isum_cons, hcl]
    have e3 : rem (clX (freS S x).1) xs c' = rem (clX S.1) xs c' := by
      unfold rem
      congr 1
      exact List.map_congr_left fun y hy => by rw [(f.rdo y (hne y hy) (ha y (by simp [hy]))).2.1]
    rw [e2]
    rw [e3] at g
    have e' : NU S.1 c' = NU (freS S x).1 c' + if (sat S.1 j).1 = c' then 1 else 0 := e
    omega

/-- Packed: of each class one segment at most has slots left. -/
structure PK (l : List Sg) : Prop where
  pre : ∀ i, i < l.length → ∃ k, (sat l i).2 = 2 ^ k - 1
  one : ∀ c, slN c ≠ 0 → ∀ i j, i < l.length → j < l.length → fits c (sat l i) → fits c (sat l j) → i = j
  full : ∀ c, slN c ≠ 0 → NS l c * slN c < NU l c + slN c

theorem slN_ne {c : Int} (h : slN c ≠ 0) : c ≠ -1 ∧ 0 ≤ c ∧ c < 4 := by
  unfold slN at h
  repeat' split at h
  all_goals omega
theorem pc_all : ∀ k n, k ≤ n → pc n (2 ^ k - 1) = k
  | 0, n, _ => pc_zero n
  | k + 1, 0, h => by omega
  | k + 1, n + 1, h => by
    have h1 : (2 ^ (k + 1) - 1) / 2 = 2 ^ k - 1 := by rw [Nat.pow_succ]; omega
    have h2 : (2 ^ (k + 1) - 1) % 2 = 1 := by have := Nat.pow_pos (n := k) (show 0 < 2 by decide); rw [Nat.pow_succ]; omega
    simp only [pc]
    rw [h1, h2, pc_all k n (by omega)]
    omega
theorem pc_le_of_lt : ∀ (n u : Nat) (k : Nat), u < 2 ^ k → pc n u ≤ k
  | 0, u, k, h => by simp [pc]
  | n + 1, u, 0, h => by
    obtain rfl : u = 0 := by omega
    rw [pc_zero]; omega
  | n + 1, u, k + 1, h => by
    have := pc_le_of_lt n (u / 2) k (by rw [Nat.pow_succ] at h; omega)
    have := Nat.mod_lt u (show 0 < 2 by decide)
    simp only [pc]
    omega

/-- If none of a class has slots left, all are full. -/
theorem none_fits {l : List Sg} (hc : chk l = true) {c : Int} (h0 : slN c ≠ 0) (hf : ∀ i, i < l.length → ¬ fits c (sat l i)) : NU l c = NS l c * slN c := by
  have : ∀ p ∈ l, nU c p = nS c p * slN c := by
    intro p hp
    obtain ⟨i, hi, rfl⟩ := List.getElem_of_mem hp
    have h1 := hf i hi
    rw [sat_eq hi] at h1
    unfold nU nS
    by_cases e : l[i].1 = c
    · rw [if_pos e, if_pos e]
      have h2 : l[i].2 = allN c := by
        refine Classical.byContradiction fun hn => h1 ⟨e, hn⟩
      rw [h2]
      unfold allN
      rw [pc_all _ _ (slN_le c)]
      omega
    · rw [if_neg e, if_neg e]; omega
  unfold NU NS
  clear hf
  clear hc
  induction l with
  | nil => simp [isum]
  | cons p l ih =>
    have h1 := this p (by simp)
    have h2 := ih fun q hq => this q (by simp [hq])
    simp only [List.map_cons, isum_cons]
    rw [h1, h2, Int.add_mul]
/-- No class has more slots than its segments hold. -/
theorem NU_le {l : List Sg} (hc : chk l = true) {c : Int} (h0 : slN c ≠ 0) : NU l c ≤ NS l c * slN c := by
  have h := (chk_iff.1 hc).2
  have : ∀ p ∈ l, nU c p ≤ nS c p * slN c := by
    intro p hp
    obtain ⟨i, hi, rfl⟩ := List.getElem_of_mem hp
    have ho := h i hi
    rw [sat_eq hi] at ho
    unfold nU nS
    by_cases e : l[i].1 = c
    · rw [if_pos e, if_pos e]
      obtain ⟨s1, s2, s3⟩ := sgOK_used ho (by rw [e]; exact (slN_ne h0).1)
      rw [e] at s3
      have := pc_le_of_lt 64 _ _ s3
      omega
    · rw [if_neg e, if_neg e]; omega
  unfold NU NS
  clear h hc
  induction l with
  | nil => simp [isum]
  | cons p l ih =>
    have h1 := this p (by simp)
    have h2 := ih fun q hq => this q (by simp [hq])
    simp only [List.map_cons, isum_cons]
    rw [Int.add_mul]
    omega

theorem or_pre (k : Nat) : (2 ^ k - 1) ||| 2 ^ k = 2 ^ (k + 1) - 1 := by
  refine Nat.eq_of_testBit_eq fun i => ?_
  rw [or_bit, Nat.testBit_two_pow_sub_one, Nat.testBit_two_pow_sub_one]
  rw [Bool.eq_iff_iff]
  simp only [Bool.or_eq_true, decide_eq_true_eq]
  omega

theorem PK.take {S : SB} (hw : W S) (h : PK S.1) {c : Int} (he : (tak S.1 c).2.2 = 0) : PK (tak S.1 c).1 ∧ ∀ c', c' ≠ -1 → NU (tak S.1 c).1 c' = NU S.1 c' + if c = c' then 1 else 0 := by
  obtain ⟨j, q, hj, hq, h0, ht, hb, hlow, hlt, hor⟩ := tak_ok hw.ok hw.c he
  obtain ⟨j', q', hx, ha⟩ := tak_adds hw.ok hw.c he
  obtain ⟨rfl, rfl⟩ : j = j' ∧ q = q' := by
    rw [ht] at hx
    simp only [Prod.mk.injEq] at hx
    exact ⟨Int.ofNat.inj hx.1, Int.ofNat.inj hx.2⟩
  have hs := slN_ne h0
  obtain ⟨k, hk⟩ := h.pre j hj
  have hqk : q = k := by
    rw [hk, Nat.testBit_two_pow_sub_one, decide_eq_false_iff_not] at hb
    rcases Nat.lt_or_ge k q with h1 | h1
    · have := hlow k h1
      rw [hk, Nat.testBit_two_pow_sub_one, decide_eq_true_eq] at this
      omega
    · omega
  have hN := fun c' hc' => Adds.NU ha (c' := c') hc'
  have hS := fun c' hc' => Adds.NS ha hs.1 (c' := c') hc'
  have hsj : (sat (tak S.1 c).1 j) = (c, 2 ^ (q + 1) - 1) := by
    rw [ht]
    simp only
    rw [sat_set hj, hk, hqk, or_pre]
  have hl : (tak S.1 c).1.length = S.1.length := ha.len
  refine ⟨⟨fun i hi => ?_, fun c' h0' i1 i2 hi1 hi2 f1 f2 => ?_, fun c' h0' => ?_⟩, hN⟩
  · by_cases e : i = j
    · subst e; exact ⟨q + 1, by rw [hsj]⟩
    · rw [ha.ne i e]; exact h.pre i (by omega)
  · have hnj : ∀ i, i ≠ j → i < S.1.length → fits c' (sat (tak S.1 c).1 i) → fits c' (sat S.1 i) := fun i hi _ hf => by rw [ha.ne i hi] at hf; exact hf
    by_cases e1 : i1 = j
    · by_cases e2 : i2 = j
      · omega
      · subst e1
        have g2 := hnj i2 e2 (by omega) f2
        have hcc : c = c' := by have := f1.1; rw [hsj] at this; exact this
        subst hcc
        rcases hor with ⟨s1, s2, s3, s4⟩ | ⟨s1, s2, s3, s4⟩
        · exact h.one c h0 _ _ (by omega) (by omega) ⟨s1, s3⟩ g2
        · exact absurd g2 (s3 i2 (by omega))
    · by_cases e2 : i2 = j
      · subst e2
        have g1 := hnj i1 e1 (by omega) f1
        have hcc : c = c' := by have := f2.1; rw [hsj] at this; exact this
        subst hcc
        rcases hor with ⟨s1, s2, s3, s4⟩ | ⟨s1, s2, s3, s4⟩
        · exact h.one c h0 _ _ (by omega) (by omega) g1 ⟨s1, s3⟩
        · exact absurd g1 (s3 i1 (by omega))
      · exact h.one c' h0' _ _ (by omega) (by omega) (hnj i1 e1 (by omega) f1) (hnj i2 e2 (by omega) f2)
  · rw [hN c' (slN_ne h0').1, hS c' (slN_ne h0').1]
    have hf := h.full c' h0'
    by_cases e : c = c'
    · subst e
      rw [if_pos rfl]
      rcases hor with ⟨s1, s2, s3, s4⟩ | ⟨s1, s2, s3, s4⟩
      · rw [if_neg (by rw [s1]; exact fun hh => hs.1 hh.2)]
        rw [Int.add_zero]
        omega
      · rw [if_pos ⟨rfl, s1⟩]
        have := none_fits hw.c h0 s3
        rw [Int.add_mul]
        omega
    · rw [if_neg e, if_neg fun hh => e hh.1]
      rw [Int.add_zero]
      omega

/-- Where nothing is to be had of a class, no segment is free. -/
theorem tak_no {l : List Sg} {c : Int} (hc : chk l = true) (h0 : slN c ≠ 0) (h : (tak l c).2.2 ≠ 0) : (∀ b, b < l.length → ¬ fits c (sat l b)) ∧ ∀ b, b < l.length → (sat l b).1 ≠ -1 := by
  have hs := seek_spec c l 0 (-1) (by omega)
  have hneg : seek c l 0 (-1) < 0 := by
    refine Classical.byContradiction fun hn => h ?_
    simp [tak, hc, h0, hn]
  rcases hs with ⟨j, hj, he, _⟩ | ⟨hf, ⟨ha, _⟩ | ⟨_, ⟨j, hj, he, _⟩ | ⟨_, hu⟩⟩⟩
  · omega
  · omega
  · omega
  · exact ⟨hf, hu⟩

/-- All segments that are not free: of each class so many. -/
theorem NS_all {l : List Sg} (hc : chk l = true) : NS l 0 + NS l 1 + NS l 2 + NS l 3 ≤ l.length ∧ ((∀ b, b < l.length → (sat l b).1 ≠ -1) → NS l 0 + NS l 1 + NS l 2 + NS l 3 = l.length) ∧ cnt sgHeld l = 512 * (NS l 0 + NS l 1 + NS l 2 + NS l 3) := by
  have h := (chk_iff.1 hc).2
  have hp : ∀ p ∈ l, ∃ i, i < l.length ∧ sat l i = p := fun p hp => by
    obtain ⟨i, hi, rfl⟩ := List.getElem_of_mem hp
    exact ⟨i, hi, sat_eq hi⟩
  have h1 : ∀ p ∈ l, (p.1 = -1 ∧ nS 0 p + nS 1 p + nS 2 p + nS 3 p = 0) ∨ (p.1 ≠ -1 ∧ nS 0 p + nS 1 p + nS 2 p + nS 3 p = 1) := by
    intro p hp'
    obtain ⟨i, hi, rfl⟩ := hp p hp'
    by_cases e : (sat l i).1 = -1
    · left
      refine ⟨e, ?_⟩
      unfold nS
      rw [e]; rfl
    · right
      refine ⟨e, ?_⟩
      have := slN_ne (sgOK_used (h i hi) e).1
      unfold nS
      generalize (sat l i).1 = c at *
      have : c = 0 ∨ c = 1 ∨ c = 2 ∨ c = 3 := by omega
      rcases this with rfl | rfl | rfl | rfl <;> rfl
  have h2 : (∀ b, b < l.length → (sat l b).1 ≠ -1) → ∀ p ∈ l, p.1 ≠ -1 := fun hh p hp' => by
    obtain ⟨i, hi, rfl⟩ := hp p hp'
    exact hh i hi
  simp only [cnt, hc, if_true]
  unfold NS
  suffices hs : ∀ m : List Sg, (∀ p ∈ m, p ∈ l) → (isum (m.map (nS 0)) + isum (m.map (nS 1)) + isum (m.map (nS 2)) + isum (m.map (nS 3)) ≤ m.length ∧ ((∀ p ∈ m, p.1 ≠ -1) → isum (m.map (nS 0)) + isum (m.map (nS 1)) + isum (m.map (nS 2)) + isum (m.map (nS 3)) = m.length) ∧ isum (m.map sgHeld) = 512 * (isum (m.map (nS 0)) + isum (m.map (nS 1)) + isum (m.map (nS 2)) + isum (m.map (nS 3)))) by
    obtain ⟨s1, s2, s3⟩ := hs l fun p hp => hp
    exact ⟨s1, fun hh => s2 (h2 hh), s3⟩
  intro m
  induction m with
  | nil => intro _; simp [isum]
  | cons p m ih =>
    intro hm
    obtain ⟨i1, i2, i3⟩ := ih fun q hq => hm q (by simp [hq])
    have hq := h1 p (hm p (by simp))
    simp only [List.map_cons, isum_cons, List.length_cons, List.forall_mem_cons]
    rw [i3]
    unfold sgHeld
    rcases hq with ⟨e, hq⟩ | ⟨e, hq⟩
    · rw [if_pos e]
      exact ⟨by omega, fun hh => absurd e hh.1, by omega⟩
    · rw [if_neg e]
      exact ⟨by omega, fun hh => by have := i2 hh.2; omega, by omega⟩

end Go.Proofs.YtlcbogafgdofgaaDoor

/- Store: all packed anew: it never fails (the plain law). -/
namespace Go.Proofs.YtlcbogafgdofgaaDoor
open Go Go.MW
set_option linter.unusedSimpArgs false
set_option linter.unusedVariables false
set_option maxRecDepth 8000

theorem PutL.nil {S : SB} (hw : W S) : PutL S [] [] [] S :=
  ⟨hw, rfl, List.nodup_nil, by simp, by simp, fun _ _ => rfl, rfl, by simp [bsum], fun _ _ => ⟨rfl, rfl⟩, rfl, by simp [rsum]⟩
theorem PutL.cons {S S1 S' : SB} {c : Int} {cs : List Int} {d1 d2 : List UInt8} {x : Int × Int} {ys : List (Int × Int)} (t : TakL S c d1 x S1) (hd : d1.length = bN c) (p : PutL S1 cs d2 ys S') : PutL S (c :: cs) (d1 ++ d2) (x :: ys) S' := by
  have hx2 : x ∉ ys := fun hx => by have := p.no _ hx; rw [t.has] at this; cases this
  obtain ⟨r1, r2⟩ := p.rdo _ t.has
  have hb : bsum (c :: cs) = bN c + bsum cs := by simp [bsum]
  refine ⟨p.w, p.len.trans t.len, List.nodup_cons.2 ⟨hx2, p.nd⟩, fun y hy => ?_, fun y hy => ?_, fun y hy => ?_, ?_, ?_, fun y hy => ?_, ?_, ?_⟩
  · rcases List.mem_cons.1 hy with rfl | hy
    · exact t.no
    · rw [← t.oth y fun e => hx2 (e ▸ hy)]; exact p.no y hy
  · rcases List.mem_cons.1 hy with rfl | hy
    · rw [p.oth _ hx2]; exact t.has
    · exact p.has y hy
  · rw [List.mem_cons, not_or] at hy
    rw [p.oth y hy.2, t.oth y hy.1]
  · rw [List.map_cons, p.cl, r2, t.cl]
  · rw [List.flatMap_cons, p.rd, r1, t.rd, hb, hd, Nat.sub_self, List.replicate_zero, List.append_nil, List.append_assoc, List.length_append, hd]
    congr 3
    omega
  · have hne : hasX S1.1 y = true := by
      rw [t.oth y]
      · exact hy
      · rintro rfl; rw [t.no] at hy; cases hy
    obtain ⟨a1, a2⟩ := t.rdo y hy
    obtain ⟨b1, b2⟩ := p.rdo y hne
    exact ⟨b1.trans a1, b2.trans a2⟩
  · rw [List.foldl_cons, drops_past ys p.w (by rw [p.oth _ hx2]; exact t.has) hx2 p.has p.nd, p.back, t.back]
  · rw [p.cnt, t.cnt, rsum]; omega

theorem SInv.put' {S S' : SB} {ps : List Ob} (h : SInv S ps) {d d' : List UInt8} {cs : List Int} {xs : List (Int × Int)} (hd : 1 ≤ d.length ∧ d.length ≤ 4096) (p : PutL S cs d' xs S') (hcs : cs = cut d.length) (hz : ∃ z, d' = d ++ List.replicate z 0) : SInv S' (ps ++ [(xs, d)]) := by
  have hfl : (ps ++ [(xs, d)]).flatMap (·.1) = ps.flatMap (·.1) ++ xs := by simp
  refine ⟨p.w, ?_, ?_, ?_, ?_⟩
  · rw [hfl, List.nodup_append]
    refine ⟨h.nd, p.nd, fun a ha b hb e => ?_⟩
    subst e
    have := p.no a hb
    rw [h.has a ha] at this
    cases this
  · rw [hfl]
    intro x hx
    rcases List.mem_append.1 hx with hx | hx
    · rw [p.oth x fun hy => by have := p.no x hy; rw [h.has x hx] at this; cases this]
      exact h.has x hx
    · exact p.has x hx
  · intro o ho
    rcases List.mem_append.1 ho with ho | ho
    · exact (h.g o ho).keep fun x hx => p.rdo x (h.has x (List.mem_flatMap.2 ⟨o, ho, hx⟩))
    · obtain rfl := List.mem_singleton.1 ho
      obtain ⟨z, hz⟩ := hz
      refine ⟨hd, p.cl.trans hcs, ?_⟩
      rw [p.rd, hz]
      exact ⟨z + (bsum cs - (d ++ List.replicate z 0).length), by rw [List.append_assoc, List.replicate_append_replicate]⟩
  · rw [p.cnt, h.sum, List.map_append, isum_append, hcs]
    simp [isum, obN]

theorem rem_cons (f : Int × Int → Int) (x : Int × Int) (xs : List (Int × Int)) (c : Int) : rem f (x :: xs) c = (if f x = c then 1 else 0) + rem f xs c := by
  unfold rem
  rw [List.map_cons, isum_cons]
theorem rem_nonneg (f : Int × Int → Int) : ∀ (xs : List (Int × Int)) (c : Int), 0 ≤ rem f xs c
  | [], c => by simp [rem, isum]
  | x :: xs, c => by
    have := rem_nonneg f xs c
    rw [rem_cons]
    split <;> omega
theorem rem_append (f : Int × Int → Int) (xs ys : List (Int × Int)) (c : Int) : rem f (xs ++ ys) c = rem f xs c + rem f ys c := by
  unfold rem
  rw [List.map_append, isum_append]

/-- No more segments of a class than there were. -/
theorem NS_mono {S S0 : SB} (hw0 : W S0) (h : PK S.1) (hb : ∀ c, slN c ≠ 0 → NU S.1 c ≤ NU S0.1 c) : NS S.1 0 ≤ NS S0.1 0 ∧ NS S.1 1 ≤ NS S0.1 1 ∧ NS S.1 2 ≤ NS S0.1 2 ∧ NS S.1 3 ≤ NS S0.1 3 := by
  have e0 : slN 0 = 64 := by decide
  have e1 : slN 1 = 32 := by decide
  have e2 : slN 2 = 16 := by decide
  have e3 : slN 3 = 8 := by decide
  have a0 := h.full 0 (by decide)
  have a1 := h.full 1 (by decide)
  have a2 := h.full 2 (by decide)
  have a3 := h.full 3 (by decide)
  have b0 := hb 0 (by decide)
  have b1 := hb 1 (by decide)
  have b2 := hb 2 (by decide)
  have b3 := hb 3 (by decide)
  have c0 := NU_le hw0.c (c := 0) (by decide)
  have c1 := NU_le hw0.c (c := 1) (by decide)
  have c2 := NU_le hw0.c (c := 2) (by decide)
  have c3 := NU_le hw0.c (c := 3) (by decide)
  rw [e0] at a0 c0
  rw [e1] at a1 c1
  rw [e2] at a2 c2
  rw [e3] at a3 c3
  omega

/-- So there is always room. -/
theorem tak_room {S S0 : SB} (hw : W S) (hw0 : W S0) (h : PK S.1) (hl : S.1.length = S0.1.length) (hb : ∀ c, slN c ≠ 0 → NU S.1 c ≤ NU S0.1 c) {c : Int} (h0 : slN c ≠ 0) (hc : NU S.1 c < NU S0.1 c) : (tak S.1 c).2.2 = 0 := by
  refine Classical.byContradiction fun hne => ?_
  obtain ⟨g1, g2⟩ := tak_no hw.c h0 hne
  have hm := NS_mono hw0 h hb
  have s1 := (NS_all hw.c).2.1 g2
  have s0 := (NS_all hw0.c).1
  have hn := none_fits hw.c h0 g1
  have hu := NU_le hw0.c h0
  have hlt : NS S.1 c < NS S0.1 c := by
    have e0 : slN 0 = 64 := by decide
    have e1 : slN 1 = 32 := by decide
    have e2 : slN 2 = 16 := by decide
    have e3 : slN 3 = 8 := by decide
    obtain ⟨_, k1, k2⟩ := slN_ne h0
    have : c = 0 ∨ c = 1 ∨ c = 2 ∨ c = 3 := by omega
    rcases this with rfl | rfl | rfl | rfl
    · rw [e0] at hn hu; omega
    · rw [e1] at hn hu; omega
    · rw [e2] at hn hu; omega
    · rw [e3] at hn hu; omega
  obtain ⟨_, k1, k2⟩ := slN_ne h0
  have : c = 0 ∨ c = 1 ∨ c = 2 ∨ c = 3 := by omega
  rcases this with rfl | rfl | rfl | rfl <;> omega

theorem packC_law {S0 : SB} (hw0 : W S0) : ∀ (xs : List (Int × Int)) {S : SB} (R : Int → Int), W S → PK S.1 → S.1.length = S0.1.length → (∀ x ∈ xs, hasX S0.1 x = true) → (∀ c, 0 ≤ R c) → (∀ c, slN c ≠ 0 → NU S.1 c + rem (clX S0.1) xs c + R c ≤ NU S0.1 c) →
    PutL S (xs.map (clX S0.1)) (xs.flatMap (rdS S0.1 S0.2)) (packC S0.1 S0.2 xs S).2 (packC S0.1 S0.2 xs S).1 ∧ PK (packC S0.1 S0.2 xs S).1.1 ∧ ∀ c, slN c ≠ 0 → NU (packC S0.1 S0.2 xs S).1.1 c = NU S.1 c + rem (clX S0.1) xs c
  | [], S, R, hw, hk, _, _, _, _ => ⟨PutL.nil hw, hk, fun c _ => by simp [packC, rem, isum]⟩
  | x :: xs, S, R, hw, hk, hl, hh, hR, hb => by
    have hx := hh x (by simp)
    obtain ⟨i, a, rfl, hi, ha, _, _⟩ := has_slot hw0.ok hx
    have hc0 : slN (clX S0.1 ((i : Int), (a : Int))) ≠ 0 := by
      show slN (sat S0.1 i).1 ≠ 0
      omega
    have hrl := rd_len hw0 hx
    have hb' : ∀ c, slN c ≠ 0 → NU S.1 c + rem (clX S0.1) (((i : Int), (a : Int)) :: xs) c ≤ NU S0.1 c := fun c h => by have := hb c h; have := hR c; omega
    have ht : (tak S.1 (clX S0.1 ((i : Int), (a : Int)))).2.2 = 0 := by
      refine tak_room hw hw0 hk hl (fun c h => ?_) hc0 ?_
      · have := hb' c h; have := rem_nonneg (clX S0.1) (((i : Int), (a : Int)) :: xs) c; omega
      · have h1 := hb' _ hc0
        rw [rem_cons, if_pos rfl] at h1
        have := rem_nonneg (clX S0.1) xs (clX S0.1 ((i : Int), (a : Int)))
        omega
    have t := tak_law hw ht (d := rdS S0.1 S0.2 ((i : Int), (a : Int))) (by rw [hrl]; exact Nat.le_refl _)
    obtain ⟨pk, nu⟩ := hk.take hw ht
    have hnu : ∀ c, slN c ≠ 0 → NU (tak S.1 (clX S0.1 ((i : Int), (a : Int)))).1 c = NU S.1 c + if clX S0.1 ((i : Int), (a : Int)) = c then 1 else 0 := fun c h => nu c (slN_ne h).1
    obtain ⟨p, pk2, nu2⟩ := packC_law hw0 xs (S := takS S (clX S0.1 ((i : Int), (a : Int))) (rdS S0.1 S0.2 ((i : Int), (a : Int)))) R t.w pk (by rw [t.len, hl]) (fun y hy => hh y (by simp [hy])) hR (fun c h => by
      have h1 := hb c h
      have h2 := hnu c h
      rw [rem_cons] at h1
      show NU (tak S.1 (clX S0.1 ((i : Int), (a : Int)))).1 c + _ + _ ≤ _
      omega)
    refine ⟨?_, pk2, fun c h => ?_⟩
    · rw [List.map_cons, List.flatMap_cons]
      exact PutL.cons t hrl p
    · have h1 := nu2 c h
      have h2 := hnu c h
      rw [rem_cons]
      have h3 : NU (takS S (clX S0.1 ((i : Int), (a : Int))) (rdS S0.1 S0.2 ((i : Int), (a : Int)))).1 c = NU (tak S.1 (clX S0.1 ((i : Int), (a : Int)))).1 c := rfl
      show NU (packC S0.1 S0.2 xs (takS S (clX S0.1 ((i : Int), (a : Int))) (rdS S0.1 S0.2 ((i : Int), (a : Int))))).1.1 c = _
      omega

theorem packL_law {S0 : SB} (hw0 : W S0) : ∀ (ps : List Ob) {S : SB} (qs : List Ob), SInv S qs → PK S.1 → S.1.length = S0.1.length → (∀ p ∈ ps, Good1 S0 p ∧ ∀ x ∈ p.1, hasX S0.1 x = true) → (∀ c, slN c ≠ 0 → NU S.1 c + rem (clX S0.1) (ps.flatMap (·.1)) c ≤ NU S0.1 c) →
    SInv (packL S0.1 S0.2 (ps.map (·.1)) S).1 (qs ++ (packL S0.1 S0.2 (ps.map (·.1)) S).2.zip (ps.map (·.2))) ∧ PK (packL S0.1 S0.2 (ps.map (·.1)) S).1.1 ∧ (packL S0.1 S0.2 (ps.map (·.1)) S).2.length = ps.length ∧ (packL S0.1 S0.2 (ps.map (·.1)) S).1.1.length = S0.1.length ∧
      ∀ c, slN c ≠ 0 → NU (packL S0.1 S0.2 (ps.map (·.1)) S).1.1 c = NU S.1 c + rem (clX S0.1) (ps.flatMap (·.1)) c
  | [], S, qs, h, hk, hl, _, _ => by
    refine ⟨by simpa [packL] using h, hk, rfl, hl, fun c _ => by simp [packL, rem, isum]⟩
  | p :: ps, S, qs, h, hk, hl, hg, hb => by
    obtain ⟨g, gh⟩ := hg p (by simp)
    have hfl : (p :: ps).flatMap (·.1) = p.1 ++ ps.flatMap (·.1) := List.flatMap_cons
    rw [hfl] at hb ⊢
    obtain ⟨q, pk, nu⟩ := packC_law hw0 p.1 (fun c => rem (clX S0.1) (ps.flatMap (·.1)) c) h.w hk hl gh (fun c => rem_nonneg _ _ _) (fun c hc => by have := hb c hc; rw [rem_append] at this; omega)
    have h1 := h.put' g.n q g.cl g.rd
    obtain ⟨a1, a2, a3, a4, a5⟩ := packL_law hw0 ps (qs ++ [((packC S0.1 S0.2 p.1 S).2, p.2)]) h1 pk (q.len.trans hl) (fun r hr => hg r (by simp [hr])) (fun c hc => by
      have h2 := hb c hc
      have h3 := nu c hc
      rw [rem_append] at h2
      omega)
    rw [List.map_cons]
    refine ⟨?_, a2, ?_, a4, fun c hc => ?_⟩
    · rw [List.append_assoc] at a1
      exact a1
    · show _ + 1 = _
      rw [a3]; rfl
    · have h3 := nu c hc
      have h4 := a5 c hc
      rw [rem_append]
      show NU (packL S0.1 S0.2 (ps.map (·.1)) (packC S0.1 S0.2 p.1 S).1).1.1 c = _
      omega

theorem pc_pos {u : Nat} (h : u ≠ 0) (hu : u < 2 ^ 64) : 0 < pc 64 u := by
  obtain ⟨k, hk⟩ : ∃ k, u.testBit k = true := Nat.exists_testBit_of_ne_zero h
  have hk2 : k < 64 := by
    rcases Nat.lt_or_ge k 64 with h | h
    · exact h
    · rw [testBit_big hu h] at hk; cases hk
  have := pc_bits 64 (clr1 u k) u k hk2 (by rw [clr1_bit hu hk2]; simp) hk fun i hi => by rw [clr1_bit hu hk2]; simp [hi]
  omega

/-- Where nothing is taken, all is free. -/
theorem all_free {l : List Sg} (hl : SegOK l) (hc : chk l = true) (h : cnt sgTaken l = 0) : ∀ p ∈ l, p = (-1, 0) := by
  have hok : ∀ p ∈ l, sgOK p = true := fun p hp => by
    obtain ⟨i, hi, rfl⟩ := List.getElem_of_mem hp
    have := (chk_iff.1 hc).2 i hi
    rwa [sat_eq hi] at this
  simp only [cnt, hc, if_true] at h
  have hz : ∀ m : List Sg, isum (m.map sgTaken) = 0 → ∀ p ∈ m, sgTaken p = 0 := by
    intro m
    induction m with
    | nil => intro _ p hp; cases hp
    | cons q m ih =>
      intro hm p hp
      have h1 := (isum_le sgTaken_le m).1
      have h2 := (sgTaken_le q).1
      rw [List.map_cons, isum_cons] at hm
      rcases List.mem_cons.1 hp with rfl | hp
      · omega
      · exact ih (by omega) p hp
  intro p hp
  have h0 := hz l h p hp
  by_cases e : p.1 = -1
  · exact Prod.ext e (sgOK_free (hok p hp) e)
  · obtain ⟨s1, s2, s3⟩ := sgOK_used (hok p hp) e
    have h1 := pc_pos s2 (hl p hp)
    have h2 : 0 < byts p.1 := by
      obtain ⟨k0, k1, k2⟩ := slN_ne s1
      have : p.1 = 0 ∨ p.1 = 1 ∨ p.1 = 2 ∨ p.1 = 3 := by omega
      rcases this with e | e | e | e <;> rw [e] <;> decide
    have h3 : 0 < (pc 64 p.2 : Int) * byts p.1 := Int.mul_pos (by omega) h2
    unfold sgTaken at h0
    omega

theorem rsum_objs {S : SB} : ∀ {ps : List Ob}, (∀ p ∈ ps, Good1 S p) → rsum ((ps.flatMap (·.1)).map (clX S.1)) = isum (ps.map obN)
  | [], _ => rfl
  | p :: ps, h => by
    rw [List.flatMap_cons, List.map_append, rsum_append, (h p (by simp)).cl, List.map_cons, isum_cons, rsum_objs fun q hq => h q (by simp [hq])]
    rfl

theorem flatten_map (ps : List Ob) : (ps.map (·.1)).flatten = ps.flatMap (·.1) := by
  rw [List.flatMap_def]

/-- All packed anew. -/
theorem pack_law {S : SB} {ps : List Ob} (h : SInv S ps) : ∃ S' ms, packS S.1 S.2 (ps.map (·.1)) = ((S', ms), 0) ∧ ms.length = ps.length ∧ SInv S' (ms.zip (ps.map (·.2))) ∧ PK S'.1 ∧ S'.1.length = S.1.length ∧ cnt sgTaken S'.1 = cnt sgTaken S.1 ∧ cnt sgHeld S'.1 ≤ cnt sgHeld S.1 := by
  have hd := drops_law _ h.w h.has h.nd
  have hds : dropS S.1 S.2 (ps.map (·.1)).flatten = ((ps.flatMap (·.1)).foldl freS S, 0) := by rw [flatten_map]; exact dropS_ok h.w h.has h.nd
  have hN := drops_NU _ h.w h.has h.nd
  have hc := hd.cnt
  rw [rsum_objs h.g, h.sum] at hc
  generalize (ps.flatMap (·.1)).foldl freS S = D at hd hds hN hc
  have hD0 : cnt sgTaken D.1 = 0 := by omega
  have hfr := all_free hd.w.ok hd.w.c hD0
  have hsat : ∀ i, i < D.1.length → sat D.1 i = (-1, 0) := fun i hi => by rw [sat_eq hi]; exact hfr _ (List.getElem_mem hi)
  have hz : ∀ f : Sg → Int, f (-1, 0) = 0 → isum (D.1.map f) = 0 := by
    intro f hf
    have : ∀ m : List Sg, (∀ p ∈ m, p = (-1, 0)) → isum (m.map f) = 0 := by
      intro m
      induction m with
      | nil => intro _; rfl
      | cons q m ih =>
        intro hm
        rw [List.map_cons, isum_cons, ih fun p hp => hm p (by simp [hp]), hm q (by simp), hf]; rfl
    exact this _ hfr
  have hNU0 : ∀ c, c ≠ -1 → NU D.1 c = 0 := fun c hc => hz _ (by unfold nU; rw [if_neg (Ne.symm hc)])
  have hNS0 : ∀ c, c ≠ -1 → NS D.1 c = 0 := fun c hc => hz _ (by unfold nS; rw [if_neg (Ne.symm hc)])
  have pk0 : PK D.1 := by
    refine ⟨fun i hi => ⟨0, by rw [hsat i hi]⟩, fun c hc i j hi hj f1 f2 => ?_, fun c hc => ?_⟩
    · have := f1.1
      rw [hsat i hi] at this
      exact absurd this.symm (slN_ne hc).1
    · rw [hNU0 c (slN_ne hc).1, hNS0 c (slN_ne hc).1]
      omega
  have inv0 : SInv D [] := ⟨hd.w, by simp, by simp, by simp, by rw [hD0]; rfl⟩
  obtain ⟨a1, a2, a3, a4, a5⟩ := packL_law h.w ps [] inv0 pk0 hd.len (fun p hp => ⟨h.g p hp, fun x hx => h.has x (List.mem_flatMap.2 ⟨p, hp, hx⟩)⟩) (fun c hc => by have := hN c (slN_ne hc).1; omega)
  have hpk : packS S.1 S.2 (ps.map (·.1)) = (packL S.1 S.2 (ps.map (·.1)) D, 0) := by
    unfold packS
    rw [hds]
    rw [if_pos ⟨rfl, by show ¬ 0 < cnt sgTaken D.1; omega⟩]
  refine ⟨_, _, hpk, a3, by simpa using a1, a2, a4, ?_, ?_⟩
  · have e1 := a1.sum
    rw [List.nil_append] at e1
    rw [e1, h.sum]
    have : ∀ (ms : List (List (Int × Int))) (qs : List Ob), ms.length = qs.length → (ms.zip (qs.map (·.2))).map obN = qs.map obN := by
      intro ms
      induction ms with
      | nil => intro qs hq; rw [List.length_eq_zero_iff.1 hq.symm]; rfl
      | cons m ms ih =>
        intro qs hq
        match qs, hq with
        | q :: qs, hq =>
          rw [List.map_cons, List.zip_cons_cons, List.map_cons, List.map_cons, ih qs (by simpa using hq)]
          rfl
    rw [this _ _ a3]
  · have m := NS_mono (S := (packL S.1 S.2 (ps.map (·.1)) D).1) h.w a2 (fun c hc => by have h1 := a5 c hc; have h2 := hN c (slN_ne hc).1; omega)
    have s1 := (NS_all a1.w.c).2.2
    have s0 := (NS_all h.w.c).2.2
    rw [s1, s0]
    omega

end Go.Proofs.YtlcbogafgdofgaaDoor

/- Store: all packed anew (the walk). -/
namespace Go.Proofs.YtlcbogafgdofgaaDoor
open Go Go.MW
set_option linter.unusedSimpArgs false
set_option linter.unusedVariables false
set_option maxRecDepth 20000

/-- A row of one's own, handed to a sealed call: nothing writes it any more behind it. -/
theorem own_callF {α : Type} {e : El α} (he1 : e.sz = 1) {H : List Blk} {v : V} {xs : List α} (h : Own 1 H v (e.vs xs)) : ∃ w, IsE e w xs ∧ ∀ {im : Bool} {f : Nat} {a r : V} {K : V → List Blk → Prop}, Does Tryd.prog G0 im f [a, w] r → Free true a → (∀ H', Mod (fun x => hasB v x) H H' → K r H') → callK Tryd.prog G0 false f [a, v] H K := by
  rcases h with ⟨rfl, hx⟩ | ⟨b, cap, opn, rfl, hb, hc⟩
  · refine ⟨.nils, .inl ⟨rfl, El.vs_eq_nil.1 hx⟩, fun hd ha hk => Does.call hd (fr2 ha .nils) (hk H ⟨Nat.le_refl _, fun _ _ _ => rfl⟩)⟩
  · refine ⟨.vs (e.vs xs), isE_vs xs, fun {im f a r K} hd ha hk => ?_⟩
    have h1 := Does.callF (G := G0) (P := Tryd.prog) (pre := [a]) (post := []) (b := b) (n := (e.vs xs).length) (i := 0) (len := (e.vs xs).length) (sz := 1) (cap := cap) (xs := e.vs xs) (opn := opn) (H := H) (K := K) (r := r) (im := im) (f := f) (by rw [List.drop_zero, List.take_length]; exact hd) (by intro x hx; rw [List.mem_singleton] at hx; subst hx; exact ha) (fun x hx => nomatch hx) hb rfl (by omega) ?_ ?_
    · exact h1
    · rw [List.drop_zero, List.take_length]
      intro y hy j hj
      obtain ⟨i, hi, rfl⟩ := List.getElem_of_mem hy
      have := El.vs_free (e := e) (im := true) xs (fun _ => rfl) i j hi
      rw [List.getD_eq_getElem?_getD, List.getElem?_eq_getElem hi] at this
      exact this hj
    · exact hk _ ⟨by simp, fun q hq hn => getB_set_ne _ fun e => hn e⟩

theorem slN_pos' : ∀ c : Nat, c < 4 → slN c ≠ 0 := by decide +kernel
theorem SInv.len65 {S : SB} {ps : List Ob} (h : SInv S ps) {p : Ob} (hp : p ∈ ps) : p.1.length ≤ 65 := by
  have g := h.g p hp
  have h1 := cut_len (n := (p.2.length : Int)) (by have := g.n; omega)
  have h2 := congrArg List.length g.cl
  rw [List.length_map] at h2
  omega
theorem flat_len : ∀ {ps : List Ob}, (∀ p ∈ ps, p.1.length ≤ 65) → (ps.flatMap (·.1)).length ≤ 65 * ps.length
  | [], _ => by simp
  | p :: ps, h => by
    have := flat_len (ps := ps) fun q hq => h q (by simp [hq])
    have := h p (by simp)
    rw [List.flatMap_cons, List.length_append, List.length_cons]
    omega
theorem zip_mem {ms : List (List (Int × Int))} {ps : List Ob} (h : ms.length = ps.length) {j : Nat} (hj : j < ps.length) : (ms.getD j [], ps[j].2) ∈ ms.zip (ps.map (·.2)) := by
  have h1 : j < (ms.zip (ps.map (·.2))).length := by simp; omega
  have h2 := List.getElem_mem h1
  rw [List.getElem_zip, List.getElem_map] at h2
  rw [List.getD_eq_getElem?_getD, List.getElem?_eq_getElem (by omega)]
  exact h2
/-- A segment of a class whose last slot is not taken has slots left. -/
theorem open_fits {l : List Sg} (hc : chk l = true) {c : Nat} (hcc : c < 4) {i : Nat} (hi : i < l.length) (h1 : (sat l i).1 = c) (h2 : has l i ((slN c : Int) - 1) = false) : fits c (sat l i) := by
  refine ⟨h1, fun e => ?_⟩
  have hp := slN_pos' c hcc
  have h3 : has l i ((slN c : Int) - 1) = true := by
    refine has_iff.2 ⟨hc, by omega, by omega, by omega, ?_⟩
    rw [show ((slN c : Int) - 1).toNat = slN c - 1 by omega, Int.toNat_natCast]
    show (sat l i).2.testBit _ = true
    rw [e, allN, Nat.testBit_two_pow_sub_one]
    simp; omega
  rw [h2] at h3
  cases h3

theorem app_as {G H1 H2 : List Blk} {S' : SB} {ps : List Ob} {xs : List (Int × Int)} {d : List UInt8} {v1 : V} {chs : List Ch} {v8 v9 u1 u2 w1 x : V} (inv' : SInv S' (ps ++ [(xs, d)])) (hl : S'.1.length = 20) (i1 : IsE segE v1 S'.1) (hch : chs.map (·.xs) = ps.map (·.1)) (hG0 : getB G 0 = .row 2 [x] false false)
    (ow : Own2 1 1 H2 u1 (chE.vs chs ++ [w1]) u2 (strE.vs (ps.map (·.2)) ++ [.str d])) (kb1 : KeepsBut v8 (G ++ [.row 1 [w1] false false]) H1) (kb2 : KeepsBut v9 (H1 ++ [.row 1 [.str d] false false]) H2)
    (nw1 : ∀ b, hasB u1 b → hasB v8 b ∨ (G ++ [Blk.row 1 [w1] false false]).length ≤ b) (nw2 : ∀ b, hasB u2 b → hasB v9 b ∨ (H1 ++ [Blk.row 1 [.str d] false false]).length ≤ b) (n8 : ∀ c, hasB v8 c → 1 ≤ c ∧ c < G.length) (n9 : ∀ c, hasB v9 c → 1 ≤ c ∧ c < G.length) (c1 : IsE slotE w1 xs) :
    AS H2 S' (ps ++ [(xs, d)]) v1 (chs ++ [⟨w1, xs, c1⟩]) u1 u2 ∧ getB H2 0 = .row 2 [x] false false := by
  have hGl := getB_lt' hG0
  have v1e : chE.vs chs ++ [w1] = chE.vs (chs ++ [⟨w1, xs, c1⟩]) := El.vs_append (e := chE) chs [⟨w1, xs, c1⟩]
  have v2e : strE.vs (ps.map (·.2)) ++ [.str d] = strE.vs ((ps ++ [(xs, d)]).map (·.2)) := by rw [List.map_append]; exact El.vs_append (e := strE) (ps.map (·.2)) [d]
  rw [v1e, v2e] at ow
  have hM : Mod (fun x => hasB v8 x ∨ hasB v9 x) G H2 :=
    (((Keeps.mod (Keeps.app G _) _).trans (KeepsBut.mod kb1 fun c hc => .inl hc)).trans (Keeps.mod (Keeps.app _ _) _)).trans (KeepsBut.mod kb2 fun c hc => .inr hc)
  refine ⟨⟨inv', hl, i1, by rw [List.map_append, List.map_append, hch]; rfl, ow, fun c hc => ?_⟩, ?_⟩
  · have l1 : G.length ≤ H1.length := by have := kb1.1; simp at this; omega
    rcases hc with hc | hc
    · rcases nw1 c hc with h | h
      · exact (n8 c h).1
      · simp at h; omega
    · rcases nw2 c hc with h | h
      · exact (n9 c h).1
      · simp at h; omega
  · rw [hM.2 0 hGl fun h => by rcases h with h | h; have := n8 0 h; omega; have := n9 0 h; omega]
    exact hG0

theorem packs_fn {va : V} {l : List (List UInt8)} (ha : IsE strE va l) {vd : V} {dr : List UInt8} (hd : IsE u8E vd dr) : Does Tryd.prog G0 true 7 [va, vd] (.bool true) := by
  refine Does.intro mixed comp7 ?_
  unfold c7
  simp -implicitDefEqProofs (disch := omega) only [mwx, ne_eq, false_implies, implies_true, forall_eq_or_imp, MW.get, ev, evs, argFr, resK, packV, slHK, partsV, partsS, setR, Int.cast_ofNat_Int, Int.natCast_zero, Int.natCast_one, Nat.reduceLeDiff, reduceIte, Nat.reduceEqDiff, Nat.reduceBEq, reduceCtorEq, Nat.reduceAdd, Nat.reduceMul, Nat.reduceSub, Nat.reduceLT, Int.reduceToNat, Int.reduceLT, Int.reduceLE, Int.reduceEq, Int.reduceAdd, Int.reduceNeg, Int.reduceMul, Int.reduceSub]
  refine Does.call awake_fn fr0 ?_
  simp -implicitDefEqProofs (disch := omega) only [mwx, ne_eq, false_implies, implies_true, forall_eq_or_imp, MW.get, ev, evs, argFr, resK, packV, slHK, partsV, partsS, setR, Int.cast_ofNat_Int, Int.natCast_zero, Int.natCast_one, Nat.reduceLeDiff, reduceIte, Nat.reduceEqDiff, Nat.reduceBEq, reduceCtorEq, Nat.reduceAdd, Nat.reduceMul, Nat.reduceSub, Nat.reduceLT, Int.reduceToNat, Int.reduceLT, Int.reduceLE, Int.reduceEq, Int.reduceAdd, Int.reduceNeg, Int.reduceMul, Int.reduceSub]
  refine Does.call (newS_fn 20 (by decide)) (fr1 (.int _ _)) ?_
  have inv0 : SInv (List.replicate 20 (-1, 0), List.replicate (20 * 512) 0) [] := SInv.new 20 (by decide)
  generalize hS : ((List.replicate 20 (-1, 0), List.replicate (20 * 512) 0) : SB) = S0 at inv0
  have e1 : (List.replicate 20 (-1, 0) : List Sg) = S0.1 := by rw [← hS]
  have e2 : (List.replicate (20 * 512) 0 : List UInt8) = S0.2 := by rw [← hS]
  have e3 : S0.1.length = 20 := by rw [← e1]; rfl
  rw [e1, e2]
  clear hS e1 e2
  simp -implicitDefEqProofs (disch := omega) only [lenK_isE ha, mwx, ne_eq, false_implies, implies_true, forall_eq_or_imp, MW.get, ev, evs, argFr, resK, packV, slHK, partsV, partsS, setR, Int.cast_ofNat_Int, Int.natCast_zero, Int.natCast_one, Nat.reduceLeDiff, reduceIte, Nat.reduceEqDiff, Nat.reduceBEq, reduceCtorEq, Nat.reduceAdd, Nat.reduceMul, Nat.reduceSub, Nat.reduceLT, Int.reduceToNat, Int.reduceLT, Int.reduceLE, Int.reduceEq, Int.reduceAdd, Int.reduceNeg, Int.reduceMul, Int.reduceSub]
  refine xg_decf (fun h => ?_) fun h => ?_
  · simp -implicitDefEqProofs (disch := omega) only [h, mwx, ne_eq, false_implies, implies_true, forall_eq_or_imp, MW.get, ev, evs, argFr, resK, packV, slHK, partsV, partsS, setR, Int.cast_ofNat_Int, Int.natCast_zero, Int.natCast_one, Nat.reduceLeDiff, reduceIte, Nat.reduceEqDiff, Nat.reduceBEq, reduceCtorEq, Nat.reduceAdd, Nat.reduceMul, Nat.reduceSub, Nat.reduceLT, Int.reduceToNat, Int.reduceLT, Int.reduceLE, Int.reduceEq, Int.reduceAdd, Int.reduceNeg, Int.reduceMul, Int.reduceSub]
    exact frz_bool rfl
  simp -implicitDefEqProofs (disch := omega) only [h, lenK_isE hd, mwx, ne_eq, false_implies, implies_true, forall_eq_or_imp, MW.get, ev, evs, argFr, resK, packV, slHK, partsV, partsS, setR, Int.cast_ofNat_Int, Int.natCast_zero, Int.natCast_one, Nat.reduceLeDiff, reduceIte, Nat.reduceEqDiff, Nat.reduceBEq, reduceCtorEq, Nat.reduceAdd, Nat.reduceMul, Nat.reduceSub, Nat.reduceLT, Int.reduceToNat, Int.reduceLT, Int.reduceLE, Int.reduceEq, Int.reduceAdd, Int.reduceNeg, Int.reduceMul, Int.reduceSub]
  refine xg_decf (fun h' => ?_) fun h' => ?_
  · simp -implicitDefEqProofs (disch := omega) only [h', mwx, ne_eq, false_implies, implies_true, forall_eq_or_imp, MW.get, ev, evs, argFr, resK, packV, slHK, partsV, partsS, setR, Int.cast_ofNat_Int, Int.natCast_zero, Int.natCast_one, Nat.reduceLeDiff, reduceIte, Nat.reduceEqDiff, Nat.reduceBEq, reduceCtorEq, Nat.reduceAdd, Nat.reduceMul, Nat.reduceSub, Nat.reduceLT, Int.reduceToNat, Int.reduceLT, Int.reduceLE, Int.reduceEq, Int.reduceAdd, Int.reduceNeg, Int.reduceMul, Int.reduceSub]
    exact frz_bool rfl
  have hlen : l.length ≤ 30 := by omega
  have hdl : dr.length ≤ 30 := by omega
  simp -implicitDefEqProofs (disch := omega) only [h', mwx, ne_eq, false_implies, implies_true, forall_eq_or_imp, MW.get, ev, evs, argFr, resK, packV, slHK, partsV, partsS, setR, Int.cast_ofNat_Int, Int.natCast_zero, Int.natCast_one, Nat.reduceLeDiff, reduceIte, Nat.reduceEqDiff, Nat.reduceBEq, reduceCtorEq, Nat.reduceAdd, Nat.reduceMul, Nat.reduceSub, Nat.reduceLT, Int.reduceToNat, Int.reduceLT, Int.reduceLE, Int.reduceEq, Int.reduceAdd, Int.reduceNeg, Int.reduceMul, Int.reduceSub]
  have hroom : ∀ m b, m ≤ 300 → b ≤ 128 → roomy m b := fun m b h1 h2 => roomy_of (by omega) h2
  refine xl_loop (fun k st => ∃ (i : Nat) (S : SB) (ps : List Ob) (v : V) (chs : List Ch) (v8 v9 : V), k + i = l.length ∧ AS st.H S ps v chs v8 v9 ∧ ps.length ≤ i ∧ getB st.H 0 = .row 2 [.agg [v, .str S.2]] false false ∧
      get st.fr 0 = va ∧ get st.fr 1 = vd ∧ get st.fr 5 = .bool true ∧ get st.fr 6 = .ptr 0 1 0 0 ∧ get st.fr 8 = v8 ∧ get st.fr 9 = v9 ∧ get st.fr 10 = .int .i64 i) l.length
    ⟨0, S0, [], _, [], .nils, .nils, by omega, ⟨inv0, e3, isE_vs _, rfl, .nil _ _ _, fun c h => by rcases h with h | h <;> exact h.elim⟩, by simp, rfl, rfl, rfl, rfl, rfl, rfl, rfl, rfl⟩ ?_
  clear inv0 e3 S0
  rintro J hJ k fr H ⟨i, S, ps, v, chs, v8, v9, k1, A, k2, hb0, h0, h1, h5, h6, h8, h9, h10⟩
  simp -implicitDefEqProofs (disch := omega) only [h0, h10, lenK_isE ha, mwx, ne_eq, false_implies, implies_true, forall_eq_or_imp, MW.get, ev, evs, argFr, resK, packV, slHK, partsV, partsS, setR, Int.cast_ofNat_Int, Int.natCast_zero, Int.natCast_one, Nat.reduceLeDiff, reduceIte, Nat.reduceEqDiff, Nat.reduceBEq, reduceCtorEq, Nat.reduceAdd, Nat.reduceMul, Nat.reduceSub, Nat.reduceLT, Int.reduceToNat, Int.reduceLT, Int.reduceLE, Int.reduceEq, Int.reduceAdd, Int.reduceNeg, Int.reduceMul, Int.reduceSub]
  refine xc_dec (fun h11 => ?_) fun h11 => ?_
  · have hi : i < l.length := by omega
    have hi0 : (0 : Int) ≤ (i : Int) := by omega
    have hi1 : (i : Int).toNat < l.length := by simpa using hi
    have hw : IntKind.i64.wrap ((i : Int) + 1) = ((i + 1 : Nat) : Int) := wrap64 (n := ((i + 1 : Nat) : Int)) (by omega) (by omega)
    simp -implicitDefEqProofs (disch := omega) only [h0, h10, iaK_str ha hi0 hi1, mwx, ne_eq, false_implies, implies_true, forall_eq_or_imp, MW.get, ev, evs, argFr, resK, packV, slHK, partsV, partsS, setR, Int.cast_ofNat_Int, Int.natCast_zero, Int.natCast_one, Nat.reduceLeDiff, reduceIte, Nat.reduceEqDiff, Nat.reduceBEq, reduceCtorEq, Nat.reduceAdd, Nat.reduceMul, Nat.reduceSub, Nat.reduceLT, Int.reduceToNat, Int.reduceLT, Int.reduceLE, Int.reduceEq, Int.reduceAdd, Int.reduceNeg, Int.reduceMul, Int.reduceSub]
    refine xc_dec (fun h12 => ?_) fun h12 => ?_
    · simp -implicitDefEqProofs (disch := omega) only [h5, mwx, ne_eq, false_implies, implies_true, forall_eq_or_imp, MW.get, ev, evs, argFr, resK, packV, slHK, partsV, partsS, setR, Int.cast_ofNat_Int, Int.natCast_zero, Int.natCast_one, Nat.reduceLeDiff, reduceIte, Nat.reduceEqDiff, Nat.reduceBEq, reduceCtorEq, Nat.reduceAdd, Nat.reduceMul, Nat.reduceSub, Nat.reduceLT, Int.reduceToNat, Int.reduceLT, Int.reduceLE, Int.reduceEq, Int.reduceAdd, Int.reduceNeg, Int.reduceMul, Int.reduceSub]
      exact frz_bool rfl
    generalize hdd : l.getD i [] = d at *
    have hb1 : getB (H ++ [.row 2 [.agg [.nils, .str []]] false false]) 0 = .row 2 [.agg [v, .str S.2]] false false := by rw [getB_app' (getB_lt' hb0)]; exact hb0
    have hbl := A.inv.w.b
    have hl20 := A.len
    have hH0 : 0 < H.length := getB_lt' hb0
    obtain ⟨v1, w1, i1, c1, d1⟩ := put_fn A.iv A.inv.w.ok (by omega) (b := S.2) (by omega) (d := d) (by omega)
    have o1 := (isE_one i1).2.2
    obtain ⟨q1, q2, q3⟩ := ch_cells ⟨w1, _, c1⟩
    have q1' : w1.cells.length = 1 := by rw [q1]; rfl
    simp -implicitDefEqProofs (disch := omega) only [h0, h6, h10, hb1, hdd, iaK_str ha hi0 hi1, mwx, ne_eq, false_implies, implies_true, forall_eq_or_imp, MW.get, ev, evs, argFr, resK, packV, slHK, partsV, partsS, setR, Int.cast_ofNat_Int, Int.natCast_zero, Int.natCast_one, Nat.reduceLeDiff, reduceIte, Nat.reduceEqDiff, Nat.reduceBEq, reduceCtorEq, Nat.reduceAdd, Nat.reduceMul, Nat.reduceSub, Nat.reduceLT, Int.reduceToNat, Int.reduceLT, Int.reduceLE, Int.reduceEq, Int.reduceAdd, Int.reduceNeg, Int.reduceMul, Int.reduceSub]
    refine Does.call d1 (fr2 (store_free A.iv _) (.str _)) ?_
    simp -implicitDefEqProofs (disch := omega) only [o1, getB_plus0, set_plus0, mwx, ne_eq, false_implies, implies_true, forall_eq_or_imp, MW.get, ev, evs, argFr, resK, packV, slHK, partsV, partsS, setR, Int.cast_ofNat_Int, Int.natCast_zero, Int.natCast_one, Nat.reduceLeDiff, reduceIte, Nat.reduceEqDiff, Nat.reduceBEq, reduceCtorEq, Nat.reduceAdd, Nat.reduceMul, Nat.reduceSub, Nat.reduceLT, Int.reduceToNat, Int.reduceLT, Int.reduceLE, Int.reduceEq, Int.reduceAdd, Int.reduceNeg, Int.reduceMul, Int.reduceSub]
    have hb3 : getB (H ++ [.row 2 [.agg [v1, .str (putS S.1 S.2 d).1.1.2]] false false]) 0 = .row 2 [.agg [v, .str S.2]] false false := by rw [getB_app' hH0]; exact hb0
    have owG := Own2.mod (S := fun x => x = 0) (H' := (H ++ [Blk.row 2 [.agg [v1, .str (putS S.1 S.2 d).1.1.2]] false false]).set 0 (.row 2 [.agg [v1, .str (putS S.1 S.2 d).1.1.2]] false false)) A.ow ((Keeps.mod (Keeps.app H _) _).trans ⟨by simp, fun q hq hn => getB_set_ne _ (Ne.symm hn)⟩) (fun c hc h => by have := A.n0 c (.inl hc); omega) (fun c hc h => by have := A.n0 c (.inr hc); omega)
    have hG0 : getB ((H ++ [Blk.row 2 [.agg [v1, .str (putS S.1 S.2 d).1.1.2]] false false]).set 0 (.row 2 [.agg [v1, .str (putS S.1 S.2 d).1.1.2]] false false)) 0 = .row 2 [.agg [v1, .str (putS S.1 S.2 d).1.1.2]] false false := getB_set _ (getB_lt' hb3)
    simp -implicitDefEqProofs (disch := omega) only [h6, hb3, o1, mwx, ne_eq, false_implies, implies_true, forall_eq_or_imp, MW.get, ev, evs, argFr, resK, packV, slHK, partsV, partsS, setR, Int.cast_ofNat_Int, Int.natCast_zero, Int.natCast_one, Nat.reduceLeDiff, reduceIte, Nat.reduceEqDiff, Nat.reduceBEq, reduceCtorEq, Nat.reduceAdd, Nat.reduceMul, Nat.reduceSub, Nat.reduceLT, Int.reduceToNat, Int.reduceLT, Int.reduceLE, Int.reduceEq, Int.reduceAdd, Int.reduceNeg, Int.reduceMul, Int.reduceSub]
    generalize hG : (H ++ [Blk.row 2 [.agg [v1, .str (putS S.1 S.2 d).1.1.2]] false false]).set 0 (Blk.row 2 [.agg [v1, .str (putS S.1 S.2 d).1.1.2]] false false) = G at *
    have hcl := A.chl
    refine xg_dec (fun he => ?_) fun he => ?_
    rotate_left
    · have er := putS_err A.inv.w he
      rw [er] at i1 hG0
      simp only at i1 hG0
      simp -implicitDefEqProofs (disch := omega) only [he, h10, hw, mwx, ne_eq, false_implies, implies_true, forall_eq_or_imp, MW.get, ev, evs, argFr, resK, packV, slHK, partsV, partsS, setR, Int.cast_ofNat_Int, Int.natCast_zero, Int.natCast_one, Nat.reduceLeDiff, reduceIte, Nat.reduceEqDiff, Nat.reduceBEq, reduceCtorEq, Nat.reduceAdd, Nat.reduceMul, Nat.reduceSub, Nat.reduceLT, Int.reduceToNat, Int.reduceLT, Int.reduceLE, Int.reduceEq, Int.reduceAdd, Int.reduceNeg, Int.reduceMul, Int.reduceSub]
      refine ⟨k - 1, by omega, hJ _ _ ⟨i + 1, S, ps, v1, chs, v8, v9, by omega, ⟨A.inv, A.len, i1, A.ch, owG, A.n0⟩, by first | omega | (simp; omega), hG0, h0, h1, h5, h6, by first | rfl | exact h8, by first | rfl | exact h9, rfl⟩⟩

    · obtain ⟨p1, p2, p⟩ := putS_law A.inv.w he
      have inv' := A.inv.put ⟨p1, p2⟩ p
      clear hG hb3 d1 hb1
      generalize putS S.1 S.2 d = R at *
      obtain ⟨⟨S', xs⟩, er⟩ := R
      simp only at *
      subst he
      have ow1 := owG.keep (.app G [.row 1 [w1] false false])
      simp -implicitDefEqProofs (disch := omega) only [h10, h1, lenK_isE hd, mwx, ne_eq, false_implies, implies_true, forall_eq_or_imp, MW.get, ev, evs, argFr, resK, packV, slHK, partsV, partsS, setR, Int.cast_ofNat_Int, Int.natCast_zero, Int.natCast_one, Nat.reduceLeDiff, reduceIte, Nat.reduceEqDiff, Nat.reduceBEq, reduceCtorEq, Nat.reduceAdd, Nat.reduceMul, Nat.reduceSub, Nat.reduceLT, Int.reduceToNat, Int.reduceLT, Int.reduceLE, Int.reduceEq, Int.reduceAdd, Int.reduceNeg, Int.reduceMul, Int.reduceSub]
      refine xg_decf (fun h13 => ?_) fun h13 => ?_
      · have h14 : ¬ (i : Int) < (dr.length : Int) := by omega
        simp -implicitDefEqProofs (disch := omega) only [h13, h14, h8, q1, q1', q2, q3, List.length_append, getB_plus, getB_plus0, mwx, ne_eq, false_implies, implies_true, forall_eq_or_imp, MW.get, ev, evs, argFr, resK, packV, slHK, partsV, partsS, setR, Int.cast_ofNat_Int, Int.natCast_zero, Int.natCast_one, Nat.reduceLeDiff, reduceIte, Nat.reduceEqDiff, Nat.reduceBEq, reduceCtorEq, Nat.reduceAdd, Nat.reduceMul, Nat.reduceSub, Nat.reduceLT, Int.reduceToNat, Int.reduceLT, Int.reduceLE, Int.reduceEq, Int.reduceAdd, Int.reduceNeg, Int.reduceMul, Int.reduceSub]
        refine Own2.app3 ow1 (El.vs_goods _) (El.vs_goods (e := chE) [⟨w1, xs, c1⟩]) (hroom _ _ (by rw [El.vs_length]; simp [El.vs]; omega) (by decide)) fun u1 H1 ow2 kb1 nw1 => ?_
        simp -implicitDefEqProofs (disch := omega) only [h0, h9, h10, iaK_str ha hi0 hi1, hdd, List.length_append, getB_plus, getB_plus0, mwx, ne_eq, false_implies, implies_true, forall_eq_or_imp, MW.get, ev, evs, argFr, resK, packV, slHK, partsV, partsS, setR, Int.cast_ofNat_Int, Int.natCast_zero, Int.natCast_one, Nat.reduceLeDiff, reduceIte, Nat.reduceEqDiff, Nat.reduceBEq, reduceCtorEq, Nat.reduceAdd, Nat.reduceMul, Nat.reduceSub, Nat.reduceLT, Int.reduceToNat, Int.reduceLT, Int.reduceLE, Int.reduceEq, Int.reduceAdd, Int.reduceNeg, Int.reduceMul, Int.reduceSub]
        have ow3 := (ow2.keep (.app H1 [.row 1 [.str d] false false])).symm
        refine Own2.app3 ow3 (El.vs_goods _) (El.vs_goods (e := strE) [d]) (hroom _ _ (by rw [El.vs_length]; simp [El.vs]; omega) (by decide)) fun u2 H2 ow4 kb2 nw2 => ?_
        obtain ⟨A2, g2⟩ := app_as inv' (p.len.trans A.len) i1 A.ch hG0 (ow4.symm) kb1 kb2 nw1 nw2 (fun c hc => ⟨A.n0 c (.inl hc), owG.a.lt hc⟩) (fun c hc => ⟨A.n0 c (.inr hc), owG.b.lt hc⟩) c1
        simp -implicitDefEqProofs (disch := omega) only [h10, h1, lenK_isE hd, h14, hw, mwx, ne_eq, false_implies, implies_true, forall_eq_or_imp, MW.get, ev, evs, argFr, resK, packV, slHK, partsV, partsS, setR, Int.cast_ofNat_Int, Int.natCast_zero, Int.natCast_one, Nat.reduceLeDiff, reduceIte, Nat.reduceEqDiff, Nat.reduceBEq, reduceCtorEq, Nat.reduceAdd, Nat.reduceMul, Nat.reduceSub, Nat.reduceLT, Int.reduceToNat, Int.reduceLT, Int.reduceLE, Int.reduceEq, Int.reduceAdd, Int.reduceNeg, Int.reduceMul, Int.reduceSub]
        refine ⟨k - 1, by omega, hJ _ _ ⟨i + 1, S', ps ++ [(xs, d)], v1, chs ++ [⟨w1, xs, c1⟩], u1, u2, by omega, A2, by first | omega | (simp; omega), g2, h0, h1, h5, h6, by first | rfl | exact h8, by first | rfl | exact h9, rfl⟩⟩
      · have h14 : (i : Int) < (dr.length : Int) := by omega
        have hdi : (i : Int).toNat < dr.length := by omega
        generalize hm : (dr.getD i 0).toNat = m
        have hm2 : m < 256 := by rw [← hm]; exact UInt8.toNat_lt _
        have t2 := tmod_nat m 2
        rw [show ((2 : Nat) : Int) = 2 from rfl] at t2
        simp -implicitDefEqProofs (disch := omega) only [h13, h1, h10, iaK_u8 hd hi0 hdi, hm, mwx, ne_eq, false_implies, implies_true, forall_eq_or_imp, MW.get, ev, evs, argFr, resK, packV, slHK, partsV, partsS, setR, Int.cast_ofNat_Int, Int.natCast_zero, Int.natCast_one, Nat.reduceLeDiff, reduceIte, Nat.reduceEqDiff, Nat.reduceBEq, reduceCtorEq, Nat.reduceAdd, Nat.reduceMul, Nat.reduceSub, Nat.reduceLT, Int.reduceToNat, Int.reduceLT, Int.reduceLE, Int.reduceEq, Int.reduceAdd, Int.reduceNeg, Int.reduceMul, Int.reduceSub]
        refine xc_dec (fun h15 => ?_) fun h15 => ?_
        · have h16 : ¬ (m : Int).tmod 2 = 1 := by omega
          simp -implicitDefEqProofs (disch := omega) only [h8, q1, q1', q2, q3, List.length_append, getB_plus, getB_plus0, mwx, ne_eq, false_implies, implies_true, forall_eq_or_imp, MW.get, ev, evs, argFr, resK, packV, slHK, partsV, partsS, setR, Int.cast_ofNat_Int, Int.natCast_zero, Int.natCast_one, Nat.reduceLeDiff, reduceIte, Nat.reduceEqDiff, Nat.reduceBEq, reduceCtorEq, Nat.reduceAdd, Nat.reduceMul, Nat.reduceSub, Nat.reduceLT, Int.reduceToNat, Int.reduceLT, Int.reduceLE, Int.reduceEq, Int.reduceAdd, Int.reduceNeg, Int.reduceMul, Int.reduceSub]
          refine Own2.app3 ow1 (El.vs_goods _) (El.vs_goods (e := chE) [⟨w1, xs, c1⟩]) (hroom _ _ (by rw [El.vs_length]; simp [El.vs]; omega) (by decide)) fun u1 H1 ow2 kb1 nw1 => ?_
          simp -implicitDefEqProofs (disch := omega) only [h0, h9, h10, iaK_str ha hi0 hi1, hdd, List.length_append, getB_plus, getB_plus0, mwx, ne_eq, false_implies, implies_true, forall_eq_or_imp, MW.get, ev, evs, argFr, resK, packV, slHK, partsV, partsS, setR, Int.cast_ofNat_Int, Int.natCast_zero, Int.natCast_one, Nat.reduceLeDiff, reduceIte, Nat.reduceEqDiff, Nat.reduceBEq, reduceCtorEq, Nat.reduceAdd, Nat.reduceMul, Nat.reduceSub, Nat.reduceLT, Int.reduceToNat, Int.reduceLT, Int.reduceLE, Int.reduceEq, Int.reduceAdd, Int.reduceNeg, Int.reduceMul, Int.reduceSub]
          have ow3 := (ow2.keep (.app H1 [.row 1 [.str d] false false])).symm
          refine Own2.app3 ow3 (El.vs_goods _) (El.vs_goods (e := strE) [d]) (hroom _ _ (by rw [El.vs_length]; simp [El.vs]; omega) (by decide)) fun u2 H2 ow4 kb2 nw2 => ?_
          obtain ⟨A2, g2⟩ := app_as inv' (p.len.trans A.len) i1 A.ch hG0 (ow4.symm) kb1 kb2 nw1 nw2 (fun c hc => ⟨A.n0 c (.inl hc), owG.a.lt hc⟩) (fun c hc => ⟨A.n0 c (.inr hc), owG.b.lt hc⟩) c1
          simp -implicitDefEqProofs (disch := omega) only [h10, h1, lenK_isE hd, mwx, ne_eq, false_implies, implies_true, forall_eq_or_imp, MW.get, ev, evs, argFr, resK, packV, slHK, partsV, partsS, setR, Int.cast_ofNat_Int, Int.natCast_zero, Int.natCast_one, Nat.reduceLeDiff, reduceIte, Nat.reduceEqDiff, Nat.reduceBEq, reduceCtorEq, Nat.reduceAdd, Nat.reduceMul, Nat.reduceSub, Nat.reduceLT, Int.reduceToNat, Int.reduceLT, Int.reduceLE, Int.reduceEq, Int.reduceAdd, Int.reduceNeg, Int.reduceMul, Int.reduceSub]
          refine xg_dec (fun h17 => ?_) fun h17 => absurd h14 h17
          simp -implicitDefEqProofs (disch := omega) only [h17, h1, h10, iaK_u8 hd hi0 hdi, hm, mwx, ne_eq, false_implies, implies_true, forall_eq_or_imp, MW.get, ev, evs, argFr, resK, packV, slHK, partsV, partsS, setR, Int.cast_ofNat_Int, Int.natCast_zero, Int.natCast_one, Nat.reduceLeDiff, reduceIte, Nat.reduceEqDiff, Nat.reduceBEq, reduceCtorEq, Nat.reduceAdd, Nat.reduceMul, Nat.reduceSub, Nat.reduceLT, Int.reduceToNat, Int.reduceLT, Int.reduceLE, Int.reduceEq, Int.reduceAdd, Int.reduceNeg, Int.reduceMul, Int.reduceSub]
          refine xc_dec (fun h18 => absurd h18 h16) fun h18 => ?_
          simp -implicitDefEqProofs (disch := omega) only [h10, hw, mwx, ne_eq, false_implies, implies_true, forall_eq_or_imp, MW.get, ev, evs, argFr, resK, packV, slHK, partsV, partsS, setR, Int.cast_ofNat_Int, Int.natCast_zero, Int.natCast_one, Nat.reduceLeDiff, reduceIte, Nat.reduceEqDiff, Nat.reduceBEq, reduceCtorEq, Nat.reduceAdd, Nat.reduceMul, Nat.reduceSub, Nat.reduceLT, Int.reduceToNat, Int.reduceLT, Int.reduceLE, Int.reduceEq, Int.reduceAdd, Int.reduceNeg, Int.reduceMul, Int.reduceSub]
          refine ⟨k - 1, by omega, hJ _ _ ⟨i + 1, S', ps ++ [(xs, d)], v1, chs ++ [⟨w1, xs, c1⟩], u1, u2, by omega, A2, by first | omega | (simp; omega), g2, h0, h1, h5, h6, by first | rfl | exact h8, by first | rfl | exact h9, rfl⟩⟩
        · have h16 : (m : Int).tmod 2 = 1 := by omega
          simp -implicitDefEqProofs (disch := omega) only [h10, h1, lenK_isE hd, mwx, ne_eq, false_implies, implies_true, forall_eq_or_imp, MW.get, ev, evs, argFr, resK, packV, slHK, partsV, partsS, setR, Int.cast_ofNat_Int, Int.natCast_zero, Int.natCast_one, Nat.reduceLeDiff, reduceIte, Nat.reduceEqDiff, Nat.reduceBEq, reduceCtorEq, Nat.reduceAdd, Nat.reduceMul, Nat.reduceSub, Nat.reduceLT, Int.reduceToNat, Int.reduceLT, Int.reduceLE, Int.reduceEq, Int.reduceAdd, Int.reduceNeg, Int.reduceMul, Int.reduceSub]
          refine xg_dec (fun h17 => ?_) fun h17 => absurd h14 h17
          simp -implicitDefEqProofs (disch := omega) only [h17, h1, h10, iaK_u8 hd hi0 hdi, hm, mwx, ne_eq, false_implies, implies_true, forall_eq_or_imp, MW.get, ev, evs, argFr, resK, packV, slHK, partsV, partsS, setR, Int.cast_ofNat_Int, Int.natCast_zero, Int.natCast_one, Nat.reduceLeDiff, reduceIte, Nat.reduceEqDiff, Nat.reduceBEq, reduceCtorEq, Nat.reduceAdd, Nat.reduceMul, Nat.reduceSub, Nat.reduceLT, Int.reduceToNat, Int.reduceLT, Int.reduceLE, Int.reduceEq, Int.reduceAdd, Int.reduceNeg, Int.reduceMul, Int.reduceSub]
          refine xc_dec (fun h18 => ?_) fun h18 => absurd h16 h18
          have hl1 : S'.1.length = 20 := p.len.trans A.len
          have hbl1 := p.w.b
          have hxl : xs.length ≤ 65 := by
            have := congrArg List.length p.cl
            rw [List.length_map] at this
            rw [this]
            exact cut_len (n := (d.length : Int)) (by omega)
          obtain ⟨v2, i2, d2⟩ := drop_fn i1 p.w.ok (by omega) (b := S'.2) (by omega) (xs := xs) c1 (by omega)
          rw [dropS_ok p.w p.has p.nd, p.back] at i2 d2
          simp only at i2 d2
          have o2 := (isE_one i2).2.2
          have hb4 : getB (G ++ [Blk.row 2 [.agg [v2, .str S.2]] false false]) 0 = .row 2 [.agg [v1, .str S'.2]] false false := by rw [getB_app' (getB_lt' hG0)]; exact hG0
          have ow2 := Own2.mod (S := fun x => x = 0) (H' := (G ++ [Blk.row 2 [.agg [v2, .str S.2]] false false]).set 0 (.row 2 [.agg [v2, .str S.2]] false false)) owG ((Keeps.mod (Keeps.app G _) _).trans ⟨by simp, fun q hq hn => getB_set_ne _ (Ne.symm hn)⟩) (fun c hc h => by have := A.n0 c (.inl hc); omega) (fun c hc h => by have := A.n0 c (.inr hc); omega)
          have g2 : getB ((G ++ [Blk.row 2 [.agg [v2, .str S.2]] false false]).set 0 (.row 2 [.agg [v2, .str S.2]] false false)) 0 = .row 2 [.agg [v2, .str S.2]] false false := getB_set _ (getB_lt' hb4)
          simp -implicitDefEqProofs (disch := omega) only [h6, hG0, mwx, ne_eq, false_implies, implies_true, forall_eq_or_imp, MW.get, ev, evs, argFr, resK, packV, slHK, partsV, partsS, setR, Int.cast_ofNat_Int, Int.natCast_zero, Int.natCast_one, Nat.reduceLeDiff, reduceIte, Nat.reduceEqDiff, Nat.reduceBEq, reduceCtorEq, Nat.reduceAdd, Nat.reduceMul, Nat.reduceSub, Nat.reduceLT, Int.reduceToNat, Int.reduceLT, Int.reduceLE, Int.reduceEq, Int.reduceAdd, Int.reduceNeg, Int.reduceMul, Int.reduceSub]
          refine Does.call d2 (fr2 (store_free i1 _) c1.free) ?_
          simp -implicitDefEqProofs (disch := omega) only [o2, getB_plus0, set_plus0, h6, hb4, h10, hw, mwx, ne_eq, false_implies, implies_true, forall_eq_or_imp, MW.get, ev, evs, argFr, resK, packV, slHK, partsV, partsS, setR, Int.cast_ofNat_Int, Int.natCast_zero, Int.natCast_one, Nat.reduceLeDiff, reduceIte, Nat.reduceEqDiff, Nat.reduceBEq, reduceCtorEq, Nat.reduceAdd, Nat.reduceMul, Nat.reduceSub, Nat.reduceLT, Int.reduceToNat, Int.reduceLT, Int.reduceLE, Int.reduceEq, Int.reduceAdd, Int.reduceNeg, Int.reduceMul, Int.reduceSub]
          refine ⟨k - 1, by omega, hJ _ _ ⟨i + 1, S, ps, v2, chs, v8, v9, by omega, ⟨A.inv, A.len, i2, A.ch, ow2, A.n0⟩, by first | omega | (simp; omega), g2, h0, h1, h5, h6, by first | rfl | exact h8, by first | rfl | exact h9, rfl⟩⟩
  · have hl20 := A.len
    have hbl := A.inv.w.b
    have hps : ps.length ≤ 30 := by omega
    have hcl := A.chl
    obtain ⟨S', ms, hpk, hms, inv', pk, hl', hct, hch⟩ := pack_law A.inv
    rw [← A.ch] at hpk
    obtain ⟨w, hwc, hcall⟩ := own_callF (e := chE) rfl A.ow.a
    have hfl : (chs.flatMap (·.xs)).length < 2 ^ 40 := by
      have h1 := flat_len fun p hp => A.inv.len65 hp
      rw [← flatten_map, ← A.ch] at h1
      rw [List.flatMap_def]
      omega
    obtain ⟨⟨v2, w2⟩, ⟨i2, ds, hds, k2'⟩, d2⟩ := pack_fn A.iv A.inv.w.ok (by omega) (b := S.2) (by omega) hwc (by omega) hfl
    rw [hpk] at i2 hds d2
    simp only at i2 hds d2 k2'
    have o2 := (isE_one i2).2.2
    have hS : (strE.vs (ps.map (·.2))).length = ps.length := by rw [El.vs_length, List.length_map]
    have hC : (chE.vs chs).length = ps.length := by rw [El.vs_length, hcl]
    simp -implicitDefEqProofs (disch := omega) only [h6, hb0, h8, mwx, ne_eq, false_implies, implies_true, forall_eq_or_imp, MW.get, ev, evs, argFr, resK, packV, slHK, partsV, partsS, setR, Int.cast_ofNat_Int, Int.natCast_zero, Int.natCast_one, Nat.reduceLeDiff, reduceIte, Nat.reduceEqDiff, Nat.reduceBEq, reduceCtorEq, Nat.reduceAdd, Nat.reduceMul, Nat.reduceSub, Nat.reduceLT, Int.reduceToNat, Int.reduceLT, Int.reduceLE, Int.reduceEq, Int.reduceAdd, Int.reduceNeg, Int.reduceMul, Int.reduceSub]
    refine hcall d2 (store_free A.iv _) fun H' hM => ?_
    have hb1 : getB H' 0 = .row 2 [.agg [v, .str S.2]] false false := by rw [hM.2 0 (getB_lt' hb0) (fun h => by have := A.n0 0 (.inl h); omega)]; exact hb0
    have ow9 : Own 1 H' v9 (strE.vs (ps.map (·.2))) := hM.own A.ow.b fun c hc h => A.ow.sep c h hc
    simp -implicitDefEqProofs (disch := omega) only [o2, getB_plus0, set_plus0, lenK_isE k2', h8, lenK_own A.ow.a, hC, mwx, ne_eq, false_implies, implies_true, forall_eq_or_imp, MW.get, ev, evs, argFr, resK, packV, slHK, partsV, partsS, setR, Int.cast_ofNat_Int, Int.natCast_zero, Int.natCast_one, Nat.reduceLeDiff, reduceIte, Nat.reduceEqDiff, Nat.reduceBEq, reduceCtorEq, Nat.reduceAdd, Nat.reduceMul, Nat.reduceSub, Nat.reduceLT, Int.reduceToNat, Int.reduceLT, Int.reduceLE, Int.reduceEq, Int.reduceAdd, Int.reduceNeg, Int.reduceMul, Int.reduceSub]
    have hdl : ds.length = ps.length := by
      have := congrArg List.length hds
      rw [List.length_map] at this
      omega
    have hdec : decide ((ds.length : Int) = (ps.length : Int)) = true := by simp [hdl]
    generalize hG : H' ++ [Blk.row 2 [.agg [v2, .str S'.2]] false false] = G
    have hg : getB G H'.length = .row 2 [.agg [v2, .str S'.2]] false false := by rw [← hG]; exact getB_new _ _
    have hg0 : getB G 0 = .row 2 [.agg [v, .str S.2]] false false := by rw [← hG, getB_app' (getB_lt' hb1)]; exact hb1
    have owG : Own 1 G v9 (strE.vs (ps.map (·.2))) := ow9.keep (by rw [← hG]; exact .app _ _)
    have hl2 := inv'.w.b
    simp -implicitDefEqProofs (disch := omega) only [hdec, mwx, ne_eq, false_implies, implies_true, forall_eq_or_imp, MW.get, ev, evs, argFr, resK, packV, slHK, partsV, partsS, setR, Int.cast_ofNat_Int, Int.natCast_zero, Int.natCast_one, Nat.reduceLeDiff, reduceIte, Nat.reduceEqDiff, Nat.reduceBEq, reduceCtorEq, Nat.reduceAdd, Nat.reduceMul, Nat.reduceSub, Nat.reduceLT, Int.reduceToNat, Int.reduceLT, Int.reduceLE, Int.reduceEq, Int.reduceAdd, Int.reduceNeg, Int.reduceMul, Int.reduceSub]
    refine xl_loop (fun k' st => ∃ j : Nat, k' + j = ps.length ∧ st.H = G ∧ get st.fr 5 = .bool true ∧ get st.fr 6 = .ptr 0 1 0 0 ∧ get st.fr 9 = v9 ∧ get st.fr 16 = .ptr H'.length 1 0 0 ∧ get st.fr 17 = w2 ∧ get st.fr 19 = .int .i64 j) ps.length
      ⟨0, by omega, rfl, h5, h6, h9, rfl, rfl, rfl⟩ ?_
    clear h0 h1 h5 h6 h8 h9 h10 k1 hJ J
    rintro J hJ k' fr H2 ⟨j, k1, hH, h5, h6, h9, h16, h17, h19⟩
    obtain rfl : H2 = G := hH
    simp -implicitDefEqProofs (disch := omega) only [h9, h19, lenK_own owG, hS, mwx, ne_eq, false_implies, implies_true, forall_eq_or_imp, MW.get, ev, evs, argFr, resK, packV, slHK, partsV, partsS, setR, Int.cast_ofNat_Int, Int.natCast_zero, Int.natCast_one, Nat.reduceLeDiff, reduceIte, Nat.reduceEqDiff, Nat.reduceBEq, reduceCtorEq, Nat.reduceAdd, Nat.reduceMul, Nat.reduceSub, Nat.reduceLT, Int.reduceToNat, Int.reduceLT, Int.reduceLE, Int.reduceEq, Int.reduceAdd, Int.reduceNeg, Int.reduceMul, Int.reduceSub]
    refine xc_dec (fun h11 => ?_) fun h11 => ?_
    · have hj : j < ps.length := by omega
      have hj0 : (0 : Int) ≤ (j : Int) := by omega
      have hj1 : (j : Int).toNat < ds.length := by omega
      have hj2 : (j : Int).toNat < (strE.vs (ps.map (·.2))).length := by omega
      have hw : IntKind.i64.wrap ((j : Int) + 1) = ((j + 1 : Nat) : Int) := wrap64 (n := ((j + 1 : Nat) : Int)) (by omega) (by omega)
      have hm := zip_mem hms hj
      have hxs : (ds.getD j chE.d).xs = ms.getD j [] := by
        rw [← hds, List.getD_eq_getElem?_getD, List.getD_eq_getElem?_getD, List.getElem?_map, List.getElem?_eq_getElem (by omega)]; rfl
      have gf := get_fn i2 inv'.w.ok (by omega) (b := S'.2) (by omega) (ds.getD j chE.d).h (by rw [hxs]; have := inv'.len_lt hm; exact this) ps[j].2.length
      rw [hxs, inv'.get hm] at gf
      have hsat : ((strE.vs (ps.map (·.2))).getD j .junk).cells.getD 0 .junk = .str ps[j].2 := by rw [str_at (by simpa using hj), AS.dat hj]
      have hself : (ps[j].2 != ps[j].2) = false := by simp
      simp -implicitDefEqProofs (disch := omega) only [h16, hg, h17, h9, h19, iaK_ch k2' hj0 hj1, (ch_cells (ds.getD j chE.d)).1, own_ia owG hj0 hj2, own_ld1 owG (n := j) (by omega), hsat, mwx, ne_eq, false_implies, implies_true, forall_eq_or_imp, MW.get, ev, evs, argFr, resK, packV, slHK, partsV, partsS, setR, Int.cast_ofNat_Int, Int.natCast_zero, Int.natCast_one, Nat.reduceLeDiff, reduceIte, Nat.reduceEqDiff, Nat.reduceBEq, reduceCtorEq, Nat.reduceAdd, Nat.reduceMul, Nat.reduceSub, Nat.reduceLT, Int.reduceToNat, Int.reduceLT, Int.reduceLE, Int.reduceEq, Int.reduceAdd, Int.reduceNeg, Int.reduceMul, Int.reduceSub]
      refine Does.call gf (fr3 (store_free i2 _) (ds.getD j chE.d).h.free (.int _ _)) ?_
      simp -implicitDefEqProofs (disch := omega) only [h9, h19, own_ia owG hj0 hj2, own_ld1 owG (n := j) (by omega), hsat, hself, hw, mwx, ne_eq, false_implies, implies_true, forall_eq_or_imp, MW.get, ev, evs, argFr, resK, packV, slHK, partsV, partsS, setR, Int.cast_ofNat_Int, Int.natCast_zero, Int.natCast_one, Nat.reduceLeDiff, reduceIte, Nat.reduceEqDiff, Nat.reduceBEq, reduceCtorEq, Nat.reduceAdd, Nat.reduceMul, Nat.reduceSub, Nat.reduceLT, Int.reduceToNat, Int.reduceLT, Int.reduceLE, Int.reduceEq, Int.reduceAdd, Int.reduceNeg, Int.reduceMul, Int.reduceSub]
      exact ⟨k' - 1, by omega, hJ _ _ ⟨j + 1, by omega, rfl, h5, h6, h9, h16, h17, rfl⟩⟩
    simp -implicitDefEqProofs (disch := omega) only [mwx, ne_eq, false_implies, implies_true, forall_eq_or_imp, MW.get, ev, evs, argFr, resK, packV, slHK, partsV, partsS, setR, Int.cast_ofNat_Int, Int.natCast_zero, Int.natCast_one, Nat.reduceLeDiff, reduceIte, Nat.reduceEqDiff, Nat.reduceBEq, reduceCtorEq, Nat.reduceAdd, Nat.reduceMul, Nat.reduceSub, Nat.reduceLT, Int.reduceToNat, Int.reduceLT, Int.reduceLE, Int.reduceEq, Int.reduceAdd, Int.reduceNeg, Int.reduceMul, Int.reduceSub]
    refine xl_loop (fun k' st => ∃ c : Nat, k' + c = 4 ∧ st.H = H2 ∧ get st.fr 5 = .bool true ∧ get st.fr 6 = .ptr 0 1 0 0 ∧ get st.fr 16 = .ptr H'.length 1 0 0 ∧ get st.fr 22 = .int .i64 c) 4
      ⟨0, by omega, rfl, h5, h6, h16, rfl⟩ ?_
    clear h5 h6 h9 h16 h17 h19 k1 hJ J
    rintro J hJ k' fr H3 ⟨c, k1, hH, h5, h6, h16, h22⟩
    obtain rfl : H3 = H2 := hH
    simp -implicitDefEqProofs (disch := omega) only [h22, mwx, ne_eq, false_implies, implies_true, forall_eq_or_imp, MW.get, ev, evs, argFr, resK, packV, slHK, partsV, partsS, setR, Int.cast_ofNat_Int, Int.natCast_zero, Int.natCast_one, Nat.reduceLeDiff, reduceIte, Nat.reduceEqDiff, Nat.reduceBEq, reduceCtorEq, Nat.reduceAdd, Nat.reduceMul, Nat.reduceSub, Nat.reduceLT, Int.reduceToNat, Int.reduceLT, Int.reduceLE, Int.reduceEq, Int.reduceAdd, Int.reduceNeg, Int.reduceMul, Int.reduceSub]
    refine xc_dec (fun h11 => ?_) fun h11 => ?_
    · have hcc : c < 4 := by omega
      have hw : IntKind.i64.wrap ((c : Int) + 1) = ((c + 1 : Nat) : Int) := wrap64 (n := ((c + 1 : Nat) : Int)) (by omega) (by omega)
      have hsl : slts c = (slN c : Int) := slts_slN c
      have hsp := slN_pos' c hcc
      have hs64 := slN_le c
      have hw1 : IntKind.i64.wrap ((slN c : Int) - 1) = (slN c : Int) - 1 := wrap64 (by omega) (by omega)
      simp -implicitDefEqProofs (disch := omega) only [mwx, ne_eq, false_implies, implies_true, forall_eq_or_imp, MW.get, ev, evs, argFr, resK, packV, slHK, partsV, partsS, setR, Int.cast_ofNat_Int, Int.natCast_zero, Int.natCast_one, Nat.reduceLeDiff, reduceIte, Nat.reduceEqDiff, Nat.reduceBEq, reduceCtorEq, Nat.reduceAdd, Nat.reduceMul, Nat.reduceSub, Nat.reduceLT, Int.reduceToNat, Int.reduceLT, Int.reduceLE, Int.reduceEq, Int.reduceAdd, Int.reduceNeg, Int.reduceMul, Int.reduceSub]
      refine xl_loop (fun k2 st => ∃ (i : Nat) (n : Int), k2 + i = S'.1.length ∧ ((n = 0) ∨ (n = 1 ∧ ∃ i0, i0 < i ∧ fits c (sat S'.1 i0))) ∧ st.H = H3 ∧ get st.fr 5 = .bool true ∧ get st.fr 6 = .ptr 0 1 0 0 ∧ get st.fr 16 = .ptr H'.length 1 0 0 ∧ get st.fr 22 = .int .i64 c ∧ get st.fr 23 = .int .i64 n ∧ get st.fr 24 = .int .i64 i) S'.1.length
        ⟨0, 0, by omega, .inl rfl, rfl, h5, h6, h16, h22, rfl, rfl⟩ ?_
      clear h5 h6 h16 h22
      rintro J2 hJ2 k2 fr H4 ⟨i, n, k3, hn, hH, h5, h6, h16, h22, h23, h24⟩
      obtain rfl : H4 = H3 := hH
      simp -implicitDefEqProofs (disch := omega) only [h16, hg, h24, lenK_isE i2, mwx, ne_eq, false_implies, implies_true, forall_eq_or_imp, MW.get, ev, evs, argFr, resK, packV, slHK, partsV, partsS, setR, Int.cast_ofNat_Int, Int.natCast_zero, Int.natCast_one, Nat.reduceLeDiff, reduceIte, Nat.reduceEqDiff, Nat.reduceBEq, reduceCtorEq, Nat.reduceAdd, Nat.reduceMul, Nat.reduceSub, Nat.reduceLT, Int.reduceToNat, Int.reduceLT, Int.reduceLE, Int.reduceEq, Int.reduceAdd, Int.reduceNeg, Int.reduceMul, Int.reduceSub]
      refine xc_dec (fun h12 => ?_) fun h12 => ?_
      · have hi : i < S'.1.length := by omega
        have hi0 : (0 : Int) ≤ (i : Int) := by omega
        have hi1 : (i : Int).toNat < S'.1.length := by omega
        have hwi : IntKind.i64.wrap ((i : Int) + 1) = ((i + 1 : Nat) : Int) := wrap64 (n := ((i + 1 : Nat) : Int)) (by omega) (by omega)
        simp -implicitDefEqProofs (disch := omega) only [h16, hg, h24, h22, iaK_sg i2 hi0 hi1, mwx, ne_eq, false_implies, implies_true, forall_eq_or_imp, MW.get, ev, evs, argFr, resK, packV, slHK, partsV, partsS, setR, Int.cast_ofNat_Int, Int.natCast_zero, Int.natCast_one, Nat.reduceLeDiff, reduceIte, Nat.reduceEqDiff, Nat.reduceBEq, reduceCtorEq, Nat.reduceAdd, Nat.reduceMul, Nat.reduceSub, Nat.reduceLT, Int.reduceToNat, Int.reduceLT, Int.reduceLE, Int.reduceEq, Int.reduceAdd, Int.reduceNeg, Int.reduceMul, Int.reduceSub]
        refine xg_dec (fun h13 => ?_) fun h13 => ?_
        rotate_left
        · simp -implicitDefEqProofs (disch := omega) only [h13, h24, hwi, mwx, ne_eq, false_implies, implies_true, forall_eq_or_imp, MW.get, ev, evs, argFr, resK, packV, slHK, partsV, partsS, setR, Int.cast_ofNat_Int, Int.natCast_zero, Int.natCast_one, Nat.reduceLeDiff, reduceIte, Nat.reduceEqDiff, Nat.reduceBEq, reduceCtorEq, Nat.reduceAdd, Nat.reduceMul, Nat.reduceSub, Nat.reduceLT, Int.reduceToNat, Int.reduceLT, Int.reduceLE, Int.reduceEq, Int.reduceAdd, Int.reduceNeg, Int.reduceMul, Int.reduceSub]
          exact ⟨k2 - 1, by omega, hJ2 _ _ ⟨i + 1, n, by omega, by rcases hn with hn | ⟨hn, i0, a1, a2⟩; exact .inl hn; exact .inr ⟨hn, i0, by omega, a2⟩, rfl, h5, h6, h16, h22, h23, rfl⟩⟩
        simp -implicitDefEqProofs (disch := omega) only [h13, h16, hg, h24, h22, mwx, ne_eq, false_implies, implies_true, forall_eq_or_imp, MW.get, ev, evs, argFr, resK, packV, slHK, partsV, partsS, setR, Int.cast_ofNat_Int, Int.natCast_zero, Int.natCast_one, Nat.reduceLeDiff, reduceIte, Nat.reduceEqDiff, Nat.reduceBEq, reduceCtorEq, Nat.reduceAdd, Nat.reduceMul, Nat.reduceSub, Nat.reduceLT, Int.reduceToNat, Int.reduceLT, Int.reduceLE, Int.reduceEq, Int.reduceAdd, Int.reduceNeg, Int.reduceMul, Int.reduceSub]
        refine Does.call (slots_fn c) (fr1 (.int _ _)) ?_
        simp -implicitDefEqProofs (disch := omega) only [hsl, hw1, mwx, ne_eq, false_implies, implies_true, forall_eq_or_imp, MW.get, ev, evs, argFr, resK, packV, slHK, partsV, partsS, setR, Int.cast_ofNat_Int, Int.natCast_zero, Int.natCast_one, Nat.reduceLeDiff, reduceIte, Nat.reduceEqDiff, Nat.reduceBEq, reduceCtorEq, Nat.reduceAdd, Nat.reduceMul, Nat.reduceSub, Nat.reduceLT, Int.reduceToNat, Int.reduceLT, Int.reduceLE, Int.reduceEq, Int.reduceAdd, Int.reduceNeg, Int.reduceMul, Int.reduceSub]
        refine Does.call (has_fn i2 inv'.w.ok _ _) (fr2 i2.free (slot_free _ _)) ?_
        simp -implicitDefEqProofs (disch := omega) only [mwx, ne_eq, false_implies, implies_true, forall_eq_or_imp, MW.get, ev, evs, argFr, resK, packV, slHK, partsV, partsS, setR, Int.cast_ofNat_Int, Int.natCast_zero, Int.natCast_one, Nat.reduceLeDiff, reduceIte, Nat.reduceEqDiff, Nat.reduceBEq, reduceCtorEq, Nat.reduceAdd, Nat.reduceMul, Nat.reduceSub, Nat.reduceLT, Int.reduceToNat, Int.reduceLT, Int.reduceLE, Int.reduceEq, Int.reduceAdd, Int.reduceNeg, Int.reduceMul, Int.reduceSub]
        refine xc_any (fun h14 => ?_) fun h14 => ?_
        · simp -implicitDefEqProofs (disch := omega) only [h24, hwi, mwx, ne_eq, false_implies, implies_true, forall_eq_or_imp, MW.get, ev, evs, argFr, resK, packV, slHK, partsV, partsS, setR, Int.cast_ofNat_Int, Int.natCast_zero, Int.natCast_one, Nat.reduceLeDiff, reduceIte, Nat.reduceEqDiff, Nat.reduceBEq, reduceCtorEq, Nat.reduceAdd, Nat.reduceMul, Nat.reduceSub, Nat.reduceLT, Int.reduceToNat, Int.reduceLT, Int.reduceLE, Int.reduceEq, Int.reduceAdd, Int.reduceNeg, Int.reduceMul, Int.reduceSub]
          exact ⟨k2 - 1, by omega, hJ2 _ _ ⟨i + 1, n, by omega, by rcases hn with hn | ⟨hn, i0, a1, a2⟩; exact .inl hn; exact .inr ⟨hn, i0, by omega, a2⟩, rfl, h5, h6, h16, h22, h23, rfl⟩⟩
        · have hfi := open_fits inv'.w.c hcc hi h13 h14
          have hn0 : n = 0 := by
            rcases hn with hn | ⟨hn, i0, a1, a2⟩
            · exact hn
            · have := pk.one c hsp i0 i (by omega) hi a2 hfi
              omega
          subst hn0
          have hw0 : IntKind.i64.wrap ((0 : Int) + 1) = 1 := by decide
          simp -implicitDefEqProofs (disch := omega) only [h23, hw0, h24, hwi, mwx, ne_eq, false_implies, implies_true, forall_eq_or_imp, MW.get, ev, evs, argFr, resK, packV, slHK, partsV, partsS, setR, Int.cast_ofNat_Int, Int.natCast_zero, Int.natCast_one, Nat.reduceLeDiff, reduceIte, Nat.reduceEqDiff, Nat.reduceBEq, reduceCtorEq, Nat.reduceAdd, Nat.reduceMul, Nat.reduceSub, Nat.reduceLT, Int.reduceToNat, Int.reduceLT, Int.reduceLE, Int.reduceEq, Int.reduceAdd, Int.reduceNeg, Int.reduceMul, Int.reduceSub]
          exact ⟨k2 - 1, by omega, hJ2 _ _ ⟨i + 1, 1, by omega, .inr ⟨rfl, i, by omega, hfi⟩, rfl, h5, h6, h16, h22, rfl, rfl⟩⟩
      · have hn1 : ¬ 1 < n := by rcases hn with hn | ⟨hn, _⟩ <;> omega
        simp -implicitDefEqProofs (disch := omega) only [h23, hn1, h22, hw, mwx, ne_eq, false_implies, implies_true, forall_eq_or_imp, MW.get, ev, evs, argFr, resK, packV, slHK, partsV, partsS, setR, Int.cast_ofNat_Int, Int.natCast_zero, Int.natCast_one, Nat.reduceLeDiff, reduceIte, Nat.reduceEqDiff, Nat.reduceBEq, reduceCtorEq, Nat.reduceAdd, Nat.reduceMul, Nat.reduceSub, Nat.reduceLT, Int.reduceToNat, Int.reduceLT, Int.reduceLE, Int.reduceEq, Int.reduceAdd, Int.reduceNeg, Int.reduceMul, Int.reduceSub]
        exact ⟨k' - 1, by omega, hJ _ _ ⟨c + 1, by omega, rfl, h5, h6, h16, rfl⟩⟩
    · have ck := chkS_fn i2 inv'.w.ok (by omega) (b := S'.2) (by omega)
      rw [inv'.w.chk] at ck
      have hle : decide (cnt sgHeld S'.1 ≤ cnt sgHeld S.1) = true := by simpa using hch
      simp -implicitDefEqProofs (disch := omega) only [h5, h16, hg, mwx, ne_eq, false_implies, implies_true, forall_eq_or_imp, MW.get, ev, evs, argFr, resK, packV, slHK, partsV, partsS, setR, Int.cast_ofNat_Int, Int.natCast_zero, Int.natCast_one, Nat.reduceLeDiff, reduceIte, Nat.reduceEqDiff, Nat.reduceBEq, reduceCtorEq, Nat.reduceAdd, Nat.reduceMul, Nat.reduceSub, Nat.reduceLT, Int.reduceToNat, Int.reduceLT, Int.reduceLE, Int.reduceEq, Int.reduceAdd, Int.reduceNeg, Int.reduceMul, Int.reduceSub]
      refine Does.call ck (fr1 (store_free i2 _)) ?_
      simp -implicitDefEqProofs (disch := omega) only [h16, hg, mwx, ne_eq, false_implies, implies_true, forall_eq_or_imp, MW.get, ev, evs, argFr, resK, packV, slHK, partsV, partsS, setR, Int.cast_ofNat_Int, Int.natCast_zero, Int.natCast_one, Nat.reduceLeDiff, reduceIte, Nat.reduceEqDiff, Nat.reduceBEq, reduceCtorEq, Nat.reduceAdd, Nat.reduceMul, Nat.reduceSub, Nat.reduceLT, Int.reduceToNat, Int.reduceLT, Int.reduceLE, Int.reduceEq, Int.reduceAdd, Int.reduceNeg, Int.reduceMul, Int.reduceSub]
      refine Does.call (taken_fn i2 inv'.w.ok) (fr1 i2.free) ?_
      simp -implicitDefEqProofs (disch := omega) only [h6, hg0, mwx, ne_eq, false_implies, implies_true, forall_eq_or_imp, MW.get, ev, evs, argFr, resK, packV, slHK, partsV, partsS, setR, Int.cast_ofNat_Int, Int.natCast_zero, Int.natCast_one, Nat.reduceLeDiff, reduceIte, Nat.reduceEqDiff, Nat.reduceBEq, reduceCtorEq, Nat.reduceAdd, Nat.reduceMul, Nat.reduceSub, Nat.reduceLT, Int.reduceToNat, Int.reduceLT, Int.reduceLE, Int.reduceEq, Int.reduceAdd, Int.reduceNeg, Int.reduceMul, Int.reduceSub]
      refine Does.call (taken_fn A.iv A.inv.w.ok) (fr1 A.iv.free) ?_
      simp -implicitDefEqProofs (disch := omega) only [hct, h16, hg, mwx, ne_eq, false_implies, implies_true, forall_eq_or_imp, MW.get, ev, evs, argFr, resK, packV, slHK, partsV, partsS, setR, Int.cast_ofNat_Int, Int.natCast_zero, Int.natCast_one, Nat.reduceLeDiff, reduceIte, Nat.reduceEqDiff, Nat.reduceBEq, reduceCtorEq, Nat.reduceAdd, Nat.reduceMul, Nat.reduceSub, Nat.reduceLT, Int.reduceToNat, Int.reduceLT, Int.reduceLE, Int.reduceEq, Int.reduceAdd, Int.reduceNeg, Int.reduceMul, Int.reduceSub]
      refine Does.call (held_fn i2 inv'.w.ok) (fr1 i2.free) ?_
      simp -implicitDefEqProofs (disch := omega) only [h6, hg0, mwx, ne_eq, false_implies, implies_true, forall_eq_or_imp, MW.get, ev, evs, argFr, resK, packV, slHK, partsV, partsS, setR, Int.cast_ofNat_Int, Int.natCast_zero, Int.natCast_one, Nat.reduceLeDiff, reduceIte, Nat.reduceEqDiff, Nat.reduceBEq, reduceCtorEq, Nat.reduceAdd, Nat.reduceMul, Nat.reduceSub, Nat.reduceLT, Int.reduceToNat, Int.reduceLT, Int.reduceLE, Int.reduceEq, Int.reduceAdd, Int.reduceNeg, Int.reduceMul, Int.reduceSub]
      refine Does.call (held_fn A.iv A.inv.w.ok) (fr1 A.iv.free) ?_
      simp -implicitDefEqProofs (disch := omega) only [hle, mwx, ne_eq, false_implies, implies_true, forall_eq_or_imp, MW.get, ev, evs, argFr, resK, packV, slHK, partsV, partsS, setR, Int.cast_ofNat_Int, Int.natCast_zero, Int.natCast_one, Nat.reduceLeDiff, reduceIte, Nat.reduceEqDiff, Nat.reduceBEq, reduceCtorEq, Nat.reduceAdd, Nat.reduceMul, Nat.reduceSub, Nat.reduceLT, Int.reduceToNat, Int.reduceLT, Int.reduceLE, Int.reduceEq, Int.reduceAdd, Int.reduceNeg, Int.reduceMul, Int.reduceSub]
      exact frz_bool rfl

end Go.Proofs.YtlcbogafgdofgaaDoor

/- Store: three objects find room; in what order two are dropped (the plain law). -/
namespace Go.Proofs.YtlcbogafgdofgaaDoor
open Go Go.MW
set_option linter.unusedSimpArgs false
set_option linter.unusedVariables false
set_option maxRecDepth 8000

/-- Few slots find room in eight segments. -/
theorem tak_few {S : SB} (hw : W S) (h : PK S.1) (hl : S.1.length = 8) (hb : ∀ c, slN c ≠ 0 → NU S.1 c ≤ 14) {c : Int} (h0 : slN c ≠ 0) : (tak S.1 c).2.2 = 0 := by
  refine Classical.byContradiction fun hne => ?_
  obtain ⟨g1, g2⟩ := tak_no hw.c h0 hne
  have s1 := (NS_all hw.c).2.1 g2
  have e0 : slN 0 = 64 := by decide
  have e1 : slN 1 = 32 := by decide
  have e2 : slN 2 = 16 := by decide
  have e3 : slN 3 = 8 := by decide
  have a0 := h.full 0 (by decide)
  have a1 := h.full 1 (by decide)
  have a2 := h.full 2 (by decide)
  have a3 := h.full 3 (by decide)
  have b0 := hb 0 (by decide)
  have b1 := hb 1 (by decide)
  have b2 := hb 2 (by decide)
  have b3 := hb 3 (by decide)
  rw [e0] at a0
  rw [e1] at a1
  rw [e2] at a2
  rw [e3] at a3
  omega

theorem putL_few : ∀ (cs : List Int) {d : List UInt8} {S : SB}, W S → PK S.1 → S.1.length = 8 → d.length ≤ bsum cs → (∀ c ∈ cs, slN c ≠ 0) → (∀ c, slN c ≠ 0 → NU S.1 c + cs.length ≤ 15) →
    (putL cs d S.1 S.2).2 = 0 ∧ PK (putL cs d S.1 S.2).1.1.1 ∧ ∀ c, slN c ≠ 0 → NU (putL cs d S.1 S.2).1.1.1 c ≤ NU S.1 c + cs.length
  | [], d, S, hw, hk, hl, hd, hv, hb => ⟨rfl, hk, fun c _ => by simp [putL]⟩
  | c :: cs, d, S, hw, hk, hl, hd, hv, hb => by
    have hc := hv c (by simp)
    have h : (tak S.1 c).2.2 = 0 := tak_few hw hk hl (fun c' h => by have := hb c' h; rw [List.length_cons] at this; omega) hc
    have hm : (d.take (min (bN c) d.length)).length ≤ bN c := by rw [List.length_take]; omega
    have t := tak_law hw h hm
    obtain ⟨pk, nu⟩ := hk.take hw h
    have hbs : bsum (c :: cs) = bN c + bsum cs := by simp [bsum]
    have hnu : ∀ c', slN c' ≠ 0 → NU (tak S.1 c).1 c' ≤ NU S.1 c' + 1 := fun c' h' => by
      have := nu c' (slN_ne h').1
      split at this <;> omega
    obtain ⟨a1, a2, a3⟩ := putL_few cs (d := d.drop (min (bN c) d.length)) (S := takS S c (d.take (min (bN c) d.length))) t.w pk (by rw [t.len, hl]) (by rw [List.length_drop]; omega) (fun c' h' => hv c' (by simp [h'])) (fun c' h' => by
      have h1 := hb c' h'
      have h2 := hnu c' h'
      rw [List.length_cons] at h1
      show NU (tak S.1 c).1 c' + _ ≤ _
      omega)
    unfold putL
    rw [if_pos h]
    refine ⟨a1, a2, fun c' h' => ?_⟩
    have h1 := a3 c' h'
    have h2 := hnu c' h'
    have h3 : NU (takS S c (d.take (min (bN c) d.length))).1 c' = NU (tak S.1 c).1 c' := rfl
    rw [List.length_cons]
    show NU (putL cs (d.drop (min (bN c) d.length)) (takS S c (d.take (min (bN c) d.length))).1 (takS S c (d.take (min (bN c) d.length))).2).1.1.1 c' ≤ _
    omega

theorem cut_few {n : Int} (h : 1 ≤ n ∧ n ≤ 300) : (cut n).length ≤ 5 ∧ ∀ c ∈ cut n, slN c ≠ 0 := by
  have h1 := (cut_room (n := n) (by omega)).2
  refine ⟨by split at h1 <;> omega, fun c hc => ?_⟩
  unfold cut at hc
  rcases List.mem_append.1 hc with hc | hc
  · rw [List.eq_of_mem_replicate hc]; decide
  · split at hc
    · rw [List.mem_singleton.1 hc]
      have : 1 ≤ n % 64 ∧ n % 64 < 64 := by omega
      unfold fit
      repeat' split
      all_goals first | decide | omega
    · cases hc

/-- A small object finds room. -/
theorem putS_few {S : SB} (hw : W S) (hk : PK S.1) (hl : S.1.length = 8) {d : List UInt8} (hd : 1 ≤ d.length ∧ d.length ≤ 300) (hb : ∀ c, slN c ≠ 0 → NU S.1 c ≤ 10) : (putS S.1 S.2 d).2 = 0 ∧ PK (putS S.1 S.2 d).1.1.1 ∧ ∀ c, slN c ≠ 0 → NU (putS S.1 S.2 d).1.1.1 c ≤ NU S.1 c + 5 := by
  obtain ⟨c1, c2⟩ := cut_few (n := (d.length : Int)) (by omega)
  have c3 := cut_bsum (n := (d.length : Int)) (by omega)
  obtain ⟨a1, a2, a3⟩ := putL_few (cut d.length) (d := d) hw hk hl (by omega) c2 (fun c h => by have := hb c h; omega)
  have e : putS S.1 S.2 d = putL (cut d.length) d S.1 S.2 := by
    unfold putS
    rw [if_neg (by rw [hw.chk]; decide), if_neg (by omega), if_pos a1]
  rw [e]
  exact ⟨a1, a2, fun c h => by have := a3 c h; omega⟩
theorem putS_none {S : SB} {d : List UInt8} (hd : d = []) : ¬ (putS S.1 S.2 d).2 = 0 := by
  subst hd
  unfold putS
  split
  · show ¬ (120 : Int) = 0
    decide
  · rw [if_pos (by simp)]
    show ¬ (100 : Int) = 0
    decide

theorem PK_new (n : Nat) : PK (List.replicate n (-1, 0)) ∧ ∀ c, slN c ≠ 0 → NU (List.replicate n (-1, 0)) c = 0 := by
  have hs : ∀ i, i < n → sat (List.replicate n ((-1 : Int), 0)) i = (-1, 0) := fun i hi => by rw [sat_eq (by simpa using hi)]; simp
  have hz : ∀ (f : Sg → Int), f (-1, 0) = 0 → isum ((List.replicate n ((-1 : Int), 0)).map f) = 0 := by
    intro f hf
    induction n with
    | zero => rfl
    | succ m ih =>
      rw [List.replicate_succ, List.map_cons, isum_cons, hf, Int.zero_add]
      refine ih fun i hi => ?_
      rw [sat_eq (by simpa using hi)]; simp
  have h1 : ∀ c, slN c ≠ 0 → NU (List.replicate n (-1, 0)) c = 0 := fun c hc => hz _ (by unfold nU; rw [if_neg (Ne.symm (slN_ne hc).1)])
  have h2 : ∀ c, slN c ≠ 0 → NS (List.replicate n (-1, 0)) c = 0 := fun c hc => hz _ (by unfold nS; rw [if_neg (Ne.symm (slN_ne hc).1)])
  refine ⟨⟨fun i hi => ⟨0, by rw [hs i (by simpa using hi)]⟩, fun c hc i j hi hj f1 f2 => ?_, fun c hc => ?_⟩, h1⟩
  · have := f1.1
    rw [hs i (by simpa using hi)] at this
    exact absurd this.symm (slN_ne hc).1
  · rw [h1 c hc, h2 c hc]
    omega

/-- Three objects: the first and the last dropped, in either order, or both at once. -/
theorem order_law {S : SB} {k l m : List (Int × Int)} {a b c : List UInt8} (h : SInv S [(k, a), (l, b), (m, c)]) :
    ∃ X Y Z : SB, dropS S.1 S.2 k = (X, 0) ∧ dropS S.1 S.2 m = (Y, 0) ∧ dropS X.1 X.2 m = (Z, 0) ∧ dropS Y.1 Y.2 k = (Z, 0) ∧ dropS S.1 S.2 (m ++ k) = (Z, 0) ∧ W X ∧ W Y ∧ W Z ∧ X.1.length = S.1.length ∧ Y.1.length = S.1.length ∧ Z.1.length = S.1.length ∧ getS Z.1 Z.2 l b.length = (b, 0) ∧ k.length ≤ 65 ∧ l.length ≤ 65 ∧ m.length ≤ 65 := by
  obtain ⟨x1, x2, x3⟩ := h.drop (k := 0) (by simp)
  obtain ⟨y1, y2, y3⟩ := h.drop (k := 2) (by simp)
  simp only [List.getElem_cons_zero, List.getElem_cons_succ, List.eraseIdx_cons_zero, List.eraseIdx_cons_succ] at x1 x2 x3 y1 y2 y3
  obtain ⟨z1, z2, z3⟩ := x2.drop (k := 1) (by simp)
  obtain ⟨u1, u2, u3⟩ := y2.drop (k := 0) (by simp)
  simp only [List.getElem_cons_zero, List.getElem_cons_succ, List.eraseIdx_cons_zero, List.eraseIdx_cons_succ] at z1 z2 z3 u1 u2 u3
  have hall : ∀ x ∈ k ++ l ++ m, hasX S.1 x = true := fun x hx => h.has x (by simpa [or_assoc] using hx)
  have hnd : (k ++ l ++ m).Nodup := by have := h.nd; simpa [List.flatMap_cons, List.append_assoc] using this
  have hk : ∀ x ∈ k, hasX S.1 x = true := fun x hx => hall x (by simp [hx])
  have hm : ∀ x ∈ m, hasX S.1 x = true := fun x hx => hall x (by simp [hx])
  rw [List.nodup_append, List.nodup_append] at hnd
  obtain ⟨⟨nk, nl, nkl⟩, nm, nklm⟩ := hnd
  have nkm : ∀ x ∈ k, x ∉ m := fun x hx hy => nklm x (by simp [hx]) x hy rfl
  have ek := dropS_ok h.w hk nk
  have em := dropS_ok h.w hm nm
  have dk := drops_law k h.w hk nk
  have dm := drops_law m h.w hm nm
  have hkm : (m ++ k).Nodup := by
    rw [List.nodup_append]
    exact ⟨nm, nk, fun x hx y hy e => nkm y hy (e ▸ hx)⟩
  have hkm' : ∀ x ∈ m ++ k, hasX S.1 x = true := fun x hx => by
    rcases List.mem_append.1 hx with hx | hx
    · exact hm x hx
    · exact hk x hx
  have eb := dropS_ok h.w hkm' hkm
  have ex := dropS_ok dk.w (xs := m) (fun x hx => by rw [dk.oth x fun hy => nkm x hy hx]; exact hm x hx) nm
  have ey := dropS_ok dm.w (xs := k) (fun x hx => by rw [dm.oth x (nkm x hx)]; exact hk x hx) nk
  have hp : (m ++ k).foldl freS S = (k ++ m).foldl freS S := drops_perm List.perm_append_comm h.w hkm' hkm
  rw [List.foldl_append] at hp eb
  rw [List.foldl_append] at hp
  rw [ek] at x2 x3 z1 z2 z3
  simp only at x2 x3 z1 z2 z3
  rw [em] at y2 y3
  simp only at y2 y3
  rw [ex] at z2 z3
  simp only at z2 z3
  have g := z2.get (p := (l, b)) (by simp)
  refine ⟨_, _, _, ek, em, ex, by rw [ey, hp], by rw [eb, hp], x2.w, y2.w, z2.w, x3, y3, by rw [z3, x3], g, h.len65 (p := (k, a)) (by simp), h.len65 (p := (l, b)) (by simp), h.len65 (p := (m, c)) (by simp)⟩

end Go.Proofs.YtlcbogafgdofgaaDoor

