import Derived.Test.YtbkcfhchmjdgpaaDoorMwB8
/- Store: many objects, put one behind the other, and some dropped (the plain law). -/
namespace Go.Proofs.YtbkcfhchmjdgpaaDoor
open Go Go.MW
set_option linter.unusedSimpArgs false
set_option linter.unusedVariables false
set_option maxRecDepth 8000

/-- An object: where it is, and what it is. -/
abbrev Ob := List (Int × Int) × List UInt8
def obN (p : Ob) : Int := rsum (cut p.2.length)
structure Good1 (S : SB) (p : Ob) : Prop where
  n : 1 ≤ p.2.length ∧ p.2.length ≤ 4096
  cl : p.1.map (clX S.1) = cut p.2.length
  rd : ∃ z, p.1.flatMap (rdS S.1 S.2) = p.2 ++ List.replicate z 0
structure SInv (S : SB) (ps : List Ob) : Prop where
  w : W S
  nd : (ps.flatMap (·.1)).Nodup
  has : ∀ x ∈ ps.flatMap (·.1), hasX S.1 x = true
  g : ∀ p ∈ ps, Good1 S p
  sum : cnt sgTaken S.1 = isum (ps.map obN)

theorem Good1.keep {S S' : SB} {p : Ob} (h : Good1 S p) (hs : ∀ x ∈ p.1, rdS S'.1 S'.2 x = rdS S.1 S.2 x ∧ clX S'.1 x = clX S.1 x) : Good1 S' p :=
  ⟨h.n, by rw [← h.cl]; exact List.map_congr_left fun x hx => (hs x hx).2, by rw [flat_same fun x hx => (hs x hx).1]; exact h.rd⟩

theorem SInv.put {S S' : SB} {ps : List Ob} (h : SInv S ps) {d : List UInt8} {xs : List (Int × Int)} (hd : 1 ≤ d.length ∧ d.length ≤ 4096) (p : PutL S (cut d.length) d xs S') : SInv S' (ps ++ [(xs, d)]) := by
  have hfl : (ps ++ [(xs, d)]).flatMap (·.1) = ps.flatMap (·.1) ++ xs := by simp
  refine ⟨p.w, ?_, ?_, ?_, ?_⟩
  · rw [hfl, List.nodup_append]
    refine ⟨h.nd, p.nd, fun a ha b hb e => ?_⟩
    subst e
    have := p.no a hb
    rw [h.has a ha] at this
    cases this
  · rw [hfl]
    intro x hx
    rcases List.mem_append.1 hx with hx | hx
    · rw [p.oth x fun hy => by have := p.no x hy; rw [h.has x hx] at this; cases this]
      exact h.has x hx
    · exact p.has x hx
  · intro o ho
    rcases List.mem_append.1 ho with ho | ho
    · exact (h.g o ho).keep fun x hx => p.rdo x (h.has x (List.mem_flatMap.2 ⟨o, ho, hx⟩))
    · obtain rfl := List.mem_singleton.1 ho
      exact ⟨hd, p.cl, _, p.rd⟩
  · rw [p.cnt, h.sum, List.map_append, isum_append]
    simp [isum, obN]

theorem isum_erase : ∀ (l : List Int) (k : Nat) (h : k < l.length), isum (l.eraseIdx k) = isum l - l[k]
  | [], k, h => by simp at h
  | a :: l, 0, _ => by simp [isum_cons]; omega
  | a :: l, k + 1, h => by
    have := isum_erase l k (by simpa using h)
    simp only [List.eraseIdx_cons_succ, isum_cons, List.getElem_cons_succ]
    omega
theorem erase_map {α β : Type} (f : α → β) : ∀ (l : List α) (k : Nat), (l.eraseIdx k).map f = (l.map f).eraseIdx k
  | [], k => by simp
  | a :: l, 0 => rfl
  | a :: l, k + 1 => by simp [erase_map f l k]
theorem flat_erase {α β : Type} (f : α → List β) : ∀ (l : List α) (k : Nat) (h : k < l.length), (l.flatMap f).Perm (f l[k] ++ (l.eraseIdx k).flatMap f)
  | [], k, h => by simp at h
  | a :: l, 0, _ => by simp
  | a :: l, k + 1, h => by
    have := flat_erase f l k (by simpa using h)
    simp only [List.flatMap_cons, List.eraseIdx_cons_succ, List.getElem_cons_succ]
    refine (List.Perm.append_left _ this).trans ?_
    rw [← List.append_assoc, ← List.append_assoc]
    exact List.Perm.append_right _ List.perm_append_comm

theorem SInv.drop {S : SB} {ps : List Ob} (h : SInv S ps) {k : Nat} (hk : k < ps.length) : (dropS S.1 S.2 ps[k].1).2 = 0 ∧ SInv (dropS S.1 S.2 ps[k].1).1 (ps.eraseIdx k) ∧ (dropS S.1 S.2 ps[k].1).1.1.length = S.1.length := by
  have hp := flat_erase (·.1) ps k hk
  have hnd := hp.nodup_iff.1 h.nd
  rw [List.nodup_append] at hnd
  obtain ⟨n1, n2, n3⟩ := hnd
  have hh : ∀ x ∈ ps[k].1, hasX S.1 x = true := fun x hx => h.has x (hp.mem_iff.2 (List.mem_append_left _ hx))
  have hne : ∀ x ∈ (ps.eraseIdx k).flatMap (·.1), x ∉ ps[k].1 := fun x hx hy => n3 x hy x hx rfl
  have ho : ∀ x ∈ (ps.eraseIdx k).flatMap (·.1), hasX S.1 x = true := fun x hx => h.has x (hp.mem_iff.2 (List.mem_append_right _ hx))
  have dl := drops_law ps[k].1 h.w hh n1
  rw [dropS_ok h.w hh n1]
  refine ⟨rfl, ⟨dl.w, n2, fun x hx => ?_, fun p hp' => ?_, ?_⟩, dl.len⟩
  · rw [dl.oth x (hne x hx)]; exact ho x hx
  · refine (h.g p (List.mem_of_mem_eraseIdx hp')).keep fun x hx => ?_
    have hm : x ∈ (ps.eraseIdx k).flatMap (·.1) := List.mem_flatMap.2 ⟨p, hp', hx⟩
    exact dl.rdo x (hne x hm) (ho x hm)
  · have e := dl.cnt
    rw [(h.g _ (List.getElem_mem hk)).cl] at e
    rw [erase_map, isum_erase _ _ (by simpa using hk), ← h.sum, e]
    simp [obN]

theorem SInv.get {S : SB} {ps : List Ob} (h : SInv S ps) {p : Ob} (hp : p ∈ ps) : getS S.1 S.2 p.1 p.2.length = (p.2, 0) := by
  obtain ⟨z, hz⟩ := (h.g p hp).rd
  rw [getS_ok h.w (fun x hx => h.has x (List.mem_flatMap.2 ⟨p, hp, hx⟩)) (by omega) (by rw [hz]; simp; omega), hz]
  simp

theorem SInv.new (n : Nat) (hn : n ≤ 200) : SInv (List.replicate n (-1, 0), List.replicate (n * 512) 0) [] := by
  have w := W_new n hn
  refine ⟨w, by simp, by simp, by simp, ?_⟩
  have : ∀ m, isum ((List.replicate m ((-1, 0) : Sg)).map sgTaken) = 0 := by
    intro m
    induction m with
    | zero => rfl
    | succ m ih =>
      have h0 : sgTaken (-1, 0) = 0 := by decide +kernel
      rw [List.replicate_succ, List.map_cons, isum_cons, ih, h0]; rfl
  show cnt sgTaken (List.replicate n (-1, 0)) = 0
  unfold cnt
  rw [this]
  split <;> rfl

/-- Texts as elements. -/
def strE : El (List UInt8) where
  sz := 1
  f s := .str s
  d := []
  im := false
  good n := ⟨rfl, by simp [V.cells, V.one]⟩
  free n j hj := by obtain rfl : j = 0 := by omega
                    exact .str _
theorem iaK_str {v : V} {l : List (List UInt8)} (h : IsE strE v l) {H : List Blk} {k : IntKind} {n : Int} {K : V → Prop} (h0 : 0 ≤ n) (hn : n.toNat < l.length) : iaK H 1 v (.int k n) K = K (.vp [.str (l.getD n.toNat [])]) :=
  iaK_isE h (e := strE) rfl h0 hn

end Go.Proofs.YtbkcfhchmjdgpaaDoor

/- Store: many objects, put one behind the other, and some dropped (the walk). -/
namespace Go.Proofs.YtbkcfhchmjdgpaaDoor
open Go Go.MW
set_option linter.unusedSimpArgs false
set_option linter.unusedVariables false
set_option maxRecDepth 20000

theorem ch_cells (c : Ch) : c.v.cells = [c.v] ∧ c.v.one = true ∧ c.v.solid = true := by
  rcases c.h with ⟨h, _⟩ | h <;> rw [h] <;> exact ⟨rfl, rfl, rfl⟩
theorem ch_at {l : List Ch} {k : Nat} (h : k < l.length) : ((chE.vs l).getD k .junk).cells.getD 0 .junk = (l.getD k chE.d).v := by
  rw [El.vs_getD h]
  show (l.getD k chE.d).v.cells.getD 0 .junk = _
  rw [(ch_cells _).1]; rfl
theorem str_at {l : List (List UInt8)} {k : Nat} (h : k < l.length) : ((strE.vs l).getD k .junk).cells.getD 0 .junk = .str (l.getD k []) := by
  rw [El.vs_getD h]; rfl
/-- What is left when one is taken out. -/
theorem vs_erase {α : Type} (e : El α) : ∀ (l : List α) (k : Nat), ([] ++ (e.vs l).take k) ++ (e.vs l).drop (k + 1) = e.vs (l.eraseIdx k)
  | [], k => by simp [El.vs]
  | a :: l, 0 => by simp [El.vs]
  | a :: l, k + 1 => by
    have := vs_erase e l k
    simp only [El.vs, List.nil_append] at this
    simp [El.vs, this]
theorem Own2.mod {S : Nat → Prop} {H H' : List Blk} {s1 s2 : Nat} {v w : V} {xs ys : List V} (h : Own2 s1 s2 H v xs w ys) (m : Mod S H H') (h1 : ∀ c, hasB v c → ¬ S c) (h2 : ∀ c, hasB w c → ¬ S c) : Own2 s1 s2 H' v xs w ys :=
  ⟨m.own h.a h1, m.own h.b h2, h.sep⟩
theorem Own2.app3 {s1 s2 by_ : Nat} {H : List Blk} {v w : V} {xs ys zs : List V} {K : V → List Blk → Prop} (h : Own2 s1 s2 H v xs w ys) (hx : Goods s1 xs) (hz : Goods s1 zs) (hr : roomy (xs.length + zs.length) by_) (hk : ∀ v' H', Own2 s1 s2 H' v' (xs ++ zs) w ys → KeepsBut v H H' → (∀ b, hasB v' b → hasB v b ∨ H.length ≤ b) → K v' H') : appK s1 by_ v zs H K :=
  h.a.appS hx hz hr fun v' H' h1 h2 h3 => hk v' H' ⟨h1, h.b.but h2 h.sep, fun b hb hw => by
    rcases h3 b hb with h4 | h4
    · exact h.sep b h4 hw
    · have := h.b.lt hw; omega⟩ h2 h3

/-- The stand of things. -/
structure AS (H : List Blk) (S : SB) (ps : List Ob) (v : V) (chs : List Ch) (v8 v9 : V) : Prop where
  inv : SInv S ps
  len : S.1.length = 20
  iv : IsE segE v S.1
  ch : chs.map (·.xs) = ps.map (·.1)
  ow : Own2 1 1 H v8 (chE.vs chs) v9 (strE.vs (ps.map (·.2)))
  n0 : ∀ c, hasB v8 c ∨ hasB v9 c → 1 ≤ c
theorem AS.chl {H : List Blk} {S : SB} {ps : List Ob} {v : V} {chs : List Ch} {v8 v9 : V} (h : AS H S ps v chs v8 v9) : chs.length = ps.length := by
  have := congrArg List.length h.ch
  simpa using this
theorem AS.at {H : List Blk} {S : SB} {ps : List Ob} {v : V} {chs : List Ch} {v8 v9 : V} (h : AS H S ps v chs v8 v9) {k : Nat} (hk : k < ps.length) : (chs.getD k chE.d).xs = ps[k].1 := by
  have hk' : k < chs.length := by rw [h.chl]; exact hk
  have := congrArg (·[k]?) h.ch
  simp only [List.getElem?_map, List.getElem?_eq_getElem hk, List.getElem?_eq_getElem hk', Option.map_some, Option.some.injEq] at this
  rw [List.getD_eq_getElem?_getD, List.getElem?_eq_getElem hk']
  exact this
theorem AS.dat {ps : List Ob} {k : Nat} (hk : k < ps.length) : (ps.map (·.2)).getD k [] = ps[k].2 := by
  rw [List.getD_eq_getElem?_getD, List.getElem?_map, List.getElem?_eq_getElem hk]; rfl
theorem AS.mod {M : Nat → Prop} {H H' : List Blk} {S : SB} {ps : List Ob} {v : V} {chs : List Ch} {v8 v9 : V} (h : AS H S ps v chs v8 v9) (m : Mod M H H') (hm : ∀ c, hasB v8 c ∨ hasB v9 c → ¬ M c) : AS H' S ps v chs v8 v9 :=
  ⟨h.inv, h.len, h.iv, h.ch, Own2.mod h.ow m (fun c hc => hm c (.inl hc)) (fun c hc => hm c (.inr hc)), h.n0⟩
theorem obN_le (p : Ob) (h : 1 ≤ p.2.length ∧ p.2.length ≤ 4096) : 0 ≤ obN p ∧ obN p ≤ 4160 := by
  have h1 := rsum_range (cut p.2.length)
  have h2 := cut_len (n := (p.2.length : Int)) (by omega)
  unfold obN
  omega
theorem SInv.len_lt {S : SB} {ps : List Ob} (h : SInv S ps) {p : Ob} (hp : p ∈ ps) : p.1.length < 2 ^ 40 := by
  have g := h.g p hp
  have h1 := cut_len (n := (p.2.length : Int)) (by have := g.n; omega)
  have h2 := congrArg List.length g.cl
  rw [List.length_map] at h2
  omega
theorem tmod_nat (a b : Nat) : Int.tmod (a : Int) (b : Int) = ((a % b : Nat) : Int) := by
  rw [Int.tmod_eq_emod_of_nonneg (by omega)]; omega

theorem all_fn12 {va : V} {l : List (List UInt8)} (ha : IsE strE va l) {vd : V} {dr : List UInt8} (hd : IsE u8E vd dr) : Does Tryd.prog G0 true 6 [va, vd] (.bool true) := by
  refine Does.intro mixed comp6 ?_
  unfold c6
  simp -implicitDefEqProofs (disch := omega) only [mwx, ne_eq, false_implies, implies_true, forall_eq_or_imp, MW.get, ev, evs, argFr, resK, packV, slHK, partsV, partsS, setR, Int.cast_ofNat_Int, Int.natCast_zero, Int.natCast_one, Nat.reduceLeDiff, reduceIte, Nat.reduceEqDiff, Nat.reduceBEq, reduceCtorEq, Nat.reduceAdd, Nat.reduceMul, Nat.reduceSub, Nat.reduceLT, Int.reduceToNat, Int.reduceLT, Int.reduceLE, Int.reduceEq, Int.reduceAdd, Int.reduceNeg, Int.reduceMul, Int.reduceSub]
  refine Does.call awake_fn fr0 ?_
  simp -implicitDefEqProofs (disch := omega) only [mwx, ne_eq, false_implies, implies_true, forall_eq_or_imp, MW.get, ev, evs, argFr, resK, packV, slHK, partsV, partsS, setR, Int.cast_ofNat_Int, Int.natCast_zero, Int.natCast_one, Nat.reduceLeDiff, reduceIte, Nat.reduceEqDiff, Nat.reduceBEq, reduceCtorEq, Nat.reduceAdd, Nat.reduceMul, Nat.reduceSub, Nat.reduceLT, Int.reduceToNat, Int.reduceLT, Int.reduceLE, Int.reduceEq, Int.reduceAdd, Int.reduceNeg, Int.reduceMul, Int.reduceSub]
  refine Does.call (newS_fn 20 (by decide)) (fr1 (.int _ _)) ?_
  have inv0 : SInv (List.replicate 20 (-1, 0), List.replicate (20 * 512) 0) [] := SInv.new 20 (by decide)
  generalize hS : ((List.replicate 20 (-1, 0), List.replicate (20 * 512) 0) : SB) = S0 at inv0
  have e1 : (List.replicate 20 (-1, 0) : List Sg) = S0.1 := by rw [← hS]
  have e2 : (List.replicate (20 * 512) 0 : List UInt8) = S0.2 := by rw [← hS]
  have e3 : S0.1.length = 20 := by rw [← e1]; rfl
  rw [e1, e2]
  clear hS e1 e2
  simp -implicitDefEqProofs (disch := omega) only [lenK_isE ha, mwx, ne_eq, false_implies, implies_true, forall_eq_or_imp, MW.get, ev, evs, argFr, resK, packV, slHK, partsV, partsS, setR, Int.cast_ofNat_Int, Int.natCast_zero, Int.natCast_one, Nat.reduceLeDiff, reduceIte, Nat.reduceEqDiff, Nat.reduceBEq, reduceCtorEq, Nat.reduceAdd, Nat.reduceMul, Nat.reduceSub, Nat.reduceLT, Int.reduceToNat, Int.reduceLT, Int.reduceLE, Int.reduceEq, Int.reduceAdd, Int.reduceNeg, Int.reduceMul, Int.reduceSub]
  refine xg_decf (fun h => ?_) fun h => ?_
  · simp -implicitDefEqProofs (disch := omega) only [h, mwx, ne_eq, false_implies, implies_true, forall_eq_or_imp, MW.get, ev, evs, argFr, resK, packV, slHK, partsV, partsS, setR, Int.cast_ofNat_Int, Int.natCast_zero, Int.natCast_one, Nat.reduceLeDiff, reduceIte, Nat.reduceEqDiff, Nat.reduceBEq, reduceCtorEq, Nat.reduceAdd, Nat.reduceMul, Nat.reduceSub, Nat.reduceLT, Int.reduceToNat, Int.reduceLT, Int.reduceLE, Int.reduceEq, Int.reduceAdd, Int.reduceNeg, Int.reduceMul, Int.reduceSub]
    exact frz_bool rfl
  simp -implicitDefEqProofs (disch := omega) only [h, lenK_isE hd, mwx, ne_eq, false_implies, implies_true, forall_eq_or_imp, MW.get, ev, evs, argFr, resK, packV, slHK, partsV, partsS, setR, Int.cast_ofNat_Int, Int.natCast_zero, Int.natCast_one, Nat.reduceLeDiff, reduceIte, Nat.reduceEqDiff, Nat.reduceBEq, reduceCtorEq, Nat.reduceAdd, Nat.reduceMul, Nat.reduceSub, Nat.reduceLT, Int.reduceToNat, Int.reduceLT, Int.reduceLE, Int.reduceEq, Int.reduceAdd, Int.reduceNeg, Int.reduceMul, Int.reduceSub]
  refine xg_decf (fun h' => ?_) fun h' => ?_
  · simp -implicitDefEqProofs (disch := omega) only [h', mwx, ne_eq, false_implies, implies_true, forall_eq_or_imp, MW.get, ev, evs, argFr, resK, packV, slHK, partsV, partsS, setR, Int.cast_ofNat_Int, Int.natCast_zero, Int.natCast_one, Nat.reduceLeDiff, reduceIte, Nat.reduceEqDiff, Nat.reduceBEq, reduceCtorEq, Nat.reduceAdd, Nat.reduceMul, Nat.reduceSub, Nat.reduceLT, Int.reduceToNat, Int.reduceLT, Int.reduceLE, Int.reduceEq, Int.reduceAdd, Int.reduceNeg, Int.reduceMul, Int.reduceSub]
    exact frz_bool rfl
  have hlen : l.length ≤ 30 := by omega
  have hdl : dr.length ≤ 30 := by omega
  simp -implicitDefEqProofs (disch := omega) only [h', mwx, ne_eq, false_implies, implies_true, forall_eq_or_imp, MW.get, ev, evs, argFr, resK, packV, slHK, partsV, partsS, setR, Int.cast_ofNat_Int, Int.natCast_zero, Int.natCast_one, Nat.reduceLeDiff, reduceIte, Nat.reduceEqDiff, Nat.reduceBEq, reduceCtorEq, Nat.reduceAdd, Nat.reduceMul, Nat.reduceSub, Nat.reduceLT, Int.reduceToNat, Int.reduceLT, Int.reduceLE, Int.reduceEq, Int.reduceAdd, Int.reduceNeg, Int.reduceMul, Int.reduceSub]
  have hroom : ∀ m b, m ≤ 300 → b ≤ 128 → roomy m b := fun m b h1 h2 => roomy_of (by omega) h2
  refine xl_loop (fun k st => ∃ (i : Nat) (S : SB) (ps : List Ob) (v : V) (chs : List Ch) (v8 v9 : V), k + i = l.length ∧ AS st.H S ps v chs v8 v9 ∧ ps.length ≤ i ∧ getB st.H 0 = .row 2 [.agg [v, .str S.2]] false false ∧
      get st.fr 0 = va ∧ get st.fr 1 = vd ∧ get st.fr 5 = .bool true ∧ get st.fr 6 = .ptr 0 1 0 0 ∧ get st.fr 8 = v8 ∧ get st.fr 9 = v9 ∧ get st.fr 10 = .int .i64 i) l.length
    ⟨0, S0, [], _, [], .nils, .nils, by omega, ⟨inv0, e3, isE_vs _, rfl, .nil _ _ _, fun c h => by rcases h with h | h <;> exact h.elim⟩, by simp, rfl, rfl, rfl, rfl, rfl, rfl, rfl, rfl⟩ ?_
  clear inv0 e3 S0
  rintro J hJ k fr H ⟨i, S, ps, v, chs, v8, v9, k1, A, k2, hb0, h0, h1, h5, h6, h8, h9, h10⟩
  simp -implicitDefEqProofs (disch := omega) only [h0, h10, lenK_isE ha, mwx, ne_eq, false_implies, implies_true, forall_eq_or_imp, MW.get, ev, evs, argFr, resK, packV, slHK, partsV, partsS, setR, Int.cast_ofNat_Int, Int.natCast_zero, Int.natCast_one, Nat.reduceLeDiff, reduceIte, Nat.reduceEqDiff, Nat.reduceBEq, reduceCtorEq, Nat.reduceAdd, Nat.reduceMul, Nat.reduceSub, Nat.reduceLT, Int.reduceToNat, Int.reduceLT, Int.reduceLE, Int.reduceEq, Int.reduceAdd, Int.reduceNeg, Int.reduceMul, Int.reduceSub]
  refine xc_dec (fun h11 => ?_) fun h11 => ?_
  · have hi : i < l.length := by omega
    have hi0 : (0 : Int) ≤ (i : Int) := by omega
    have hi1 : (i : Int).toNat < l.length := by simpa using hi
    have hw : IntKind.i64.wrap ((i : Int) + 1) = ((i + 1 : Nat) : Int) := wrap64 (n := ((i + 1 : Nat) : Int)) (by omega) (by omega)
    simp -implicitDefEqProofs (disch := omega) only [h0, h10, iaK_str ha hi0 hi1, mwx, ne_eq, false_implies, implies_true, forall_eq_or_imp, MW.get, ev, evs, argFr, resK, packV, slHK, partsV, partsS, setR, Int.cast_ofNat_Int, Int.natCast_zero, Int.natCast_one, Nat.reduceLeDiff, reduceIte, Nat.reduceEqDiff, Nat.reduceBEq, reduceCtorEq, Nat.reduceAdd, Nat.reduceMul, Nat.reduceSub, Nat.reduceLT, Int.reduceToNat, Int.reduceLT, Int.reduceLE, Int.reduceEq, Int.reduceAdd, Int.reduceNeg, Int.reduceMul, Int.reduceSub]
    refine xc_dec (fun h12 => ?_) fun h12 => ?_
    · simp -implicitDefEqProofs (disch := omega) only [h5, mwx, ne_eq, false_implies, implies_true, forall_eq_or_imp, MW.get, ev, evs, argFr, resK, packV, slHK, partsV, partsS, setR, Int.cast_ofNat_Int, Int.natCast_zero, Int.natCast_one, Nat.reduceLeDiff, reduceIte, Nat.reduceEqDiff, Nat.reduceBEq, reduceCtorEq, Nat.reduceAdd, Nat.reduceMul, Nat.reduceSub, Nat.reduceLT, Int.reduceToNat, Int.reduceLT, Int.reduceLE, Int.reduceEq, Int.reduceAdd, Int.reduceNeg, Int.reduceMul, Int.reduceSub]
      exact frz_bool rfl
    generalize hdd : l.getD i [] = d at *
    have hb1 : getB (H ++ [.row 2 [.agg [.nils, .str []]] false false]) 0 = .row 2 [.agg [v, .str S.2]] false false := by rw [getB_app' (getB_lt' hb0)]; exact hb0
    have hbl := A.inv.w.b
    have hl20 := A.len
    have hH0 : 0 < H.length := getB_lt' hb0
    obtain ⟨v1, w1, i1, c1, d1⟩ := put_fn A.iv A.inv.w.ok (by omega) (b := S.2) (by omega) (d := d) (by omega)
    have o1 := (isE_one i1).2.2
    obtain ⟨q1, q2, q3⟩ := ch_cells ⟨w1, _, c1⟩
    have q1' : w1.cells.length = 1 := by rw [q1]; rfl
    simp -implicitDefEqProofs (disch := omega) only [h0, h6, h10, hb1, hdd, iaK_str ha hi0 hi1, mwx, ne_eq, false_implies, implies_true, forall_eq_or_imp, MW.get, ev, evs, argFr, resK, packV, slHK, partsV, partsS, setR, Int.cast_ofNat_Int, Int.natCast_zero, Int.natCast_one, Nat.reduceLeDiff, reduceIte, Nat.reduceEqDiff, Nat.reduceBEq, reduceCtorEq, Nat.reduceAdd, Nat.reduceMul, Nat.reduceSub, Nat.reduceLT, Int.reduceToNat, Int.reduceLT, Int.reduceLE, Int.reduceEq, Int.reduceAdd, Int.reduceNeg, Int.reduceMul, Int.reduceSub]
    refine Does.call d1 (fr2 (store_free A.iv _) (.str _)) ?_
    simp -implicitDefEqProofs (disch := omega) only [o1, getB_plus0, set_plus0, mwx, ne_eq, false_implies, implies_true, forall_eq_or_imp, MW.get, ev, evs, argFr, resK, packV, slHK, partsV, partsS, setR, Int.cast_ofNat_Int, Int.natCast_zero, Int.natCast_one, Nat.reduceLeDiff, reduceIte, Nat.reduceEqDiff, Nat.reduceBEq, reduceCtorEq, Nat.reduceAdd, Nat.reduceMul, Nat.reduceSub, Nat.reduceLT, Int.reduceToNat, Int.reduceLT, Int.reduceLE, Int.reduceEq, Int.reduceAdd, Int.reduceNeg, Int.reduceMul, Int.reduceSub]
    refine xc_mid (fun st => ∃ (S' : SB) (ps' : List Ob) (v' : V) (chs' : List Ch) (v8 v9 : V) (c : Nat), AS st.H S' ps' v' chs' v8 v9 ∧ ps'.length ≤ i + 1 ∧ getB st.H 0 = .row 2 [.agg [v, .str S.2]] false false ∧ getB st.H c = .row 2 [.agg [v', .str S'.2]] false false ∧
      get st.fr 0 = va ∧ get st.fr 1 = vd ∧ get st.fr 5 = .bool true ∧ get st.fr 6 = .ptr 0 1 0 0 ∧ get st.fr 8 = v8 ∧ get st.fr 9 = v9 ∧ get st.fr 10 = .int .i64 i ∧ get st.fr 11 = .ptr c 1 0 0) (fun J2 hJ2 => ?_) ?_
    · have kH : Keeps H (H ++ [.row 2 [.agg [v1, .str (putS S.1 S.2 d).1.1.2]] false false]) := .app _ _
      refine xc_dec (fun he => ?_) fun he => ?_
      · obtain ⟨p1, p2, p⟩ := putS_law A.inv.w he
        have inv' := A.inv.put ⟨p1, p2⟩ p
        generalize putS S.1 S.2 d = R at *
        obtain ⟨⟨S', xs⟩, er⟩ := R
        simp only at *
        subst he
        simp -implicitDefEqProofs (disch := omega) only [h8, q1, q1', q2, q3, List.length_append, getB_plus, getB_plus0, mwx, ne_eq, false_implies, implies_true, forall_eq_or_imp, MW.get, ev, evs, argFr, resK, packV, slHK, partsV, partsS, setR, Int.cast_ofNat_Int, Int.natCast_zero, Int.natCast_one, Nat.reduceLeDiff, reduceIte, Nat.reduceEqDiff, Nat.reduceBEq, reduceCtorEq, Nat.reduceAdd, Nat.reduceMul, Nat.reduceSub, Nat.reduceLT, Int.reduceToNat, Int.reduceLT, Int.reduceLE, Int.reduceEq, Int.reduceAdd, Int.reduceNeg, Int.reduceMul, Int.reduceSub]
        have ow1 := A.ow.keep (.app H [.row 2 [.agg [v1, .str S'.2]] false false, .row 1 [w1] false false])
        have hcl := A.chl
        refine Own2.app3 ow1 (El.vs_goods _) (El.vs_goods (e := chE) [⟨w1, xs, c1⟩]) (hroom _ _ (by rw [El.vs_length]; simp [El.vs]; omega) (by decide)) fun u1 H1 ow2 kb1 nw1 => ?_
        simp -implicitDefEqProofs (disch := omega) only [h0, h9, h10, iaK_str ha hi0 hi1, hdd, List.length_append, getB_plus, getB_plus0, mwx, ne_eq, false_implies, implies_true, forall_eq_or_imp, MW.get, ev, evs, argFr, resK, packV, slHK, partsV, partsS, setR, Int.cast_ofNat_Int, Int.natCast_zero, Int.natCast_one, Nat.reduceLeDiff, reduceIte, Nat.reduceEqDiff, Nat.reduceBEq, reduceCtorEq, Nat.reduceAdd, Nat.reduceMul, Nat.reduceSub, Nat.reduceLT, Int.reduceToNat, Int.reduceLT, Int.reduceLE, Int.reduceEq, Int.reduceAdd, Int.reduceNeg, Int.reduceMul, Int.reduceSub]
        have ow3 := (ow2.keep (.app H1 [.row 1 [.str d] false false])).symm
        refine Own2.app3 ow3 (El.vs_goods _) (El.vs_goods (e := strE) [d]) (hroom _ _ (by rw [El.vs_length]; simp [El.vs]; omega) (by decide)) fun u2 H2 ow4 kb2 nw2 => ?_
        have v1e : chE.vs chs ++ [w1] = chE.vs (chs ++ [⟨w1, xs, c1⟩]) := El.vs_append (e := chE) chs [⟨w1, xs, c1⟩]
        have v2e : strE.vs (ps.map (·.2)) ++ [.str d] = strE.vs ((ps ++ [(xs, d)]).map (·.2)) := by rw [List.map_append]; exact El.vs_append (e := strE) (ps.map (·.2)) [d]
        have ow5 := ow4.symm
        rw [v1e, v2e] at ow5
        have n81 : ∀ c, hasB v8 c → 1 ≤ c ∧ c < H.length := fun c hc => ⟨A.n0 c (.inl hc), A.ow.a.lt hc⟩
        have n91 : ∀ c, hasB v9 c → 1 ≤ c ∧ c < H.length := fun c hc => ⟨A.n0 c (.inr hc), A.ow.b.lt hc⟩
        have hM : Mod (fun x => hasB v8 x ∨ hasB v9 x) (H ++ [.row 2 [.agg [v1, .str S'.2]] false false]) H2 := by
          have m1 : Mod (fun x => hasB v8 x ∨ hasB v9 x) (H ++ [.row 2 [.agg [v1, .str S'.2]] false false]) (H ++ [.row 2 [.agg [v1, .str S'.2]] false false, .row 1 [w1] false false]) := by
            have := Keeps.mod (Keeps.app (H ++ [.row 2 [.agg [v1, .str S'.2]] false false]) [.row 1 [w1] false false]) (fun x => hasB v8 x ∨ hasB v9 x)
            rwa [List.append_assoc] at this
          exact ((m1.trans (KeepsBut.mod kb1 fun c hc => .inl hc)).trans (Keeps.mod (Keeps.app _ _) _)).trans (KeepsBut.mod kb2 fun c hc => .inr hc)
        have g0 : getB H2 0 = .row 2 [.agg [v, .str S.2]] false false := by
          rw [hM.2 0 (by simp) (fun h => by rcases h with h | h; have := n81 0 h; omega; have := n91 0 h; omega), getB_app' hH0]
          exact hb0
        have g1 : getB H2 H.length = .row 2 [.agg [v1, .str S'.2]] false false := by
          rw [hM.2 H.length (by simp) (fun h => by rcases h with h | h; have := n81 _ h; omega; have := n91 _ h; omega)]
          exact getB_new _ _
        simp -implicitDefEqProofs (disch := omega) only [mwx, ne_eq, false_implies, implies_true, forall_eq_or_imp, MW.get, ev, evs, argFr, resK, packV, slHK, partsV, partsS, setR, Int.cast_ofNat_Int, Int.natCast_zero, Int.natCast_one, Nat.reduceLeDiff, reduceIte, Nat.reduceEqDiff, Nat.reduceBEq, reduceCtorEq, Nat.reduceAdd, Nat.reduceMul, Nat.reduceSub, Nat.reduceLT, Int.reduceToNat, Int.reduceLT, Int.reduceLE, Int.reduceEq, Int.reduceAdd, Int.reduceNeg, Int.reduceMul, Int.reduceSub]
        refine hJ2 _ ⟨S', ps ++ [(xs, d)], v1, chs ++ [⟨w1, xs, c1⟩], u1, u2, H.length, ⟨inv', by rw [p.len]; exact A.len, i1, by rw [List.map_append, List.map_append, A.ch]; rfl, ow5, fun c hc => ?_⟩, by simp; omega, g0, g1, h0, h1, h5, h6, rfl, rfl, h10, rfl⟩
        have l1 : H.length ≤ H1.length := by have := kb1.1; simp at this; omega
        rcases hc with hc | hc
        · rcases nw1 c hc with h | h
          · exact (n81 c h).1
          · simp at h; omega
        · rcases nw2 c hc with h | h
          · exact (n91 c h).1
          · simp at h; omega
      · have er := putS_err A.inv.w he
        rw [er] at i1 ⊢
        simp only at i1 ⊢
        simp -implicitDefEqProofs (disch := omega) only [mwx, ne_eq, false_implies, implies_true, forall_eq_or_imp, MW.get, ev, evs, argFr, resK, packV, slHK, partsV, partsS, setR, Int.cast_ofNat_Int, Int.natCast_zero, Int.natCast_one, Nat.reduceLeDiff, reduceIte, Nat.reduceEqDiff, Nat.reduceBEq, reduceCtorEq, Nat.reduceAdd, Nat.reduceMul, Nat.reduceSub, Nat.reduceLT, Int.reduceToNat, Int.reduceLT, Int.reduceLE, Int.reduceEq, Int.reduceAdd, Int.reduceNeg, Int.reduceMul, Int.reduceSub]
        refine hJ2 _ ⟨S, ps, v1, chs, v8, v9, H.length, ⟨A.inv, A.len, i1, A.ch, A.ow.keep (.app _ _), A.n0⟩, by omega, ?_, getB_new _ _, h0, h1, h5, h6, h8, h9, h10, rfl⟩
        rw [getB_app' hH0]; exact hb0
    · clear A hb0 hb1 hbl hl20 hH0 i1 c1 d1 o1 q1 q2 q3 q1' h8 h9
      rintro fr H ⟨S', ps', v', chs', v8', v9', c, A, k2', hb0, hbc, h0, h1, h5, h6, h8, h9, h10, h11⟩
      have hH0 : 0 < H.length := getB_lt' hb0
      have o1 := (isE_one A.iv).2.2
      have A' : AS (H.set 0 (.row 2 [.agg [v', .str S'.2]] false false)) S' ps' v' chs' v8' v9' := A.mod (M := fun x => x = 0) ⟨by simp, fun q hq hn => getB_set_ne _ (Ne.symm hn)⟩ fun c hc h => by have := A.n0 c hc; omega
      have hb0' : getB (H.set 0 (.row 2 [.agg [v', .str S'.2]] false false)) 0 = .row 2 [.agg [v', .str S'.2]] false false := getB_set _ hH0
      have hcl := A.chl
      have hsl : (strE.vs (ps'.map (·.2))).length = ps'.length := by rw [El.vs_length, List.length_map]
      have hcl' : (chE.vs chs').length = ps'.length := by rw [El.vs_length, hcl]
      simp -implicitDefEqProofs (disch := omega) only [h6, h11, hbc, hb0, o1, h1, h10, lenK_isE hd, mwx, ne_eq, false_implies, implies_true, forall_eq_or_imp, MW.get, ev, evs, argFr, resK, packV, slHK, partsV, partsS, setR, Int.cast_ofNat_Int, Int.natCast_zero, Int.natCast_one, Nat.reduceLeDiff, reduceIte, Nat.reduceEqDiff, Nat.reduceBEq, reduceCtorEq, Nat.reduceAdd, Nat.reduceMul, Nat.reduceSub, Nat.reduceLT, Int.reduceToNat, Int.reduceLT, Int.reduceLE, Int.reduceEq, Int.reduceAdd, Int.reduceNeg, Int.reduceMul, Int.reduceSub]
      refine xg_dec (fun h13 => ?_) fun h13 => ?_
      rotate_left
      · simp -implicitDefEqProofs (disch := omega) only [h13, h10, hw, mwx, ne_eq, false_implies, implies_true, forall_eq_or_imp, MW.get, ev, evs, argFr, resK, packV, slHK, partsV, partsS, setR, Int.cast_ofNat_Int, Int.natCast_zero, Int.natCast_one, Nat.reduceLeDiff, reduceIte, Nat.reduceEqDiff, Nat.reduceBEq, reduceCtorEq, Nat.reduceAdd, Nat.reduceMul, Nat.reduceSub, Nat.reduceLT, Int.reduceToNat, Int.reduceLT, Int.reduceLE, Int.reduceEq, Int.reduceAdd, Int.reduceNeg, Int.reduceMul, Int.reduceSub]
        exact ⟨k - 1, by omega, hJ _ _ ⟨i + 1, S', ps', v', chs', v8', v9', by omega, A', by omega, hb0', h0, h1, h5, h6, h8, h9, rfl⟩⟩
      simp -implicitDefEqProofs (disch := omega) only [h13, h9, lenK_own A'.ow.b, hsl, mwx, ne_eq, false_implies, implies_true, forall_eq_or_imp, MW.get, ev, evs, argFr, resK, packV, slHK, partsV, partsS, setR, Int.cast_ofNat_Int, Int.natCast_zero, Int.natCast_one, Nat.reduceLeDiff, reduceIte, Nat.reduceEqDiff, Nat.reduceBEq, reduceCtorEq, Nat.reduceAdd, Nat.reduceMul, Nat.reduceSub, Nat.reduceLT, Int.reduceToNat, Int.reduceLT, Int.reduceLE, Int.reduceEq, Int.reduceAdd, Int.reduceNeg, Int.reduceMul, Int.reduceSub]
      refine xg_dec (fun h14 => ?_) fun h14 => ?_
      rotate_left
      · simp -implicitDefEqProofs (disch := omega) only [h14, h10, hw, mwx, ne_eq, false_implies, implies_true, forall_eq_or_imp, MW.get, ev, evs, argFr, resK, packV, slHK, partsV, partsS, setR, Int.cast_ofNat_Int, Int.natCast_zero, Int.natCast_one, Nat.reduceLeDiff, reduceIte, Nat.reduceEqDiff, Nat.reduceBEq, reduceCtorEq, Nat.reduceAdd, Nat.reduceMul, Nat.reduceSub, Nat.reduceLT, Int.reduceToNat, Int.reduceLT, Int.reduceLE, Int.reduceEq, Int.reduceAdd, Int.reduceNeg, Int.reduceMul, Int.reduceSub]
        exact ⟨k - 1, by omega, hJ _ _ ⟨i + 1, S', ps', v', chs', v8', v9', by omega, A', by omega, hb0', h0, h1, h5, h6, h8, h9, rfl⟩⟩
      have hdi : (i : Int).toNat < dr.length := by omega
      generalize hm : (dr.getD i 0).toNat = m
      have hm2 : m < 256 := by rw [← hm]; exact UInt8.toNat_lt _
      simp -implicitDefEqProofs (disch := omega) only [h14, h1, h10, iaK_u8 hd hi0 hdi, hm, mwx, ne_eq, false_implies, implies_true, forall_eq_or_imp, MW.get, ev, evs, argFr, resK, packV, slHK, partsV, partsS, setR, Int.cast_ofNat_Int, Int.natCast_zero, Int.natCast_one, Nat.reduceLeDiff, reduceIte, Nat.reduceEqDiff, Nat.reduceBEq, reduceCtorEq, Nat.reduceAdd, Nat.reduceMul, Nat.reduceSub, Nat.reduceLT, Int.reduceToNat, Int.reduceLT, Int.reduceLE, Int.reduceEq, Int.reduceAdd, Int.reduceNeg, Int.reduceMul, Int.reduceSub]
      refine xc_dec (fun h15 => ?_) fun h15 => ?_
      rotate_left
      · simp -implicitDefEqProofs (disch := omega) only [h10, hw, mwx, ne_eq, false_implies, implies_true, forall_eq_or_imp, MW.get, ev, evs, argFr, resK, packV, slHK, partsV, partsS, setR, Int.cast_ofNat_Int, Int.natCast_zero, Int.natCast_one, Nat.reduceLeDiff, reduceIte, Nat.reduceEqDiff, Nat.reduceBEq, reduceCtorEq, Nat.reduceAdd, Nat.reduceMul, Nat.reduceSub, Nat.reduceLT, Int.reduceToNat, Int.reduceLT, Int.reduceLE, Int.reduceEq, Int.reduceAdd, Int.reduceNeg, Int.reduceMul, Int.reduceSub]
        exact ⟨k - 1, by omega, hJ _ _ ⟨i + 1, S', ps', v', chs', v8', v9', by omega, A', by omega, hb0', h0, h1, h5, h6, h8, h9, rfl⟩⟩
      have hw8 : IntKind.i64.wrap (m : Int) = m := wrap64 (by omega) (by omega)
      have hz : ¬ (ps'.length : Int) = 0 := by omega
      have t4 := tmod_nat m ps'.length
      generalize hq : m % ps'.length = q at t4
      have hq' : q < ps'.length := by rw [← hq]; exact Nat.mod_lt _ (by omega)
      have hq0 : (0 : Int) ≤ (q : Int) := by omega
      have hq1 : (q : Int).toNat < (chE.vs chs').length := by omega
      have hw1 : IntKind.i64.wrap ((q : Int) + 1) = ((q + 1 : Nat) : Int) := wrap64 (n := ((q + 1 : Nat) : Int)) (by omega) (by omega)
      obtain ⟨f1, f2, f3⟩ := A'.inv.drop hq'
      have hxs := A'.at hq'
      have hch := A'.ch
      have hlen' := A'.len
      obtain ⟨v2, i2, d2⟩ := drop_fn A'.iv A'.inv.w.ok (by have := A'.len; omega) (b := S'.2) (by have := A'.inv.w.b; have := A'.len; omega) (chs'.getD q chE.d).h (by rw [hxs]; exact A'.inv.len_lt (List.getElem_mem hq'))
      rw [hxs] at d2 i2
      have kn : Keeps (H.set 0 (.row 2 [.agg [v', .str S'.2]] false false)) (H.set 0 (.row 2 [.agg [v', .str S'.2]] false false) ++ [.row 2 [.agg [.nils, .str []]] false false]) := .app _ _
      have A2 := A'.mod (M := fun _ => False) (Keeps.mod kn _) fun _ _ h => h
      have hb2 : getB (H.set 0 (.row 2 [.agg [v', .str S'.2]] false false) ++ [.row 2 [.agg [.nils, .str []]] false false]) 0 = .row 2 [.agg [v', .str S'.2]] false false := by rw [getB_app' (by simpa using hH0)]; exact hb0'
      generalize hG : H.set 0 (Blk.row 2 [.agg [v', .str S'.2]] false false) = G at *
      simp -implicitDefEqProofs (disch := omega) only [h1, h9, h10, iaK_u8 hd hi0 hdi, hm, hw8, lenK_own A'.ow.b, hsl, hz, t4, h6, h8, hb2, own_ia A2.ow.a hq0 hq1, own_ld1 A2.ow.a (n := q) (by omega), ch_at (k := q) (l := chs') (by omega), mwx, ne_eq, false_implies, implies_true, forall_eq_or_imp, MW.get, ev, evs, argFr, resK, packV, slHK, partsV, partsS, setR, Int.cast_ofNat_Int, Int.natCast_zero, Int.natCast_one, Nat.reduceLeDiff, reduceIte, Nat.reduceEqDiff, Nat.reduceBEq, reduceCtorEq, Nat.reduceAdd, Nat.reduceMul, Nat.reduceSub, Nat.reduceLT, Int.reduceToNat, Int.reduceLT, Int.reduceLE, Int.reduceEq, Int.reduceAdd, Int.reduceNeg, Int.reduceMul, Int.reduceSub]
      refine Does.call d2 (fr2 (store_free A'.iv _) (chs'.getD q chE.d).h.free) ?_
      generalize hD : dropS S'.1 S'.2 ps'[q].1 = D at *
      obtain ⟨D, er⟩ := D
      simp only at f1 f2 f3 i2 d2
      subst f1
      have o2 := (isE_one i2).2.2
      have kn3 : Keeps G (G ++ [.row 2 [.agg [v2, .str D.2]] false false]) := .app _ _
      have hb3 : getB (G ++ [.row 2 [.agg [v2, .str D.2]] false false]) 0 = .row 2 [.agg [v', .str S'.2]] false false := by rw [getB_app' (getB_lt' hb0')]; exact hb0'
      have hb4 : getB ((G ++ [Blk.row 2 [.agg [v2, .str D.2]] false false]).set 0 (.row 2 [.agg [v2, .str D.2]] false false)) 0 = .row 2 [.agg [v2, .str D.2]] false false := getB_set _ (getB_lt' hb3)
      have ow := Own2.mod (S := fun x => x = 0) (H' := (G ++ [Blk.row 2 [.agg [v2, .str D.2]] false false]).set 0 (.row 2 [.agg [v2, .str D.2]] false false)) A'.ow ((Keeps.mod kn3 _).trans ⟨by simp, fun q hq hn => getB_set_ne _ (Ne.symm hn)⟩) (fun c hc h => by have := A'.n0 c (.inl hc); omega) (fun c hc h => by have := A'.n0 c (.inr hc); omega)
      simp -implicitDefEqProofs (disch := omega) only [o2, getB_plus0, set_plus0, h6, hb3, h8, hw1, mwx, ne_eq, false_implies, implies_true, forall_eq_or_imp, MW.get, ev, evs, argFr, resK, packV, slHK, partsV, partsS, setR, Int.cast_ofNat_Int, Int.natCast_zero, Int.natCast_one, Nat.reduceLeDiff, reduceIte, Nat.reduceEqDiff, Nat.reduceBEq, reduceCtorEq, Nat.reduceAdd, Nat.reduceMul, Nat.reduceSub, Nat.reduceLT, Int.reduceToNat, Int.reduceLT, Int.reduceLE, Int.reduceEq, Int.reduceAdd, Int.reduceNeg, Int.reduceMul, Int.reduceSub]
      generalize hG3 : (G ++ [Blk.row 2 [.agg [v2, .str D.2]] false false]).set 0 (Blk.row 2 [.agg [v2, .str D.2]] false false) = G3 at *
      clear A' A2 A hb0' hb2 hb3 kn kn3 hG hbc hb0
      have kp1 : Keeps G3 (G3 ++ [.row 1 [] false false]) := .app _ _
      have tk : (q : Nat) ≤ (chE.vs chs').length := by omega
      have tk' : q + 1 ≤ (chE.vs chs').length := by omega
      simp -implicitDefEqProofs (disch := omega) only [own_lo ow.a tk kp1, els_lo ow.a tk kp1, mwx, ne_eq, false_implies, implies_true, forall_eq_or_imp, MW.get, ev, evs, argFr, resK, packV, slHK, partsV, partsS, setR, Int.cast_ofNat_Int, Int.natCast_zero, Int.natCast_one, Nat.reduceLeDiff, reduceIte, Nat.reduceEqDiff, Nat.reduceBEq, reduceCtorEq, Nat.reduceAdd, Nat.reduceMul, Nat.reduceSub, Nat.reduceLT, Int.reduceToNat, Int.reduceLT, Int.reduceLE, Int.reduceEq, Int.reduceAdd, Int.reduceNeg, Int.reduceMul, Int.reduceSub]
      refine (Own.hs (xs := []) rfl (getB_new _ _) (.inr rfl)).appS (by simp [Goods]) (by rw [El.vs_take]; exact El.vs_goods _) (hroom _ _ (by simp; omega) (by decide)) fun u1 H1 o1 b1 c1 => ?_
      have kp2 : Keeps G3 H1 := b1.fresh kp1 fun b hb => Nat.le_of_eq hb
      have c1' : ∀ b, hasB u1 b → G3.length ≤ b := fun b hb => by
        rcases c1 b hb with h | h
        · exact Nat.le_of_eq h
        · rw [List.length_append] at h; omega
      simp -implicitDefEqProofs (disch := omega) only [h8, hw1, own_hi ow.a tk' kp2, els_hi ow.a tk' kp2, mwx, ne_eq, false_implies, implies_true, forall_eq_or_imp, MW.get, ev, evs, argFr, resK, packV, slHK, partsV, partsS, setR, Int.cast_ofNat_Int, Int.natCast_zero, Int.natCast_one, Nat.reduceLeDiff, reduceIte, Nat.reduceEqDiff, Nat.reduceBEq, reduceCtorEq, Nat.reduceAdd, Nat.reduceMul, Nat.reduceSub, Nat.reduceLT, Int.reduceToNat, Int.reduceLT, Int.reduceLE, Int.reduceEq, Int.reduceAdd, Int.reduceNeg, Int.reduceMul, Int.reduceSub]
      refine o1.appS (by rw [List.nil_append]; exact by rw [El.vs_take]; exact El.vs_goods _) (by rw [El.vs_drop]; exact El.vs_goods _) (hroom _ _ (by simp; omega) (by decide)) fun u2 H2 o3 b2 c2 => ?_
      have kp3 : Keeps G3 H2 := b2.fresh kp2 c1'
      have c2' : ∀ b, hasB u2 b → G3.length ≤ b := fun b hb => by
        rcases c2 b hb with h | h
        · exact c1' b h
        · have := kp2.1; omega
      rw [vs_erase] at o3
      have ow2 := (ow.put kp3 o3 c2').symm
      have lt2 : ∀ b, hasB u2 b → b < H2.length := fun b hb => o3.lt hb
      clear o1 b1 c1 c1' kp1 kp2 b2 c2 o3
      have kp1 : Keeps H2 (H2 ++ [.row 1 [] false false]) := .app _ _
      have tk : (q : Nat) ≤ (strE.vs (ps'.map (·.2))).length := by omega
      have tk' : q + 1 ≤ (strE.vs (ps'.map (·.2))).length := by omega
      simp -implicitDefEqProofs (disch := omega) only [h9, own_lo ow2.a tk kp1, els_lo ow2.a tk kp1, mwx, ne_eq, false_implies, implies_true, forall_eq_or_imp, MW.get, ev, evs, argFr, resK, packV, slHK, partsV, partsS, setR, Int.cast_ofNat_Int, Int.natCast_zero, Int.natCast_one, Nat.reduceLeDiff, reduceIte, Nat.reduceEqDiff, Nat.reduceBEq, reduceCtorEq, Nat.reduceAdd, Nat.reduceMul, Nat.reduceSub, Nat.reduceLT, Int.reduceToNat, Int.reduceLT, Int.reduceLE, Int.reduceEq, Int.reduceAdd, Int.reduceNeg, Int.reduceMul, Int.reduceSub]
      refine (Own.hs (xs := []) rfl (getB_new _ _) (.inr rfl)).appS (by simp [Goods]) (by rw [El.vs_take]; exact El.vs_goods _) (hroom _ _ (by simp; omega) (by decide)) fun u1 H1 o1 b1 c1 => ?_
      have kp2 : Keeps H2 H1 := b1.fresh kp1 fun b hb => Nat.le_of_eq hb
      have c1' : ∀ b, hasB u1 b → H2.length ≤ b := fun b hb => by
        rcases c1 b hb with h | h
        · exact Nat.le_of_eq h
        · rw [List.length_append] at h; omega
      simp -implicitDefEqProofs (disch := omega) only [h9, hw1, own_hi ow2.a tk' kp2, els_hi ow2.a tk' kp2, mwx, ne_eq, false_implies, implies_true, forall_eq_or_imp, MW.get, ev, evs, argFr, resK, packV, slHK, partsV, partsS, setR, Int.cast_ofNat_Int, Int.natCast_zero, Int.natCast_one, Nat.reduceLeDiff, reduceIte, Nat.reduceEqDiff, Nat.reduceBEq, reduceCtorEq, Nat.reduceAdd, Nat.reduceMul, Nat.reduceSub, Nat.reduceLT, Int.reduceToNat, Int.reduceLT, Int.reduceLE, Int.reduceEq, Int.reduceAdd, Int.reduceNeg, Int.reduceMul, Int.reduceSub]
      refine o1.appS (by rw [List.nil_append]; exact by rw [El.vs_take]; exact El.vs_goods _) (by rw [El.vs_drop]; exact El.vs_goods _) (hroom _ _ (by simp; omega) (by decide)) fun u3 H3 o3 b2 c2 => ?_
      have kp4 : Keeps H2 H3 := b2.fresh kp2 c1'
      have c3' : ∀ b, hasB u3 b → H2.length ≤ b := fun b hb => by
        rcases c2 b hb with h | h
        · exact c1' b h
        · have := kp2.1; omega
      rw [vs_erase, ← erase_map] at o3
      have ow3 := (ow2.put kp4 o3 c3').symm
      have hG0 : 0 < G3.length := getB_lt' hb4
      have hel : (ps'.eraseIdx q).length ≤ ps'.length := by rw [List.length_eraseIdx]; split <;> omega
      simp -implicitDefEqProofs (disch := omega) only [h10, hw, mwx, ne_eq, false_implies, implies_true, forall_eq_or_imp, MW.get, ev, evs, argFr, resK, packV, slHK, partsV, partsS, setR, Int.cast_ofNat_Int, Int.natCast_zero, Int.natCast_one, Nat.reduceLeDiff, reduceIte, Nat.reduceEqDiff, Nat.reduceBEq, reduceCtorEq, Nat.reduceAdd, Nat.reduceMul, Nat.reduceSub, Nat.reduceLT, Int.reduceToNat, Int.reduceLT, Int.reduceLE, Int.reduceEq, Int.reduceAdd, Int.reduceNeg, Int.reduceMul, Int.reduceSub]
      refine ⟨k - 1, by omega, hJ _ _ ⟨i + 1, D, ps'.eraseIdx q, v2, chs'.eraseIdx q, u2, u3, by omega, ⟨f2, by omega, i2, by rw [erase_map, erase_map, hch], ow3, fun c hc => ?_⟩, by omega, ?_, h0, h1, h5, h6, rfl, rfl, rfl⟩⟩
      · rcases hc with hc | hc
        · have := c2' c hc; omega
        · have := c3' c hc; have := kp3.1; omega
      · rw [kp4.2 0 (by have := kp3.1; omega), kp3.2 0 hG0]
        exact hb4
  · have hcl := A.chl
    have hsl : (strE.vs (ps.map (·.2))).length = ps.length := by rw [El.vs_length, List.length_map]
    have hcl' : (chE.vs chs).length = ps.length := by rw [El.vs_length, hcl]
    have hl20 := A.len
    have hbl := A.inv.w.b
    have hps : ps.length ≤ 30 := by omega
    have hnum : ∀ j, 0 ≤ isum ((ps.take j).map obN) ∧ isum ((ps.take j).map obN) ≤ 4160 * 30 := fun j => by
      have h1 : ∀ (q : List Ob), (∀ p ∈ q, p ∈ ps) → 0 ≤ isum (q.map obN) ∧ isum (q.map obN) ≤ 4160 * q.length := by
        intro q
        induction q with
        | nil => intro _; simp [isum]
        | cons p q ih =>
          intro hq
          have h2 := ih fun x hx => hq x (by simp [hx])
          have h3 := obN_le p (A.inv.g p (hq p (by simp))).n
          rw [List.map_cons, isum_cons, List.length_cons]
          omega
      have h2 := h1 (ps.take j) fun p hp => List.mem_of_mem_take hp
      have h3 : (ps.take j).length ≤ 30 := by rw [List.length_take]; omega
      omega
    simp -implicitDefEqProofs (disch := omega) only [mwx, ne_eq, false_implies, implies_true, forall_eq_or_imp, MW.get, ev, evs, argFr, resK, packV, slHK, partsV, partsS, setR, Int.cast_ofNat_Int, Int.natCast_zero, Int.natCast_one, Nat.reduceLeDiff, reduceIte, Nat.reduceEqDiff, Nat.reduceBEq, reduceCtorEq, Nat.reduceAdd, Nat.reduceMul, Nat.reduceSub, Nat.reduceLT, Int.reduceToNat, Int.reduceLT, Int.reduceLE, Int.reduceEq, Int.reduceAdd, Int.reduceNeg, Int.reduceMul, Int.reduceSub]
    refine xl_loop (fun k' st => ∃ j : Nat, k' + j = ps.length ∧ st.H = H ∧ get st.fr 5 = .bool true ∧ get st.fr 6 = .ptr 0 1 0 0 ∧ get st.fr 8 = v8 ∧ get st.fr 9 = v9 ∧ get st.fr 17 = .int .i64 (isum ((ps.take j).map obN)) ∧ get st.fr 18 = .int .i64 j) ps.length
      ⟨0, by omega, rfl, h5, h6, h8, h9, rfl, rfl⟩ ?_
    clear h0 h1 h5 h6 h8 h9 h10 k1 hJ J
    rintro J hJ k' fr H' ⟨j, k1, hH, h5, h6, h8, h9, h17, h18⟩
    obtain rfl : H' = H := hH
    simp -implicitDefEqProofs (disch := omega) only [h9, h18, lenK_own A.ow.b, hsl, mwx, ne_eq, false_implies, implies_true, forall_eq_or_imp, MW.get, ev, evs, argFr, resK, packV, slHK, partsV, partsS, setR, Int.cast_ofNat_Int, Int.natCast_zero, Int.natCast_one, Nat.reduceLeDiff, reduceIte, Nat.reduceEqDiff, Nat.reduceBEq, reduceCtorEq, Nat.reduceAdd, Nat.reduceMul, Nat.reduceSub, Nat.reduceLT, Int.reduceToNat, Int.reduceLT, Int.reduceLE, Int.reduceEq, Int.reduceAdd, Int.reduceNeg, Int.reduceMul, Int.reduceSub]
    refine xc_dec (fun h19 => ?_) fun h19 => ?_
    · have hj : j < ps.length := by omega
      have hj0 : (0 : Int) ≤ (j : Int) := by omega
      have hj1 : (j : Int).toNat < (chE.vs chs).length := by omega
      have hj2 : (j : Int).toNat < (strE.vs (ps.map (·.2))).length := by omega
      have hw : IntKind.i64.wrap ((j : Int) + 1) = ((j + 1 : Nat) : Int) := wrap64 (n := ((j + 1 : Nat) : Int)) (by omega) (by omega)
      have hm := List.getElem_mem hj
      have gp := A.inv.g _ hm
      have hxs := A.at hj
      have gf := get_fn A.iv A.inv.w.ok (by omega) (b := S.2) (by omega) (chs.getD j chE.d).h (by rw [hxs]; have := A.inv.len_lt hm; omega) ps[j].2.length
      rw [hxs, A.inv.get hm] at gf
      have cf := cut_fn (ps[j].2.length : Int) (by have := gp.n; omega)
      have hcl2 := cut_len (n := (ps[j].2.length : Int)) (by have := gp.n; omega)
      have rf := room_fn (v := .vs (ints (cut ps[j].2.length))) (l := cut ps[j].2.length) (.inr rfl) (by omega)
      rw [room_rsum (by omega)] at rf
      have hsat : ((strE.vs (ps.map (·.2))).getD j .junk).cells.getD 0 .junk = .str ps[j].2 := by rw [str_at (by simpa using hj), AS.dat hj]
      have hself : (ps[j].2 != ps[j].2) = false := by simp
      have e1 : isum ((ps.take (j + 1)).map obN) = isum ((ps.take j).map obN) + rsum (cut ps[j].2.length) := by
        rw [take_succ_at hj (d := ([], [])), List.map_append, isum_append, List.getD_eq_getElem?_getD, List.getElem?_eq_getElem hj]
        simp [isum, obN]
      have n1 := hnum (j + 1)
      rw [e1] at n1
      have hw2 : IntKind.i64.wrap (isum ((ps.take j).map obN) + rsum (cut ps[j].2.length)) = isum ((ps.take j).map obN) + rsum (cut ps[j].2.length) := wrap64 (by omega) (by omega)
      simp -implicitDefEqProofs (disch := omega) only [h6, hb0, h8, h9, h18, own_ia A.ow.a hj0 hj1, own_ld1 A.ow.a (n := j) (by omega), ch_at (k := j) (l := chs) (by omega), own_ia A.ow.b hj0 hj2, own_ld1 A.ow.b (n := j) (by omega), hsat, mwx, ne_eq, false_implies, implies_true, forall_eq_or_imp, MW.get, ev, evs, argFr, resK, packV, slHK, partsV, partsS, setR, Int.cast_ofNat_Int, Int.natCast_zero, Int.natCast_one, Nat.reduceLeDiff, reduceIte, Nat.reduceEqDiff, Nat.reduceBEq, reduceCtorEq, Nat.reduceAdd, Nat.reduceMul, Nat.reduceSub, Nat.reduceLT, Int.reduceToNat, Int.reduceLT, Int.reduceLE, Int.reduceEq, Int.reduceAdd, Int.reduceNeg, Int.reduceMul, Int.reduceSub]
      refine Does.call gf (fr3 (store_free A.iv _) (chs.getD j chE.d).h.free (.int _ _)) ?_
      simp -implicitDefEqProofs (disch := omega) only [h9, h18, own_ia A.ow.b hj0 hj2, own_ld1 A.ow.b (n := j) (by omega), hsat, mwx, ne_eq, false_implies, implies_true, forall_eq_or_imp, MW.get, ev, evs, argFr, resK, packV, slHK, partsV, partsS, setR, Int.cast_ofNat_Int, Int.natCast_zero, Int.natCast_one, Nat.reduceLeDiff, reduceIte, Nat.reduceEqDiff, Nat.reduceBEq, reduceCtorEq, Nat.reduceAdd, Nat.reduceMul, Nat.reduceSub, Nat.reduceLT, Int.reduceToNat, Int.reduceLT, Int.reduceLE, Int.reduceEq, Int.reduceAdd, Int.reduceNeg, Int.reduceMul, Int.reduceSub]
      refine Does.call cf (fr1 (.int _ _)) ?_
      simp -implicitDefEqProofs (disch := omega) only [h9, h18, own_ia A.ow.b hj0 hj2, own_ld1 A.ow.b (n := j) (by omega), hsat, hself, mwx, ne_eq, false_implies, implies_true, forall_eq_or_imp, MW.get, ev, evs, argFr, resK, packV, slHK, partsV, partsS, setR, Int.cast_ofNat_Int, Int.natCast_zero, Int.natCast_one, Nat.reduceLeDiff, reduceIte, Nat.reduceEqDiff, Nat.reduceBEq, reduceCtorEq, Nat.reduceAdd, Nat.reduceMul, Nat.reduceSub, Nat.reduceLT, Int.reduceToNat, Int.reduceLT, Int.reduceLE, Int.reduceEq, Int.reduceAdd, Int.reduceNeg, Int.reduceMul, Int.reduceSub]
      refine Does.call rf (fr1 (free_ints _)) ?_
      simp -implicitDefEqProofs (disch := omega) only [h17, hw2, h18, hw, mwx, ne_eq, false_implies, implies_true, forall_eq_or_imp, MW.get, ev, evs, argFr, resK, packV, slHK, partsV, partsS, setR, Int.cast_ofNat_Int, Int.natCast_zero, Int.natCast_one, Nat.reduceLeDiff, reduceIte, Nat.reduceEqDiff, Nat.reduceBEq, reduceCtorEq, Nat.reduceAdd, Nat.reduceMul, Nat.reduceSub, Nat.reduceLT, Int.reduceToNat, Int.reduceLT, Int.reduceLE, Int.reduceEq, Int.reduceAdd, Int.reduceNeg, Int.reduceMul, Int.reduceSub]
      exact ⟨k' - 1, by omega, hJ _ _ ⟨j + 1, by omega, rfl, h5, h6, h8, h9, by rw [e1]; rfl, rfl⟩⟩
    · have e2 : ps.take j = ps := List.take_of_length_le (by omega)
      rw [e2, ← A.inv.sum] at h17
      have ck := chkS_fn A.iv A.inv.w.ok (by omega) (b := S.2) (by omega)
      rw [A.inv.w.chk] at ck
      simp -implicitDefEqProofs (disch := omega) only [h5, h6, hb0, mwx, ne_eq, false_implies, implies_true, forall_eq_or_imp, MW.get, ev, evs, argFr, resK, packV, slHK, partsV, partsS, setR, Int.cast_ofNat_Int, Int.natCast_zero, Int.natCast_one, Nat.reduceLeDiff, reduceIte, Nat.reduceEqDiff, Nat.reduceBEq, reduceCtorEq, Nat.reduceAdd, Nat.reduceMul, Nat.reduceSub, Nat.reduceLT, Int.reduceToNat, Int.reduceLT, Int.reduceLE, Int.reduceEq, Int.reduceAdd, Int.reduceNeg, Int.reduceMul, Int.reduceSub]
      refine Does.call (taken_fn A.iv A.inv.w.ok) (fr1 A.iv.free) ?_
      simp -implicitDefEqProofs (disch := omega) only [h17, h6, hb0, mwx, ne_eq, false_implies, implies_true, forall_eq_or_imp, MW.get, ev, evs, argFr, resK, packV, slHK, partsV, partsS, setR, Int.cast_ofNat_Int, Int.natCast_zero, Int.natCast_one, Nat.reduceLeDiff, reduceIte, Nat.reduceEqDiff, Nat.reduceBEq, reduceCtorEq, Nat.reduceAdd, Nat.reduceMul, Nat.reduceSub, Nat.reduceLT, Int.reduceToNat, Int.reduceLT, Int.reduceLE, Int.reduceEq, Int.reduceAdd, Int.reduceNeg, Int.reduceMul, Int.reduceSub]
      refine Does.call ck (fr1 (store_free A.iv _)) ?_
      simp -implicitDefEqProofs (disch := omega) only [mwx, ne_eq, false_implies, implies_true, forall_eq_or_imp, MW.get, ev, evs, argFr, resK, packV, slHK, partsV, partsS, setR, Int.cast_ofNat_Int, Int.natCast_zero, Int.natCast_one, Nat.reduceLeDiff, reduceIte, Nat.reduceEqDiff, Nat.reduceBEq, reduceCtorEq, Nat.reduceAdd, Nat.reduceMul, Nat.reduceSub, Nat.reduceLT, Int.reduceToNat, Int.reduceLT, Int.reduceLE, Int.reduceEq, Int.reduceAdd, Int.reduceNeg, Int.reduceMul, Int.reduceSub]
      exact frz_bool rfl

end Go.Proofs.YtbkcfhchmjdgpaaDoor

/- Store: more types of arguments. -/
namespace Go.Proofs.YtbkcfhchmjdgpaaDoor
open Go Go.MW Go.ChangeShapes Go.WideShapes Go.ChangeAt Go.RowKit
set_option linter.unusedVariables false
set_option linter.unusedSimpArgs false

theorem typ_strs {M : Nat} {v : V} (h : Typ Tryd.prog M 44 v) : ∃ l, IsE strE v l ∧ l.length ≤ M := by
  obtain ⟨l, h1, _, h2⟩ := typ_list (e := strE) (Q := fun _ => True) Tryd.underlying44 (fun _ _ h => by
    obtain ⟨s, rfl, _⟩ := typN_str Tryd.underlying9 h
    exact ⟨s, by simp [mkV, Tryd.underlying9, strE], trivial⟩) h
  exact ⟨l, h1, h2⟩
theorem typ_bytes {M : Nat} {v : V} (h : Typ Tryd.prog M 45 v) : ∃ l, IsE u8E v l ∧ l.length ≤ M := by
  obtain ⟨l, h1, _, h2⟩ := typ_list (e := u8E) (Q := fun _ => True) Tryd.underlying45 (fun _ _ h => by
    obtain ⟨m, rfl, hm⟩ := typN_int Tryd.underlying5 h
    obtain ⟨n, rfl, hn⟩ := u8_nat hm
    refine ⟨UInt8.ofNat n, ?_, trivial⟩
    have : (UInt8.ofNat n).toNat = n := by simp [UInt8.toNat_ofNat]; omega
    simp [mkV, Tryd.underlying5, u8E, this]) h
  exact ⟨l, h1, h2⟩

end Go.Proofs.YtbkcfhchmjdgpaaDoor

