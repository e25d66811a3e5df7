import Derived.Lib.TrailingZeros
import Derived.LaidMore
import Derived.Sort.Grow
import Derived.Sort.EncStr
import Derived.Test.YtoopcfgmffpogaaMwB4
/- What the small code does is one thing: so a call that has a property comes to one result and one heap. -/
namespace Go.MW
open Go Go.RowKit
set_option linter.unusedVariables false
set_option linter.unusedSimpArgs false

section
variable {P : Program} {G : Nat → Option (List V)}

theorem mops_det : ∀ (ms : List MO) (K : St → Prop) (st : St), (ms.all fun m => m.op.det) = true → mops P G ms K st → ∃ st', K st' ∧ mops P G ms (fun s => s = st') st
  | [], K, st, _, h => ⟨st, h, rfl⟩
  | m :: ms, K, st, hd, h => by
    simp only [List.all_cons, Bool.and_eq_true] at hd
    simp only [mops] at h ⊢
    obtain ⟨b, hb, hbr⟩ := gdK_inv h
    cases b with
    | true =>
      simp only [if_true] at hbr
      obtain ⟨v, H', h1, h2⟩ := stepM_det hd.1 hbr
      obtain ⟨st', h3, h4⟩ := mops_det ms K _ hd.2 h1
      exact ⟨st', h3, hb _ _ (by simpa using h2 _ h4)⟩
    | false =>
      simp only [Bool.false_eq_true, if_false] at hbr
      obtain ⟨st', h3, h4⟩ := mops_det ms K _ hd.2 hbr
      exact ⟨st', h3, hb _ _ (by simpa using h4)⟩

/-- Just this state, by just this road. -/
def only (e : Exit) (st : St) : Exit → St → Prop := fun e' st' => e' = e ∧ st' = st

/-- Does code come to one thing? -/
def MC.det : MC → Bool
  | .reg _ ops => ops.all fun m => m.op.det
  | .seq a b => a.det && b.det
  | .cond _ a b => a.det && b.det
  | .block _ c => c.det
  | .loop c => c.det
  | .scope c => c.det
  | .scopeL _ c r => c.det && r.det
  | _ => true

theorem mwp_det : ∀ (c : MC) (Q : Exit → St → Prop) (st : St), c.det = true → mwp P G c Q st → ∃ e st', Q e st' ∧ mwp P G c (only e st') st
  | .skip, Q, st, _, h => ⟨.normal, st, h, rfl, rfl⟩
  | .reg d ops, Q, st, hd, h => by
    obtain ⟨st', h1, h2⟩ := mops_det ops _ st hd h
    exact ⟨.normal, st', h1, mops_mono ops st (fun s hs => ⟨rfl, hs⟩) h2⟩
  | .seq a b, Q, st, hd, h => by
    simp only [MC.det, Bool.and_eq_true] at hd
    obtain ⟨e1, st1, h1, h2⟩ := mwp_det a _ st hd.1 h
    by_cases he : e1 = .normal
    · subst he
      obtain ⟨e, st', h3, h4⟩ := mwp_det b Q st1 hd.2 h1
      refine ⟨e, st', h3, mwp_mono a ?_ h2⟩
      rintro e2 s2 ⟨rfl, rfl⟩
      exact h4
    · refine ⟨e1, st1, ?_, mwp_mono a ?_ h2⟩
      · cases e1 <;> first | exact absurd rfl he | exact h1
      · rintro e2 s2 ⟨rfl, rfl⟩
        cases e2 <;> first | exact absurd rfl he | exact ⟨rfl, rfl⟩
  | .cond c a b, Q, st, hd, h => by
    simp only [MC.det, Bool.and_eq_true] at hd
    simp only [mwp, condK] at h ⊢
    split at h
    · rename_i x hx
      cases x with
      | true =>
        obtain ⟨e, st', h1, h2⟩ := mwp_det a Q st hd.1 (h.1 rfl)
        exact ⟨e, st', h1, fun _ => h2, fun h => by cases h⟩
      | false =>
        obtain ⟨e, st', h1, h2⟩ := mwp_det b Q st hd.2 (h.2 rfl)
        exact ⟨e, st', h1, fun h => (by cases h), fun _ => h2⟩
    · exact h.elim
  | .block id c, Q, st, hd, h => by
    simp only [MC.det] at hd
    obtain ⟨e1, st1, h1, h2⟩ := mwp_det c _ st hd h
    by_cases he : e1 = .exit id
    · subst he
      simp only [blockK, if_true] at h1
      refine ⟨.normal, st1, h1, mwp_mono c ?_ h2⟩
      rintro e2 s2 ⟨rfl, rfl⟩
      simp [blockK, only]
    · have key : ∀ (R : Exit → St → Prop) (s : St), blockK id R e1 s = R e1 s := by
        intro R s
        cases e1 with
        | exit i => simp only [blockK]; rw [if_neg (fun e => he (by rw [e]))]
        | _ => rfl
      rw [key] at h1
      refine ⟨e1, st1, h1, mwp_mono c ?_ h2⟩
      rintro e2 s2 ⟨rfl, rfl⟩
      rw [key]
      exact ⟨rfl, rfl⟩
  | .loop c, Q, st, hd, h => by
    simp only [MC.det] at hd
    obtain ⟨I, ⟨n, hI⟩, hr⟩ := h
    have key : ∀ n st, I n st → ∃ e st', Q e st' ∧ mwp P G (.loop c) (only e st') st := by
      intro n
      induction n using Nat.strongRecOn with
      | _ n ih =>
        intro st hI
        obtain ⟨e1, st1, h1, h2⟩ := mwp_det c _ st hd (hr n st hI)
        by_cases he : e1 = .normal
        · subst he
          obtain ⟨n', hlt, hI'⟩ := h1
          obtain ⟨e, st', h3, I2, ⟨m, hm⟩, h4⟩ := ih n' hlt st1 hI'
          refine ⟨e, st', h3, fun k s => (k = m + 1 ∧ s = st) ∨ I2 k s, ⟨m + 1, .inl ⟨rfl, rfl⟩⟩, ?_⟩
          rintro k s (⟨rfl, rfl⟩ | hk)
          · refine mwp_mono c ?_ h2
            rintro e2 s2 ⟨rfl, rfl⟩
            exact ⟨m, by omega, .inr hm⟩
          · refine mwp_mono c ?_ (h4 k s hk)
            intro e s h
            cases e <;> first | exact h | (obtain ⟨k', h5, h6⟩ := h; exact ⟨k', h5, .inr h6⟩)
        · refine ⟨e1, st1, ?_, fun k s => s = st, ⟨0, rfl⟩, ?_⟩
          · cases e1 <;> first | exact absurd rfl he | exact h1
          · rintro k s rfl
            refine mwp_mono c ?_ h2
            rintro e2 s2 ⟨rfl, rfl⟩
            cases e2 <;> first | exact absurd rfl he | exact ⟨rfl, rfl⟩
    exact key n st hI
  | .scope c, Q, st, hd, h => by
    simp only [MC.det] at hd
    obtain ⟨e1, st1, h1, h2⟩ := mwp_det c _ st hd h
    refine ⟨e1, st1, ?_, mwp_mono c ?_ h2⟩
    · cases e1 <;> first | exact h1 | exact h1.elim
    · rintro e2 s2 ⟨rfl, rfl⟩
      cases e2 <;> first | exact ⟨rfl, rfl⟩ | exact h1.elim
  | .scopeL l c r, Q, st, hd, h => by
    simp only [MC.det, Bool.and_eq_true] at hd
    obtain ⟨I, h0, hr⟩ := h
    have key : ∀ n st, I n st → ∃ e st', Q e st' ∧ ∃ I2 : Nat → St → Prop, (∃ m, I2 m st) ∧ ∀ n s, I2 n s → mwp P G r (jumpK l (fun s' => ∃ n', n' < n ∧ I2 n' s') (only e st')) s := by
      intro n
      induction n using Nat.strongRecOn with
      | _ n ih =>
        intro st hI
        obtain ⟨e1, st1, h1, h2⟩ := mwp_det r _ st hd.2 (hr n st hI)
        by_cases he : ∃ l', e1 = .goto l'
        · obtain ⟨l', rfl⟩ := he
          obtain ⟨rfl, n', hlt, hI'⟩ := h1
          obtain ⟨e, st', h3, I2, ⟨m, hm⟩, h4⟩ := ih n' hlt st1 hI'
          refine ⟨e, st', h3, fun k s => (k = m + 1 ∧ s = st) ∨ I2 k s, ⟨m + 1, .inl ⟨rfl, rfl⟩⟩, ?_⟩
          rintro k s (⟨rfl, rfl⟩ | hk)
          · refine mwp_mono r ?_ h2
            rintro e2 s2 ⟨rfl, rfl⟩
            exact ⟨rfl, m, by omega, .inr hm⟩
          · refine mwp_mono r ?_ (h4 k s hk)
            intro e s h
            cases e <;> first | exact h | (obtain ⟨h7, k', h5, h6⟩ := h; exact ⟨h7, k', h5, .inr h6⟩)
        · refine ⟨e1, st1, ?_, fun k s => s = st, ⟨0, rfl⟩, ?_⟩
          · cases e1 <;> first | exact absurd ⟨_, rfl⟩ he | exact h1
          · rintro k s rfl
            refine mwp_mono r ?_ h2
            rintro e2 s2 ⟨rfl, rfl⟩
            cases e2 <;> first | exact absurd ⟨_, rfl⟩ he | exact ⟨rfl, rfl⟩
    obtain ⟨e1, st1, h1, h2⟩ := mwp_det c _ st hd.1 h0
    by_cases he : ∃ l', e1 = .goto l'
    · obtain ⟨l', rfl⟩ := he
      obtain ⟨rfl, n, hI⟩ := h1
      obtain ⟨e, st', h3, I2, ⟨m, hm⟩, h4⟩ := key n st1 hI
      refine ⟨e, st', h3, I2, mwp_mono c ?_ h2, h4⟩
      rintro e2 s2 ⟨rfl, rfl⟩
      exact ⟨rfl, m, hm⟩
    · refine ⟨e1, st1, ?_, fun _ _ => False, mwp_mono c ?_ h2, fun _ _ h => h.elim⟩
      · cases e1 <;> first | exact absurd ⟨_, rfl⟩ he | exact h1
      · rintro e2 s2 ⟨rfl, rfl⟩
        cases e2 <;> first | exact absurd ⟨_, rfl⟩ he | exact ⟨rfl, rfl⟩
  | .exit id, Q, st, _, h => ⟨.exit id, st, h, rfl, rfl⟩
  | .label l, Q, st, _, h => ⟨.normal, st, h, rfl, rfl⟩
  | .goto l, Q, st, _, h => ⟨.goto l, st, h, rfl, rfl⟩
  | .ret, Q, st, _, h => ⟨.ret, st, h, rfl, rfl⟩
  | .bad, Q, st, _, h => h.elim

theorem resK_mono : ∀ (rs : List RS) {fr : Fr} {H : List Blk} {C C' : List V → Prop}, resK fr H rs C → (∀ us, C us → C' us) → resK fr H rs C'
  | [], _, _, _, _, h, hk => hk _ h
  | .t i :: rs, _, _, _, _, h, hk => resK_mono rs h fun vs h => hk _ h
  | .c agg i :: rs, fr, H, C, C', h, hk => by
    simp only [resK] at h ⊢
    obtain ⟨v, h1, h2⟩ := ldK_det agg (get fr i) H _ h
    have := h2 [] (fun v' _ => resK fr H rs fun vs => C' (v' :: vs)) (resK_mono rs h1 fun vs h => hk _ h)
    rwa [List.append_nil] at this

theorem resK_det : ∀ (rs : List RS) {fr : Fr} {H : List Blk} {C : List V → Prop}, resK fr H rs C → ∃ us, C us ∧ resK fr H rs (· = us)
  | [], _, _, C, h => ⟨[], h, rfl⟩
  | .t i :: rs, fr, H, C, h => by
    obtain ⟨us, h1, h2⟩ := resK_det rs h
    exact ⟨_, h1, resK_mono rs h2 fun vs h => by rw [h]⟩
  | .c agg i :: rs, fr, H, C, h => by
    simp only [resK] at h
    obtain ⟨v, h1, h2⟩ := ldK_det agg (get fr i) H _ h
    obtain ⟨us, h3, h4⟩ := resK_det rs h1
    refine ⟨_, h3, ?_⟩
    simp only [resK]
    have := h2 [] (fun v' _ => resK fr H rs fun vs => v' :: vs = v :: us) (resK_mono rs h4 fun vs h => by rw [h])
    rwa [List.append_nil] at this

/-- A call that comes to one result and one heap, which have a property. -/
def SimX (P : Program) (G : Nat → Option (List V)) (f : Nat) (args : List V) (H : List Blk) (Q : V → List Blk → Prop) : Prop := ∃ r H', Sim P G f args H r H' ∧ Q r H'

theorem SimX.intro (hP : P.follows .mixedOrders = true) {f : Nat} {args : List V} {H : List Blk} {Q : V → List Blk → Prop} {c : MC} {rs : List RS} (hc : Compiled P f args.length c rs)
    (h : mwp P G c (fun e st => (e = .normal ∨ e = .ret) ∧ resK st.fr st.H rs fun us => Q (packV us) st.H) ⟨argFr 0 args, H⟩) (hd : c.det = true := by rfl) : SimX P G f args H Q := by
  obtain ⟨e, st', ⟨he, hq⟩, h2⟩ := mwp_det c _ _ hd h
  obtain ⟨us, h3, h4⟩ := resK_det rs hq
  refine ⟨packV us, st'.H, SimP.sim (SimP.intro hP hc (mwp_mono c ?_ h2)), h3⟩
  rintro e2 s2 ⟨rfl, rfl⟩
  exact ⟨he, resK_mono rs h4 fun vs h => ⟨by rw [h], rfl⟩⟩

theorem SimX.mono {f : Nat} {args : List V} {H : List Blk} {Q Q' : V → List Blk → Prop} (h : SimX P G f args H Q) (hq : ∀ r H', Q r H' → Q' r H') : SimX P G f args H Q' := by
  obtain ⟨r, H', h1, h2⟩ := h
  exact ⟨r, H', h1, hq _ _ h2⟩
/-- Such a call in the code. -/
theorem SimX.call {f : Nat} {args : List V} {H : List Blk} {Q : V → List Blk → Prop} {K : V → List Blk → Prop} (h : SimX P G f args H Q) (hk : ∀ r H', Q r H' → K r H') : callK P G false f args H K := by
  obtain ⟨r, H', h1, h2⟩ := h
  exact ⟨r, H', h1, hk _ _ h2⟩
theorem SimX.of_call {f : Nat} {args : List V} {H : List Blk} {Q : V → List Blk → Prop} (h : callK P G false f args H Q) : SimX P G f args H Q := h
/-- A sealed call whose result is told by a property. -/
theorem Does.ofX {im : Bool} {f : Nat} {args : List V} {α : Type} {C : α → Prop} {R : α → V} (h : SimX P G f args [] fun r H' => ∃ x, C x ∧ Frz im H' r (R x)) : ∃ x, C x ∧ Does P G im f args (R x) := by
  obtain ⟨r, H', hsim, x, hc, hf⟩ := h
  refine ⟨x, hc, ?_⟩
  intro B Φ Z w rargs hrel ha
  refine (hsim B Φ Z w rargs hrel ha).mono ?_
  rintro e w' ⟨rv, Φ', Z', rfl, hv, hr, hev⟩
  exact ⟨rv, r, _, Φ', Z', rfl, hf, hv, hr, hev⟩
/-- A sealed call, as such. -/
theorem Does.simX {im : Bool} {f : Nat} {args : List V} {r : V} (h : Does P G im f args r) (ha : ∀ a ∈ args, Free true a) (H : List Blk) : SimX P G f args H fun r' H' => r' = r ∧ H' = H := ⟨r, H, (h.quiet ha H).sim, rfl, rfl⟩
theorem Does.simXB {f : Nat} {args args' : List V} {r : V} {H : List Blk} (h : Does P G false f args' r) (ha : Frzs true H args args') : SimX P G f args H fun r' H' => r' = r ∧ H' = H := by
  have := h.borrow ha []
  rw [List.append_nil] at this
  exact ⟨r, H, this.sim, rfl, rfl⟩

/-- A row that nothing writes any more, from now on. -/
theorem Rel.freeze {B : Bd} {Φ : Nat → Option Pl} {Z : Nat → Prop} {H : List Blk} {w : World} (h : Rel G B Φ Z H w) {b sz : Nat} {p : Pl} {xs : List V} {opn : Bool} (hp : Φ b = some p) (hb : getB H b = .row sz xs opn false) :
    Rel G B Φ (fun q => Z q ∨ q = p.rb) (H.set b (.row sz xs opn true)) w ∧ Ev B Φ Z w Φ (fun q => Z q ∨ q = p.rb) w := by
  have hrow := h.row hp hb
  have hlt : p.rb < w.heap.size := by
    obtain ⟨c, t, fz, hc, _⟩ := hrow.row
    exact (Array.getElem?_eq_some_iff.1 hc).1
  have hbl : b < H.length := getB_lt' hb
  have vr : ∀ {v r}, VR Φ Z w v r → VR Φ (fun q => Z q ∨ q = p.rb) w v r := fun hv => hv.mono (fun _ h => .inl h) (fun _ _ => rfl) (fun b p hp => ⟨p, hp, .inl rfl⟩)
  refine ⟨⟨fun c q hq => ?_, h.inj, h.low, fun r hr => ?_, h.size, h.glob.mono (fun _ h => .inl h) fun _ _ => rfl, fun c k hc => ?_⟩, ⟨fun _ h => .inl h, fun _ _ => rfl, fun c q hq => ⟨q, hq, .inl rfl⟩, Below.refl _ _, fun r hr _ => ?_⟩⟩
  · by_cases hc : c = b
    · subst hc
      obtain rfl := Option.some.inj (hp.symm.trans hq)
      refine ⟨_, List.getElem?_set_self hbl, ?_⟩
      obtain ⟨n, s, cs, ⟨cc, t, fz, hcb, h0, h1, h2, h3, h4⟩, z⟩ := hrow
      exact ⟨n, s, cs, ⟨cc, t, fz, hcb, h0, h1, h2, h3, fun i j hi hj => vr (h4 i j hi hj)⟩, fun _ => .inr rfl, fun h => by cases h⟩
    · obtain ⟨k, hk, ok⟩ := h.blk c q hq
      have hne : q.rb ≠ p.rb := fun e => hc (h.inj c b q p hq hp e)
      refine ⟨k, by rw [List.getElem?_set_ne (Ne.symm hc)]; exact hk, ?_⟩
      cases k with
      | row sz' xs' opn' frz' =>
        obtain ⟨n, s, cs, ⟨cc, t, fz, hcb, h0, h1, h2, h3, h4⟩, z⟩ := ok
        exact ⟨n, s, cs, ⟨cc, t, fz, hcb, h0, h1, h2, h3, fun i j hi hj => vr (h4 i j hi hj)⟩, fun hf => .inl (z.1 hf), fun hf hz => by rcases hz with hz | hz; exact z.2 hf hz; exact hne hz⟩
      | map es clk =>
        obtain ⟨n, ⟨cc, hcb, h1, h2⟩, z⟩ := ok
        exact ⟨n, ⟨cc, hcb, h1, fun i hi => ⟨(h2 i hi).1, vr (h2 i hi).2.1, vr (h2 i hi).2.2⟩⟩, fun hz => by rcases hz with hz | hz; exact z hz; exact hne hz⟩
      | iter m s sn l =>
        obtain ⟨n, ⟨r, hv, hc⟩, z⟩ := ok
        exact ⟨n, ⟨r, vr hv, hc⟩, fun hz => by rcases hz with hz | hz; exact z hz; exact hne hz⟩
  · rcases hr with hr | rfl
    · exact h.zin r hr
    · exact hlt
  · obtain ⟨h1, h2⟩ := h.pend c k hc
    have hne : c ≠ b := by rintro rfl; rw [hp] at h2; cases h2
    exact ⟨by rw [List.getElem?_set_ne (Ne.symm hne)]; exact h1, h2⟩
  · rcases hr with hr | rfl
    · exact .inl hr
    · exact .inr (h.low b p hp)

theorem getD_mid {α : Type} (pre post : List α) (a d : α) (i : Nat) : (pre ++ [a] ++ post).getD i d = if i < pre.length then pre.getD i d else if i = pre.length then a else post.getD (i - pre.length - 1) d := by
  simp only [List.getD_eq_getElem?_getD]
  split
  · rw [List.append_assoc, List.getElem?_append_left (by assumption)]
  · split
    · subst_vars; simp
    · rw [List.getElem?_append_right (by simp; omega)]
      simp only [List.length_append, List.length_singleton]
      rw [show i - (pre.length + 1) = i - pre.length - 1 by omega]

/-- A sealed call that is handed a row, which nothing writes any more behind it. -/
theorem Does.callF {im : Bool} {f : Nat} {pre post : List V} {b n i len sz : Nat} {cap : Option Nat} {xs : List V} {opn : Bool} {r : V} {H : List Blk} {K : V → List Blk → Prop} (h : Does P G im f (pre ++ [.vs ((xs.drop i).take len)] ++ post) r)
    (hpre : ∀ a ∈ pre, Free true a) (hpost : ∀ a ∈ post, Free true a) (hb : getB H b = .row sz xs opn false) (hn : xs.length = n) (hi : i + len ≤ n) (hf : ∀ y ∈ (xs.drop i).take len, ∀ j, j < y.cells.length → Free true (y.cells.getD j .junk))
    (hk : K r (H.set b (.row sz xs opn true))) : callK P G false f (pre ++ [.hs b n i 0 len cap sz] ++ post) H K := by
  refine ⟨r, _, ?_, hk⟩
  intro B Φ Z w rargs hrel hargs
  have hmid := hargs.2 pre.length (by simp)
  rw [getD_mid, if_neg (by omega), if_pos rfl] at hmid
  obtain ⟨p, rcap, hpb, ok, hrv, hle, hcap⟩ := hs_inv hrel hmid hb hn
  obtain ⟨hrel', hev'⟩ := hrel.freeze hpb hb
  have hys : ((xs.drop i).take len).length = len := by simp; omega
  have hgy : ∀ k, k < len → ((xs.drop i).take len).getD k .junk = xs.getD (i + k) .junk := fun k hk => by
    simp [List.getD_eq_getElem?_getD, List.getElem?_take_of_lt hk]
  have hFr : Free true (.vs ((xs.drop i).take len)) := .vs rfl fun k j hk hj => by
    refine hf _ ?_ j hj
    rw [List.getD_eq_getElem?_getD, List.getElem?_eq_getElem hk]
    exact List.getElem_mem _
  have hargs' : VRs Φ (fun q => Z q ∨ q = p.rb) w (pre ++ [.vs ((xs.drop i).take len)] ++ post) rargs := by
    refine ⟨by rw [hargs.1]; simp, fun q hq => ?_⟩
    have hq0 := hargs.2 q (by simpa using hq)
    rw [getD_mid] at hq0 ⊢
    split
    · rename_i h1
      rw [if_pos h1] at hq0
      exact hq0.ev hev'
    · rename_i h1
      rw [if_neg h1] at hq0
      split
      · rename_i h2
        subst h2
        rw [hrv]
        obtain ⟨c, t, fz, hcb, _, h3, h4, _, h5⟩ := ok.row
        have := VR.vs (Φ := Φ) (Z := fun q => Z q ∨ q = p.rb) (w := w) ((xs.drop i).take len) ⟨p.rb, i * sz + 0, none⟩ sz rcap (fun k j => c.getD ((i + k) * sz + j) undef) rfl (.inr rfl) (by omega) (fun k hk => by
            rw [hgy k (by omega)]; exact ok.csz _ (by omega)) (fun k j hk hj => by
          have hin : (i + k) * sz + j < c.size := by
            have := mul_in (i := i + k) (n := xs.length) (sz := sz) (j := j) (by omega) hj
            omega
          simp only [Nat.add_zero]
          rw [← Nat.add_assoc, ← Nat.add_mul]
          exact cell_getD hcb hin) (fun k j hk hj => by
            rw [hgy k (by omega)]
            exact (h5 (i + k) j (by omega) hj).ev hev')
        rw [hys] at this
        exact this
      · rename_i h2
        rw [if_neg h2] at hq0
        exact hq0.ev hev'
  have hfree : ∀ a ∈ pre ++ [.vs ((xs.drop i).take len)] ++ post, Free true a := by
    intro a ha
    simp only [List.mem_append, List.mem_singleton] at ha
    rcases ha with (ha | rfl) | ha
    · exact hpre a ha
    · exact hFr
    · exact hpost a ha
  refine (h.quiet hfree _ B Φ _ w rargs hrel' hargs').mono ?_
  rintro e w' ⟨rv, Z', rfl, hv, hr, hev⟩
  exact ⟨rv, Φ, Z', rfl, hv, hr, hev'.trans hev⟩
/-- What stands behind both ways of a test: once. -/
theorem xc_mid {v : V} {a b rest : MC} {ks : List Kt} {Q : Exit → St → Prop} {st : St} (I : St → Prop) (h1 : ∀ J : St → Prop, (∀ st, I st → J st) → xc P G v a b (.lp J :: ks) Q st) (h2 : ∀ fr H, I ⟨fr, H⟩ → xw P G rest ks Q ⟨fr, H⟩) : xc P G v a b (.seq rest :: ks) Q st := by
  have h := h1 _ fun st h => h
  have hm : ∀ e st, kq P G (.lp I :: ks) Q e st → kq P G (.seq rest :: ks) Q e st := by
    intro e st h
    cases e <;> first | exact h2 _ _ h | exact h
  unfold xc condK at h ⊢
  split at h
  · exact ⟨fun e => mwp_mono _ hm (h.1 e), fun e => mwp_mono _ hm (h.2 e)⟩
  · exact h
theorem xg_mid {v : V} {w q : Bool} {d : Option Nat} {m : MOp} {r : List MO} {rest : MC} {ks : List Kt} {Q : Exit → St → Prop} {fr : Fr} {H : List Blk} (I : St → Prop) (h1 : ∀ J : St → Prop, (∀ st, I st → J st) → xg P G v w q d m r (.lp J :: ks) Q fr H) (h2 : ∀ fr H, I ⟨fr, H⟩ → xw P G rest ks Q ⟨fr, H⟩) : xg P G v w q d m r (.seq rest :: ks) Q fr H := by
  have h := h1 _ fun st h => h
  have hm : ∀ st, kq P G (.lp I :: ks) Q .normal st → kq P G (.seq rest :: ks) Q .normal st := fun st h => h2 _ _ h
  unfold xg at h ⊢
  split at h
  · exact ⟨fun e => stepM_mono (h.1 e) fun v H' h => mops_mono _ _ hm h, fun e => mops_mono _ _ hm (h.2 e)⟩
  · exact mops_mono _ _ hm h
  · exact h
end
end Go.MW

/- Bits of 64-bit words: and, or, andNot, the lowest bit, the number of bits. -/
namespace Go.MW
open Go
set_option linter.unusedVariables false
set_option linter.unusedSimpArgs false

theorem wrap_u64 (n : Nat) : IntKind.u64.wrap (n : Int) = ((n % 2 ^ 64 : Nat) : Int) := by
  simp [IntKind.wrap, IntKind.signed, IntKind.bits]
theorem wrap_u64i (n : Int) : IntKind.u64.wrap n = n % 18446744073709551616 := by
  simp [IntKind.wrap, IntKind.signed, IntKind.bits]
theorem wrap_u64' {n : Nat} (h : n < 2 ^ 64) : IntKind.u64.wrap (n : Int) = n := by
  rw [wrap_u64, Nat.mod_eq_of_lt h]

theorem band64 {a b : Nat} (ha : a < 2 ^ 64) (hb : b < 2 ^ 64) : bitOp .and .u64 a b = ((a &&& b : Nat) : Int) := by
  show IntKind.u64.wrap (((BitVec.ofInt 64 a &&& BitVec.ofInt 64 b).toNat : Nat) : Int) = _
  rw [BitVec.ofInt_natCast, BitVec.ofInt_natCast, BitVec.toNat_and, BitVec.toNat_ofNat, BitVec.toNat_ofNat, Nat.mod_eq_of_lt ha, Nat.mod_eq_of_lt hb, wrap_u64']
  exact Nat.lt_of_le_of_lt Nat.and_le_left ha
theorem bor64 {a b : Nat} (ha : a < 2 ^ 64) (hb : b < 2 ^ 64) : bitOp .or .u64 a b = ((a ||| b : Nat) : Int) := by
  show IntKind.u64.wrap (((BitVec.ofInt 64 a ||| BitVec.ofInt 64 b).toNat : Nat) : Int) = _
  rw [BitVec.ofInt_natCast, BitVec.ofInt_natCast, BitVec.toNat_or, BitVec.toNat_ofNat, BitVec.toNat_ofNat, Nat.mod_eq_of_lt ha, Nat.mod_eq_of_lt hb, wrap_u64']
  exact Nat.or_lt_two_pow ha hb
theorem bandNot64 {a b : Nat} (ha : a < 2 ^ 64) (hb : b < 2 ^ 64) : bitOp .andNot .u64 a b = ((a &&& (2 ^ 64 - 1 - b) : Nat) : Int) := by
  show IntKind.u64.wrap (((BitVec.ofInt 64 a &&& ~~~ BitVec.ofInt 64 b).toNat : Nat) : Int) = _
  rw [BitVec.ofInt_natCast, BitVec.ofInt_natCast, BitVec.toNat_and, BitVec.toNat_not, BitVec.toNat_ofNat, BitVec.toNat_ofNat, Nat.mod_eq_of_lt ha, Nat.mod_eq_of_lt hb, wrap_u64']
  exact Nat.lt_of_le_of_lt Nat.and_le_left ha
theorem bcom64 {a : Nat} (ha : a < 2 ^ 64) : bitOp .xor .u64 (if IntKind.u64.signed then -1 else IntKind.u64.max) a = ((2 ^ 64 - 1 - a : Nat) : Int) := by
  rw [show (if IntKind.u64.signed then -1 else IntKind.u64.max) = ((2 ^ 64 - 1 : Nat) : Int) from rfl]
  show IntKind.u64.wrap (((BitVec.ofInt 64 _ ^^^ BitVec.ofInt 64 a).toNat : Nat) : Int) = _
  rw [BitVec.ofInt_natCast, BitVec.ofInt_natCast]
  have : BitVec.ofNat 64 (2 ^ 64 - 1) ^^^ BitVec.ofNat 64 a = ~~~ BitVec.ofNat 64 a := by
    rw [show BitVec.ofNat 64 (2 ^ 64 - 1) = BitVec.allOnes 64 from rfl, BitVec.allOnes_xor]
  rw [this, BitVec.toNat_not, BitVec.toNat_ofNat, Nat.mod_eq_of_lt ha, wrap_u64' (by omega)]

theorem shr64 (a : Nat) {b : Nat} : Int.fdiv (a : Int) (2 ^ (Nat.min b IntKind.u64.bits)) = ((a / 2 ^ Nat.min b 64 : Nat) : Int) := by
  rw [show IntKind.u64.bits = 64 from rfl]
  rw [show (2 : Int) ^ Nat.min b 64 = ((2 ^ Nat.min b 64 : Nat) : Int) by simp]
  rw [Int.fdiv_eq_ediv_of_nonneg _ (Int.natCast_nonneg _)]
  rfl

theorem testBit_big {a i : Nat} (ha : a < 2 ^ 64) (h : 64 ≤ i) : a.testBit i = false :=
  Nat.testBit_lt_two_pow (Nat.lt_of_lt_of_le ha (Nat.pow_le_pow_right (by decide) h))

/-- The bit at a place. -/
theorem bit_at {a b : Nat} (ha : a < 2 ^ 64) : decide ((0 : Int) < ((a / 2 ^ Nat.min b 64 &&& 1 : Nat) : Int)) = a.testBit b := by
  rw [Nat.and_one_is_mod]
  by_cases hb : b ≤ 64
  · rw [show Nat.min b 64 = b from Nat.min_eq_left hb, Nat.testBit_eq_decide_div_mod_eq]
    by_cases h : a / 2 ^ b % 2 = 1
    · simp [h]
    · have : a / 2 ^ b % 2 = 0 := by omega
      simp [this]
  · rw [show Nat.min b 64 = 64 from Nat.min_eq_right (by omega), Nat.div_eq_of_lt ha, testBit_big ha (by omega)]
    rfl

theorem and_mask_not {a k : Nat} (ha : a < 2 ^ 64) (hk : k ≤ 64) : (a &&& (2 ^ 64 - 1 - (2 ^ k - 1)) = 0) ↔ a < 2 ^ k := by
  have hpow : 2 ^ k ≤ 2 ^ 64 := Nat.pow_le_pow_right (by decide) hk
  have h0 : 0 < 2 ^ k := Nat.two_pow_pos k
  have e : 2 ^ 64 - 1 - (2 ^ k - 1) = 2 ^ 64 - 2 ^ k := by omega
  have hb : ∀ i, (2 ^ 64 - 2 ^ k).testBit i = (decide (k ≤ i) && decide (i < 64)) := by
    intro i
    have e2 : 2 ^ 64 - 2 ^ k = 2 ^ k * (2 ^ (64 - k) - 1) := by
      rw [Nat.mul_sub, ← Nat.pow_add, show k + (64 - k) = 64 by omega, Nat.mul_one]
    rw [e2, Nat.mul_comm, Nat.testBit_mul_two_pow]
    by_cases h : k ≤ i
    · rw [Nat.testBit_two_pow_sub_one]
      simp [h]
      omega
    · simp [h]
  rw [e]
  constructor
  · intro h
    refine Nat.lt_pow_two_of_testBit _ fun i hi => ?_
    by_cases h64 : i < 64
    · have := congrArg (Nat.testBit · i) h
      simp only [Nat.testBit_and, hb, hi, h64, decide_true, Bool.and_true, Nat.zero_testBit] at this
      exact this
    · exact testBit_big ha (by omega)
  · intro h
    refine Nat.eq_of_testBit_eq fun i => ?_
    rw [Nat.testBit_and, hb, Nat.zero_testBit]
    by_cases hi : k ≤ i
    · rw [Nat.testBit_lt_two_pow (Nat.lt_of_lt_of_le h (Nat.pow_le_pow_right (by decide) hi))]
      rfl
    · simp [hi]

/-- A word without a bit. -/
def clr1 (a k : Nat) : Nat := a &&& (2 ^ 64 - 1 - 2 ^ k)
theorem clr1_bit {a k i : Nat} (ha : a < 2 ^ 64) (hk : k < 64) : (clr1 a k).testBit i = (a.testBit i && decide (i ≠ k)) := by
  have hp : 2 ^ k < 2 ^ 64 := Nat.pow_lt_pow_right (by decide) hk
  unfold clr1
  rw [Nat.testBit_and, show 2 ^ 64 - 1 - 2 ^ k = 2 ^ 64 - (2 ^ k + 1) by omega, Nat.testBit_two_pow_sub_succ hp, Nat.testBit_two_pow]
  by_cases h64 : i < 64
  · by_cases h : k = i
    · simp [h]
    · simp [h, Ne.symm h, h64]
  · rw [testBit_big ha (by omega)]
    rfl
theorem clr1_lt {a k : Nat} (ha : a < 2 ^ 64) : clr1 a k < 2 ^ 64 := Nat.lt_of_le_of_lt Nat.and_le_left ha

theorem shl1 {b : Nat} : IntKind.u64.wrap (1 * 2 ^ (Nat.min b IntKind.u64.bits)) = ((if b < 64 then 2 ^ b else 0 : Nat) : Int) := by
  rw [show IntKind.u64.bits = 64 from rfl, Int.one_mul]
  rw [show (2 : Int) ^ Nat.min b 64 = ((2 ^ Nat.min b 64 : Nat) : Int) by simp, wrap_u64]
  by_cases hb : b < 64
  · rw [show Nat.min b 64 = b from Nat.min_eq_left (by omega), if_pos hb, Nat.mod_eq_of_lt (Nat.pow_lt_pow_right (by decide) hb)]
  · rw [show Nat.min b 64 = 64 from Nat.min_eq_right (by omega), if_neg hb]

/-- The least place without a bit. -/
def low0 (a : Nat) : Nat := Go.Lib.ctz 64 (2 ^ 64 - 1 - a)

theorem low0_spec {a : Nat} (ha : a < 2 ^ 64 - 1) : low0 a < 64 ∧ a.testBit (low0 a) = false ∧ ∀ i, i < low0 a → a.testBit i = true := by
  have h0 : 2 ^ 64 - 1 - a ≠ 0 := by omega
  have hlt : 2 ^ 64 - 1 - a < 2 ^ 64 := by omega
  obtain ⟨h1, h2⟩ := Go.Lib.lowest_bit 64 _ h0 hlt
  have hb : ∀ i, i < 64 → (2 ^ 64 - 1 - a).testBit i = !a.testBit i := by
    intro i hi
    rw [show 2 ^ 64 - 1 - a = 2 ^ 64 - (a + 1) by omega, Nat.testBit_two_pow_sub_succ (by omega)]
    simp [hi]
  obtain ⟨m, hm, hk⟩ := Go.Lib.ctzFrom_spec 64 _ (by omega) hlt
  have he : Go.Lib.ctzFrom 64 (2 ^ 64 - 1 - a) = low0 a := by simp [low0, Go.Lib.ctz, h0]
  rw [he] at hm hk
  have hbit : ∀ i, (2 ^ 64 - 1 - a).testBit i = (decide (low0 a ≤ i) && (2 * m + 1).testBit (i - low0 a)) := by
    intro i
    rw [hm, Nat.mul_comm, Nat.testBit_mul_two_pow]
  refine ⟨hk, ?_, fun i hi => ?_⟩
  · have := hbit (low0 a)
    rw [hb _ hk] at this
    simp at this
    simpa using this
  · have := hbit i
    rw [hb _ (by omega), decide_eq_false (by omega), Bool.false_and] at this
    simpa using this

/-- What a place's number is by the table. -/
theorem tz_key {x : Nat} (h0 : x ≠ 0) (h : x < 2 ^ 64) : bitOp .and .u64 (x : Int) (IntKind.u64.wrap (0 - (x : Int))) = ((2 ^ Go.Lib.ctz 64 x : Nat) : Int) := by
  have : IntKind.u64.wrap (0 - (x : Int)) = ((2 ^ 64 - x : Nat) : Int) := by
    rw [wrap_u64i]; omega
  rw [this, band64 h (by omega), (Go.Lib.lowest_bit 64 x h0 h).1]

/-- How many of the first n bits are set. -/
def pc : Nat → Nat → Nat
  | 0, _ => 0
  | n + 1, x => x % 2 + pc n (x / 2)

theorem pc_le : ∀ n x, pc n x ≤ n
  | 0, _ => Nat.le_refl _
  | n + 1, x => by have := pc_le n (x / 2); have := Nat.mod_lt x (show 0 < 2 by decide); simp only [pc]; omega

theorem pc_bits : ∀ (n x y k : Nat), k < n → x.testBit k = false → y.testBit k = true → (∀ i, i ≠ k → y.testBit i = x.testBit i) → pc n y = pc n x + 1
  | 0, _, _, _, h, _, _, _ => by omega
  | n + 1, x, y, 0, _, h1, h2, h3 => by
    have e : y / 2 = x / 2 := Nat.eq_of_testBit_eq fun i => by
      rw [← Nat.testBit_succ, ← Nat.testBit_succ]
      exact h3 (i + 1) (by omega)
    have m1 : x % 2 = 0 := by simpa [Nat.testBit_zero] using h1
    have m2 : y % 2 = 1 := by simpa [Nat.testBit_zero] using h2
    simp only [pc, e, m1, m2]
    omega
  | n + 1, x, y, k + 1, h, h1, h2, h3 => by
    have ih := pc_bits n (x / 2) (y / 2) k (by omega) (by rw [← Nat.testBit_succ]; exact h1) (by rw [← Nat.testBit_succ]; exact h2) fun i hi => by
      rw [← Nat.testBit_succ, ← Nat.testBit_succ]
      exact h3 (i + 1) (by omega)
    have m : y % 2 = x % 2 := by
      have := h3 0 (by omega)
      simp only [Nat.testBit_zero, decide_eq_decide] at this
      omega
    simp only [pc, m, ih]
    omega

theorem pc_split : ∀ (m n x : Nat), pc (m + n) x = pc m (x % 2 ^ m) + pc n (x / 2 ^ m)
  | 0, n, x => by simp [pc, Nat.mod_one]
  | m + 1, n, x => by
    rw [show m + 1 + n = (m + n) + 1 by omega]
    simp only [pc]
    rw [pc_split m n (x / 2)]
    have e1 : x % 2 ^ (m + 1) % 2 = x % 2 := by rw [Nat.pow_succ, Nat.mul_comm, Nat.mod_mul_right_mod]
    have e2 : x % 2 ^ (m + 1) / 2 = x / 2 % 2 ^ m := by rw [Nat.pow_succ, Nat.mul_comm, Nat.mod_mul_right_div_self]
    have e3 : x / 2 ^ (m + 1) = x / 2 / 2 ^ m := by rw [Nat.pow_succ, Nat.mul_comm, Nat.div_div_eq_div_mul]
    rw [e1, e2, e3]
    omega

theorem and_lane {a b M m : Nat} (hb : b < 256) (hm : m < 256) : (256 * a + b) &&& (256 * M + m) = 256 * (a &&& M) + (b &&& m) := by
  have hbm : b &&& m < 2 ^ 8 := Nat.lt_of_le_of_lt Nat.and_le_left hb
  refine Nat.eq_of_testBit_eq fun i => ?_
  rw [Nat.testBit_and, show (256 : Nat) = 2 ^ 8 from rfl, Nat.testBit_two_pow_mul_add _ hb, Nat.testBit_two_pow_mul_add _ hm, Nat.testBit_two_pow_mul_add _ hbm]
  split
  · rw [Nat.testBit_and]
  · rw [Nat.testBit_and]

/-- The first three steps: the bits of each byte. -/
def sw1 (m x : Nat) : Nat := ((x / 2) &&& m) + (x &&& m)
def sw2 (m x : Nat) : Nat := ((x / 4) &&& m) + (x &&& m)
def sw3 (m x : Nat) : Nat := (x / 16 + x) &&& m
def swar (m1 m2 m3 x : Nat) : Nat := sw3 m3 (sw2 m2 (sw1 m1 x))

theorem lane1 : ∀ b, b < 256 → ∀ c, c < 2 → (c * 128 + b / 2) &&& 85 = b / 2 &&& 85 := by decide +kernel
theorem lane2 : ∀ b, b < 256 → ∀ c, c < 4 → (c * 64 + b / 4) &&& 51 = b / 4 &&& 51 := by decide +kernel
theorem lane3 : ∀ b, b < 69 → ∀ c, c < 16 → (c * 16 + b / 16 + b) % 16 = (b / 16 + b) % 16 := by omega
theorem lane_sw1 : ∀ b, b < 256 → sw1 85 b < 256 := by decide +kernel
theorem lane_sw2 : ∀ b, b < 256 → sw2 51 b < 103 := by decide +kernel
theorem lane_all : ∀ b, b < 256 → sw1 85 b < 256 ∧ sw2 51 (sw1 85 b) < 69 ∧ swar 85 51 15 b = pc 8 b := by decide +kernel

theorem sw1_lane {a b M : Nat} (hb : b < 256) : sw1 (256 * M + 85) (256 * a + b) = 256 * sw1 M a + sw1 85 b := by
  unfold sw1
  have e : (256 * a + b) / 2 = 256 * (a / 2) + ((a % 2) * 128 + b / 2) := by omega
  rw [e, and_lane (by omega) (by omega), and_lane hb (by omega), lane1 b hb _ (by omega)]
  omega
theorem sw2_lane {a b M : Nat} (hb : b < 256) : sw2 (256 * M + 51) (256 * a + b) = 256 * sw2 M a + sw2 51 b := by
  unfold sw2
  have e : (256 * a + b) / 4 = 256 * (a / 4) + ((a % 4) * 64 + b / 4) := by omega
  rw [e, and_lane (by omega) (by omega), and_lane hb (by omega), lane2 b hb _ (by omega)]
  omega
theorem and15 (x : Nat) : x &&& 15 = x % 16 := Nat.and_two_pow_sub_one_eq_mod x 4
theorem sw3_lane {a b M : Nat} (hb : b < 69) (ha : a % 16 < 5) : sw3 (256 * M + 15) (256 * a + b) = 256 * sw3 M a + sw3 15 b := by
  unfold sw3
  have e : (256 * a + b) / 16 + (256 * a + b) = 256 * (a / 16 + a) + ((a % 16) * 16 + b / 16 + b) := by omega
  rw [e, and_lane (by omega) (by omega), and15, and15, lane3 b hb _ (by omega)]

/-- A byte in each of n lanes. -/
def msk (c : Nat) : Nat → Nat
  | 0 => 0
  | n + 1 => 256 * msk c n + c
def lan : Nat → Nat → Nat
  | 0, _ => 0
  | n + 1, x => 256 * lan n (x / 256) + pc 8 (x % 256)

theorem nib : ∀ b, b < 256 → sw2 51 (sw1 85 b) % 16 < 5 := by decide +kernel
theorem sw_nib : ∀ n x, sw2 (msk 51 n) (sw1 (msk 85 n) x) % 16 < 5
  | 0, x => by simp [msk, sw1, sw2]
  | n + 1, x => by
    have hb : x % 256 < 256 := Nat.mod_lt _ (by decide)
    have e : x = 256 * (x / 256) + x % 256 := by omega
    rw [e]
    simp only [msk]
    rw [sw1_lane hb, sw2_lane (lane_all _ hb).1]
    have := nib _ hb
    omega
theorem swar_lan : ∀ n x, swar (msk 85 n) (msk 51 n) (msk 15 n) x = lan n x
  | 0, x => by simp [msk, swar, sw3, lan]
  | n + 1, x => by
    have hb : x % 256 < 256 := Nat.mod_lt _ (by decide)
    have e : x = 256 * (x / 256) + x % 256 := by omega
    obtain ⟨h1, h2, h3⟩ := lane_all _ hb
    have h4 := sw_nib n (x / 256)
    have h5 := swar_lan n (x / 256)
    conv => lhs; rw [e]
    unfold swar at h3 h5 ⊢
    simp only [msk]
    rw [sw1_lane hb, sw2_lane h1, sw3_lane h2 h4, h3, h5]
    rfl

theorem sw1_le (m x : Nat) : sw1 m x ≤ 2 * m := by
  unfold sw1
  have := @Nat.and_le_right (x / 2) m
  have := @Nat.and_le_right x m
  omega
theorem sw2_le (m x : Nat) : sw2 m x ≤ 2 * m := by
  unfold sw2
  have := @Nat.and_le_right (x / 4) m
  have := @Nat.and_le_right x m
  omega

/-- A number of two parts, shifted. -/
theorem part_div {a b c : Nat} (k : Nat) (hk : 0 < k) (h : a = k * c + b) (hb : b < k) : a / k = c := by
  subst h
  rw [Nat.mul_add_div hk, Nat.div_eq_of_lt hb, Nat.add_zero]

theorem lan_end {q0 q1 q2 q3 q4 q5 q6 q7 : Nat} (p0 : q0 ≤ 8) (p1 : q1 ≤ 8) (p2 : q2 ≤ 8) (p3 : q3 ≤ 8) (p4 : q4 ≤ 8) (p5 : q5 ≤ 8) (p6 : q6 ≤ 8) (p7 : q7 ≤ 8) {y y0 y1 : Nat}
    (hy : y = 256 * (256 * (256 * (256 * (256 * (256 * (256 * (256 * 0 + q7) + q6) + q5) + q4) + q3) + q2) + q1) + q0) (h0 : y0 = y + y / 256) (h1 : y1 = y0 + y0 / 65536) :
    y1 + y1 / 4294967296 < 2 ^ 62 ∧ (y1 + y1 / 4294967296) % 128 = q0 + (q1 + (q2 + (q3 + (q4 + (q5 + (q6 + q7)))))) := by
  have i1 : y / 256 = 256 * (256 * (256 * (256 * (256 * (256 * q7 + q6) + q5) + q4) + q3) + q2) + q1 := by
    rw [hy]; omega
  rw [i1] at h0
  have i2 : y0 = 256 * (256 * (256 * (256 * (256 * (256 * (256 * q7 + (q6 + q7)) + (q5 + q6)) + (q4 + q5)) + (q3 + q4)) + (q2 + q3)) + (q1 + q2)) + (q0 + q1) := by
    rw [h0, hy]; omega
  clear i1 h0 hy
  have i3 : y0 / 65536 = 256 * (256 * (256 * (256 * (256 * q7 + (q6 + q7)) + (q5 + q6)) + (q4 + q5)) + (q3 + q4)) + (q2 + q3) :=
    part_div (b := 256 * (q1 + q2) + (q0 + q1)) 65536 (by decide) (by rw [i2]; omega) (by omega)
  rw [i3, i2] at h1
  clear i3 i2
  have i4 : y1 / 4294967296 = 256 * (256 * (256 * q7 + (q6 + q7)) + (q5 + q6 + q7)) + (q4 + q5 + q6 + q7) :=
    part_div (b := 256 * (256 * (256 * (q3 + q4 + q5 + q6) + (q2 + q3 + q4 + q5)) + (q1 + q2 + q3 + q4)) + (q0 + q1 + q2 + q3)) 4294967296 (by decide) (by rw [h1]; omega) (by omega)
  rw [i4]
  have i5 : y1 + (256 * (256 * (256 * q7 + (q6 + q7)) + (q5 + q6 + q7)) + (q4 + q5 + q6 + q7)) = 256 * (16777216 * (256 * (256 * (256 * q7 + (q6 + q7)) + (q5 + q6 + q7)) + (q4 + q5 + q6 + q7)) + (256 * (256 * (q3 + q4 + q5 + q6) + (q2 + q3 + q4 + q5)) + (q1 + q2 + q3 + q4)) + (256 * (256 * q7 + (q6 + q7)) + (q5 + q6 + q7))) + (q0 + q1 + q2 + q3 + q4 + q5 + q6 + q7) := by
    rw [h1]; omega
  rw [i5]
  clear i5 i4 h1
  refine ⟨by omega, ?_⟩
  have : ∀ K s, s < 128 → (256 * K + s) % 128 = s := by intro K s h; omega
  rw [this _ _ (by omega)]
  omega

/-- The sum of the bytes. -/
theorem lan_sum {x : Nat} (hx : x < 2 ^ 64) : ∃ y0 y1 y2 : Nat, y0 = lan 8 x + lan 8 x / 256 ∧ y1 = y0 + y0 / 65536 ∧ y2 = y1 + y1 / 4294967296 ∧ y2 < 2 ^ 62 ∧ y2 % 128 = pc 64 x := by
  refine ⟨_, _, _, rfl, rfl, rfl, ?_⟩
  have e64 : pc 64 x = pc 8 (x % 256) + (pc 8 (x / 256 % 256) + (pc 8 (x / 256 / 256 % 256) + (pc 8 (x / 256 / 256 / 256 % 256) + (pc 8 (x / 256 / 256 / 256 / 256 % 256) + (pc 8 (x / 256 / 256 / 256 / 256 / 256 % 256) + (pc 8 (x / 256 / 256 / 256 / 256 / 256 / 256 % 256) + pc 8 (x / 256 / 256 / 256 / 256 / 256 / 256 / 256 % 256))))))) := by
    rw [show pc 64 x = pc (8 + 56) x from rfl, pc_split, show pc 56 (x / 2 ^ 8) = pc (8 + 48) (x / 2 ^ 8) from rfl, pc_split, show pc 48 (x / 2 ^ 8 / 2 ^ 8) = pc (8 + 40) (x / 2 ^ 8 / 2 ^ 8) from rfl, pc_split, show pc 40 (x / 2 ^ 8 / 2 ^ 8 / 2 ^ 8) = pc (8 + 32) (x / 2 ^ 8 / 2 ^ 8 / 2 ^ 8) from rfl, pc_split,
      show ∀ y, pc 32 y = pc (8 + 24) y from fun _ => rfl, pc_split, show ∀ y, pc 24 y = pc (8 + 16) y from fun _ => rfl, pc_split, show ∀ y, pc 16 y = pc (8 + 8) y from fun _ => rfl, pc_split]
    rw [show (2 : Nat) ^ 8 = 256 from rfl, Nat.mod_eq_of_lt (a := x / 256 / 256 / 256 / 256 / 256 / 256 / 256) (by omega)]
  rw [e64]
  simp only [lan]
  have p0 := pc_le 8 (x % 256)
  have p1 := pc_le 8 (x / 256 % 256)
  have p2 := pc_le 8 (x / 256 / 256 % 256)
  have p3 := pc_le 8 (x / 256 / 256 / 256 % 256)
  have p4 := pc_le 8 (x / 256 / 256 / 256 / 256 % 256)
  have p5 := pc_le 8 (x / 256 / 256 / 256 / 256 / 256 % 256)
  have p6 := pc_le 8 (x / 256 / 256 / 256 / 256 / 256 / 256 % 256)
  have p7 := pc_le 8 (x / 256 / 256 / 256 / 256 / 256 / 256 / 256 % 256)
  generalize pc 8 (x % 256) = q0 at *
  generalize pc 8 (x / 256 % 256) = q1 at *
  generalize pc 8 (x / 256 / 256 % 256) = q2 at *
  generalize pc 8 (x / 256 / 256 / 256 % 256) = q3 at *
  generalize pc 8 (x / 256 / 256 / 256 / 256 % 256) = q4 at *
  generalize pc 8 (x / 256 / 256 / 256 / 256 / 256 % 256) = q5 at *
  generalize pc 8 (x / 256 / 256 / 256 / 256 / 256 / 256 % 256) = q6 at *
  generalize pc 8 (x / 256 / 256 / 256 / 256 / 256 / 256 / 256 % 256) = q7 at *
  clear e64 hx
  exact lan_end p0 p1 p2 p3 p4 p5 p6 p7 rfl rfl rfl

theorem wadd64 {a b : Nat} (h : a + b < 2 ^ 64) : IntKind.u64.wrap ((a : Int) + (b : Int)) = ((a + b : Nat) : Int) := by
  rw [← Int.natCast_add, wrap_u64' h]
theorem shr64_1 (a : Nat) : Int.fdiv (a : Int) (2 ^ (Nat.min 1 IntKind.u64.bits)) = ((a / 2 : Nat) : Int) := shr64 a (b := 1)
theorem shr64_2 (a : Nat) : Int.fdiv (a : Int) (2 ^ (Nat.min 2 IntKind.u64.bits)) = ((a / 4 : Nat) : Int) := shr64 a (b := 2)
theorem shr64_4 (a : Nat) : Int.fdiv (a : Int) (2 ^ (Nat.min 4 IntKind.u64.bits)) = ((a / 16 : Nat) : Int) := shr64 a (b := 4)
theorem shr64_8 (a : Nat) : Int.fdiv (a : Int) (2 ^ (Nat.min 8 IntKind.u64.bits)) = ((a / 256 : Nat) : Int) := shr64 a (b := 8)
theorem shr64_16 (a : Nat) : Int.fdiv (a : Int) (2 ^ (Nat.min 16 IntKind.u64.bits)) = ((a / 65536 : Nat) : Int) := shr64 a (b := 16)
theorem shr64_32 (a : Nat) : Int.fdiv (a : Int) (2 ^ (Nat.min 32 IntKind.u64.bits)) = ((a / 4294967296 : Nat) : Int) := shr64 a (b := 32)
theorem shr64_58 (a : Nat) : Int.fdiv (a : Int) (2 ^ (Nat.min 58 IntKind.u64.bits)) = ((a / 288230376151711744 : Nat) : Int) := shr64 a (b := 58)
theorem band127 {n : Nat} (h : n < 2 ^ 62) : bitOp .and .i64 (n : Int) 127 = ((n % 128 : Nat) : Int) := by
  show IntKind.i64.wrap (((BitVec.ofInt 64 ((n : Nat) : Int) &&& BitVec.ofInt 64 ((127 : Nat) : Int)).toNat : Nat) : Int) = _
  rw [BitVec.ofInt_natCast, BitVec.ofInt_natCast, BitVec.toNat_and, BitVec.toNat_ofNat, BitVec.toNat_ofNat, Nat.mod_eq_of_lt (a := n) (by omega), Nat.mod_eq_of_lt (a := 127) (by decide), show 127 = 2 ^ 7 - 1 from rfl, Nat.and_two_pow_sub_one_eq_mod]
  have := Nat.mod_lt n (show 0 < 2 ^ 7 by decide)
  exact wrap64 (by omega) (by omega)

end Go.MW

/- Slices of elements of one kind: a list of data stands for them. -/
namespace Go.MW
open Go
set_option linter.unusedVariables false
set_option linter.unusedSimpArgs false

/-- How elements are laid. 'im': they lead to memory that nothing writes. -/
structure El (α : Type) where
  sz : Nat
  f : α → V
  d : α
  im : Bool
  good : ∀ a, Good sz (f a)
  free : ∀ a j, j < sz → Free im ((f a).cells.getD j .junk)

section
variable {α : Type} {e : El α}

def El.vs (e : El α) (l : List α) : List V := l.map e.f
theorem El.vs_nil : e.vs [] = [] := rfl
theorem El.vs_cons (a : α) (l : List α) : e.vs (a :: l) = e.f a :: e.vs l := rfl
theorem El.vs_length (l : List α) : (e.vs l).length = l.length := by simp [El.vs]
theorem El.vs_getD {l : List α} {i : Nat} (h : i < l.length) : (e.vs l).getD i .junk = e.f (l.getD i e.d) := by simp [El.vs, List.getD_eq_getElem?_getD, h]
theorem El.vs_take (l : List α) (n : Nat) : (e.vs l).take n = e.vs (l.take n) := by simp [El.vs]
theorem El.vs_drop (l : List α) (n : Nat) : (e.vs l).drop n = e.vs (l.drop n) := by simp [El.vs]
theorem El.vs_append (l m : List α) : e.vs l ++ e.vs m = e.vs (l ++ m) := by simp [El.vs]
theorem El.vs_set (l : List α) (i : Nat) (a : α) : (e.vs l).set i (e.f a) = e.vs (l.set i a) := by simp [El.vs, List.map_set]
theorem El.vs_goods (l : List α) : Goods e.sz (e.vs l) := by
  intro y hy
  simp only [El.vs, List.mem_map] at hy
  obtain ⟨a, _, rfl⟩ := hy
  exact e.good a
theorem El.vs_eq_nil {l : List α} : e.vs l = [] ↔ l = [] := by simp [El.vs]
theorem El.vs_cells (l : List α) {n : Nat} (hn : n = e.sz) : (∀ y ∈ e.vs l, y.cells.length = n) = True := by
  subst hn
  exact eq_true fun y hy => (El.vs_goods l y hy).1
theorem El.vs_free {im : Bool} (l : List α) (hm : e.im = true → im = true) : ∀ i j, i < (e.vs l).length → j < ((e.vs l).getD i .junk).cells.length → Free im (((e.vs l).getD i .junk).cells.getD j .junk) := by
  intro i j hi hj
  rw [El.vs_length] at hi
  rw [El.vs_getD hi] at hj ⊢
  rw [(e.good _).1] at hj
  have := e.free (l.getD i e.d) j hj
  cases hi : im with
  | true => exact this.of
  | false =>
    cases he : e.im with
    | true => rw [hm he] at hi; cases hi
    | false => rw [he] at this; exact this
theorem El.free_vs (l : List α) : Free true (.vs (e.vs l)) := .vs rfl (El.vs_free l fun _ => rfl)

/-- A slice of such elements, nil or not. -/
def IsE (e : El α) (v : V) (l : List α) : Prop := (v = .nils ∧ l = []) ∨ v = .vs (e.vs l)
theorem isE_vs (l : List α) : IsE e (.vs (e.vs l)) l := .inr rfl
theorem isE_nil : IsE e .nils ([] : List α) := .inl ⟨rfl, rfl⟩
theorem IsE.free {v : V} {l : List α} (h : IsE e v l) : Free true v := by
  rcases h with ⟨rfl, _⟩ | rfl
  · exact .nils
  · exact El.free_vs l
theorem lenK_isE {v : V} {l : List α} (h : IsE e v l) {H : List Blk} {K : V → Prop} : lenK 1 H v K = K (.int .i64 l.length) := by
  rcases h with ⟨rfl, rfl⟩ | rfl
  · rfl
  · simp only [lenK, El.vs_length]
theorem iaK_isE {v : V} {l : List α} (h : IsE e v l) {H : List Blk} {k : IntKind} {n : Int} {sz : Nat} {K : V → Prop} (hs : sz = e.sz) (h0 : 0 ≤ n) (hn : n.toNat < l.length) : iaK H sz v (.int k n) K = K (.vp (e.f (l.getD n.toNat e.d)).cells) := by
  rcases h with ⟨rfl, rfl⟩ | rfl
  · simp at hn
  · simp only [iaK, El.vs_length, El.vs_getD hn, (e.good _).1]
    simp [h0, hn, hs]
theorem elemsK_isE {v : V} {l : List α} (h : IsE e v l) {H : List Blk} {K : List V → Prop} : elemsK H v K = K (e.vs l) := by
  rcases h with ⟨rfl, rfl⟩ | rfl <;> rfl
theorem nilq_isE {v : V} {l : List α} (h : IsE e v l) {neg : Bool} {K : V → Prop} : ∃ b : Bool, nilqK neg v K = K (.bool (bif neg then !b else b)) ∧ (b = true → v = .nils ∧ l = []) := by
  rcases h with ⟨rfl, rfl⟩ | rfl
  · exact ⟨true, by cases neg <;> rfl, fun _ => ⟨rfl, rfl⟩⟩
  · exact ⟨false, by cases neg <;> rfl, fun h => by cases h⟩

theorem El.cell_free {im : Bool} (a : α) (hm : e.im = true → im = true) {j : Nat} (hj : j < e.sz) : Free im ((e.f a).cells.getD j .junk) := by
  have := e.free a j hj
  cases hi : im with
  | true => exact this.of
  | false =>
    cases he : e.im with
    | true => rw [hm he] at hi; cases hi
    | false => rw [he] at this; exact this

/-- A row of such elements, frozen. -/
theorem frz_rowE {im : Bool} {H : List Blk} {b n len : Nat} {cap : Option Nat} {l : List α} {opn frz : Bool} {sz : Nat} (hs : sz = e.sz) (hm : e.im = true → im = true) (hH : getB H b = .row sz (e.vs l) opn frz) (hn : l.length = n) (hl : len = n) : Frz im H (.hs b n 0 0 len cap sz) (.vs (e.vs l)) := by
  subst hl hn hs
  refine .hs hH (El.vs_length l) (by omega) (El.vs_length l) (fun k hk => by rw [El.vs_getD hk]; exact (e.good _).1) fun k j hk hj => ?_
  rw [Nat.zero_add, El.vs_getD hk]
  exact .free (El.cell_free _ hm hj)
theorem frz_rowX {im : Bool} {H : List Blk} {b n len : Nat} {cap : Option Nat} {xs : List V} {l : List α} {opn frz : Bool} {sz : Nat} (hs : sz = e.sz) (hm : e.im = true → im = true) (hH : getB H b = .row sz xs opn frz) (hx : xs = e.vs l) (hn : l.length = n) (hl : len = n) : Frz im H (.hs b n 0 0 len cap sz) (.vs (e.vs l)) := by
  subst hx
  exact frz_rowE hs hm hH hn hl
theorem Own.isE {im : Bool} {H : List Blk} {v : V} {l : List α} {sz : Nat} (h : Own sz H v (e.vs l)) (hs : sz = e.sz) (hm : e.im = true → im = true) : ∃ v', IsE e v' l ∧ Frz im H v v' := by
  rcases h with ⟨rfl, h⟩ | ⟨b, cap, opn, rfl, hb, _⟩
  · exact ⟨.nils, .inl ⟨rfl, El.vs_eq_nil.1 h⟩, .free .nils⟩
  · rw [El.vs_length]
    exact ⟨_, .inr rfl, frz_rowE hs hm hb rfl rfl⟩
/-- The length of a slice of one's own. -/
theorem lenK_own {sz : Nat} {H H' : List Blk} {v : V} {xs : List V} (h : Own sz H v xs) {K : V → Prop} : lenK 1 H' v K = K (.int .i64 xs.length) := by
  rcases h with ⟨rfl, rfl⟩ | ⟨b, cap, opn, rfl, hb, _⟩ <;> rfl
end

theorem callvK_of {P : Program} {G : Nat → Option (List V)} {q : Bool} {f : Nat} {first cap args : List V} {H : List Blk} {K : V → List Blk → Prop} (h : (P.funcs[f]?).any (fun fn => fn.body.isSome && fn.name != "runtime.NumGoroutine") = true) :
    callvK P G q (.fn (.func f) first cap) args H K = callK P G q f (first ++ args ++ cap) H K := by
  simp only [callvK, h, true_and]

theorem callK_sim {P : Program} {G : Nat → Option (List V)} {f : Nat} {args : List V} {H H' : List Blk} {K : V → List Blk → Prop} {r : V} (h : Sim P G f args H r H') (hk : K r H') : callK P G false f args H K := by
  unfold callK
  exact ⟨r, H', h, hk⟩

theorem frz_tup3 {im : Bool} {H : List Blk} {a b c a' b' c' : V} (h : Frz im H a a') (h' : Frz im H b b') (h'' : Frz im H c c') : Frz im H (.tup [a, b, c]) (.tup [a', b', c']) := by
  refine .tup rfl fun i hi => ?_
  have : i = 0 ∨ i = 1 ∨ i = 2 := by simp at hi; omega
  rcases this with rfl | rfl | rfl
  · exact h
  · exact h'
  · exact h''
theorem free_agg2 {im : Bool} {a b : V} (h : Free im a) (h' : Free im b) : Free im (.agg [a, b]) := by
  refine .agg fun i hi => ?_
  have : i = 0 ∨ i = 1 := by simp at hi; omega
  rcases this with rfl | rfl
  · exact h
  · exact h'

end Go.MW

/- Arguments: slices of structs; variables that the row lists. -/
namespace Go.MW
open Go Go.RowKit Go.ChangeShapes Go.WideShapes Go.ChangeAt
set_option linter.unusedVariables false
set_option linter.unusedSimpArgs false

section
variable {P : Program} {M : Nat}

theorem typN_int {n : Nat} {t : TypeId} {k : IntKind} {vs : List V} (hu : P.underlying t = some (.int k)) (h : TypN P M n t vs) : ∃ m : Int, vs = [.int k m] ∧ k.min ≤ m ∧ m ≤ k.max := by
  cases n with
  | zero => exact h.elim
  | succ n =>
    simp only [TypN, hu] at h
    obtain ⟨m, rfl, hw⟩ := h
    exact ⟨m, rfl, by simpa [Lit.wf] using hw⟩
theorem typN_bool {n : Nat} {t : TypeId} {vs : List V} (hu : P.underlying t = some .bool) (h : TypN P M n t vs) : ∃ b, vs = [.bool b] := by
  cases n with
  | zero => exact h.elim
  | succ n => simpa only [TypN, hu] using h
theorem typN_str {n : Nat} {t : TypeId} {vs : List V} (hu : P.underlying t = some .string) (h : TypN P M n t vs) : ∃ s, vs = [.str s] ∧ s.length ≤ M := by
  cases n with
  | zero => exact h.elim
  | succ n => simpa only [TypN, hu] using h
theorem typN_fs {n : Nat} {t : TypeId} {fs : Array Field} {vs : List V} (hu : P.underlying t = some (.struct fs)) (h : TypN P M n t vs) : ∃ m, TypFs (TypN P M m) fs.toList vs := by
  cases n with
  | zero => exact h.elim
  | succ n => exact ⟨n, by simpa only [TypN, hu] using h⟩
theorem typFs_cons {p : TypeId → List V → Prop} {f : Field} {fs : List Field} {vs : List V} (h : TypFs p (f :: fs) vs) : ∃ a b, vs = a ++ b ∧ p f.type a ∧ TypFs p fs b := h
theorem typFs_nil {p : TypeId → List V → Prop} {vs : List V} (h : TypFs p [] vs) : vs = [] := h

/-- A slice of elements of one kind. -/
theorem typN_list {α : Type} {e : El α} {Q : α → Prop} {n : Nat} {t te : TypeId} {vs : List V} (hu : P.underlying t = some (.slice te)) (hel : ∀ m cs, TypN P M m te cs → ∃ a, mkV P te cs = e.f a ∧ Q a) (h : TypN P M n t vs) :
    ∃ v l, vs = [v] ∧ IsE e v l ∧ (∀ a ∈ l, Q a) ∧ l.length ≤ M := by
  cases n with
  | zero => exact h.elim
  | succ n =>
    simp only [TypN, hu] at h
    rcases h with rfl | ⟨xs, rfl, hl, hx⟩
    · exact ⟨_, [], rfl, isE_nil, by simp, by simp⟩
    · have : ∃ l : List α, xs = e.vs l ∧ ∀ a ∈ l, Q a := by
        clear hl
        induction xs with
        | nil => exact ⟨[], rfl, by simp⟩
        | cons x xs ih =>
          obtain ⟨l, rfl, hl⟩ := ih fun y hy => hx y (by simp [hy])
          obtain ⟨cs, hxe, hc⟩ := hx x (by simp)
          obtain ⟨a, ha, hq⟩ := hel n cs hc
          rw [hxe, ha]
          refine ⟨a :: l, rfl, fun b hb => ?_⟩
          rcases List.mem_cons.1 hb with rfl | hb
          · exact hq
          · exact hl b hb
      obtain ⟨l, rfl, hq⟩ := this
      exact ⟨_, l, rfl, isE_vs l, hq, by simpa [El.vs_length] using hl⟩

theorem typ_list {α : Type} {e : El α} {Q : α → Prop} {t te : TypeId} {v : V} (hu : P.underlying t = some (.slice te)) (hel : ∀ m cs, TypN P M m te cs → ∃ a, mkV P te cs = e.f a ∧ Q a) (h : Typ P M t v) : ∃ l, IsE e v l ∧ (∀ a ∈ l, Q a) ∧ l.length ≤ M := by
  obtain ⟨n, cs, rfl, h⟩ := h
  obtain ⟨v, l, rfl, h1, h2, h3⟩ := typN_list hu hel h
  have : mkV P t [v] = v := by simp [mkV, hu]
  rw [this]
  exact ⟨l, h1, h2, h3⟩

theorem typ_struct {t : TypeId} {fs : Array Field} {v : V} (hu : P.underlying t = some (.struct fs)) (h : Typ P M t v) : ∃ m vs, v = .agg vs ∧ TypFs (TypN P M m) fs.toList vs := by
  obtain ⟨n, cs, rfl, h⟩ := h
  obtain ⟨m, h⟩ := typN_fs hu h
  exact ⟨m, cs, by simp [mkV, hu], h⟩

theorem u64_nat {m : Int} (h : IntKind.u64.min ≤ m ∧ m ≤ IntKind.u64.max) : ∃ n : Nat, m = n ∧ n < 2 ^ 64 := by
  simp [IntKind.min, IntKind.max, IntKind.signed, IntKind.bits] at h
  exact ⟨m.toNat, by omega, by omega⟩
theorem u8_nat {m : Int} (h : IntKind.u8.min ≤ m ∧ m ≤ IntKind.u8.max) : ∃ n : Nat, m = n ∧ n < 256 := by
  simp [IntKind.min, IntKind.max, IntKind.signed, IntKind.bits] at h
  exact ⟨m.toNat, by omega, by omega⟩

/-- A variable that holds an array of numbers, as the row lists it. -/
theorem glob_ints {w : World} {nm : String} {g n fuel : Nat} {k : IntKind} {t e : TypeId} {cs : Array Value} {vals : List Int} {sp : Nat → Bool} {p : List MemPlace} (hg : P.globalNamed nm = some g) (hv : w.var? P nm = some cs)
    (ht : P.underlying t = some (.array n e)) (he : P.underlying e = some (.int k)) (hc : P.cellsOf e = 1) (hd : DataW.trod (fun _ => ()) P w 0 sp false fuel t cs.toList = some (.agg (vals.map fun v => .lit (.int k v)), p)) :
    g < w.heap.size ∧ ∀ j, j < vals.length → w.cell? ⟨g, j, none⟩ = some (.int k (vals.getD j 0)) := by
  have hlt : g < w.heap.size := by
    unfold World.var? at hv
    rw [hg, Option.bind_some] at hv
    rcases Nat.lt_or_ge g w.heap.size with h | h
    · exact h
    · rw [Array.getElem?_eq_none h] at hv; simp at hv
  refine ⟨hlt, fun j hj => ?_⟩
  obtain ⟨xs, m, rfl, hx, hlen, hn, hel⟩ := DataW.trod_array ht hd
  simp only [Prod.mk.injEq, DataW.agg.injEq] at hx
  have hl : vals.length = xs.length := by
    have := congrArg List.length hx.1
    simpa using this
  have hj' : j < n := by omega
  have h1 := hel j hj'
  rw [hc, Nat.mul_one, List.getElem?_eq_getElem (by omega)] at h1
  obtain ⟨m', e1, e2, _⟩ := DataW.trod_int he h1
  have h2 : (xs.map (·.1))[j]? = some (.lit (.int k (vals.getD j 0))) := by
    rw [← hx.1]
    simp [List.getD_eq_getElem?_getD, hj]
  rw [List.getElem?_map, List.getElem?_eq_getElem (show j < xs.length by omega), e2] at h2
  simp only [Option.map_some, Option.some.injEq, DataW.lit.injEq, Lit.int.injEq, true_and] at h2
  rw [World.var?_cell hg hv]
  have h3 : (cs.toList.drop j).take 1 = [.int k m'] := e1
  have h4 := congrArg (·[0]?) h3
  simp only [List.getElem?_take, List.getElem?_drop] at h4
  rw [← h2]
  simpa using h4
end

end Go.MW

/- Slices of one's own, more than one: what an append leaves as it was; parts of them. -/
namespace Go.MW
open Go
set_option linter.unusedVariables false
set_option linter.unusedSimpArgs false

/-- Does a value lie in a block? -/
def hasB : V → Nat → Prop
  | .hs c _ _ _ _ _ _, b => c = b
  | _, _ => False
def Sep (v w : V) : Prop := ∀ b, hasB v b → ¬ hasB w b
theorem Sep.symm {v w : V} (h : Sep v w) : Sep w v := fun b h1 h2 => h b h2 h1
/-- The blocks are as they were, and there may be more. -/
def Keeps (H H' : List Blk) : Prop := H.length ≤ H'.length ∧ ∀ c, c < H.length → getB H' c = getB H c
/-- The same, but for one's. -/
def KeepsBut (v : V) (H H' : List Blk) : Prop := H.length ≤ H'.length ∧ ∀ c, c < H.length → ¬ hasB v c → getB H' c = getB H c
theorem Keeps.refl (H : List Blk) : Keeps H H := ⟨Nat.le_refl _, fun _ _ => rfl⟩
theorem Keeps.trans {H H' H'' : List Blk} (h : Keeps H H') (k : Keeps H' H'') : Keeps H H'' := ⟨Nat.le_trans h.1 k.1, fun c hc => by rw [k.2 c (Nat.lt_of_lt_of_le hc h.1), h.2 c hc]⟩
theorem Keeps.app (H T : List Blk) : Keeps H (H ++ T) := ⟨by simp, fun c hc => getB_app' hc⟩
theorem Keeps.but {H H' : List Blk} (h : Keeps H H') (v : V) : KeepsBut v H H' := ⟨h.1, fun c hc _ => h.2 c hc⟩
theorem KeepsBut.fresh {v : V} {H0 H H' : List Blk} (h0 : Keeps H0 H) (h : KeepsBut v H H') (hv : ∀ b, hasB v b → H0.length ≤ b) : Keeps H0 H' :=
  ⟨Nat.le_trans h0.1 h.1, fun c hc => by rw [h.2 c (Nat.lt_of_lt_of_le hc h0.1) fun hb => by have := hv c hb; omega, h0.2 c hc]⟩
theorem Keeps.set {H0 H : List Blk} (h : Keeps H0 H) {b : Nat} (k : Blk) (hb : H0.length ≤ b) : Keeps H0 (H.set b k) :=
  ⟨by simpa using h.1, fun c hc => by rw [getB_set_ne _ (by omega), h.2 c hc]⟩

theorem Own.lt {sz : Nat} {H : List Blk} {v : V} {xs : List V} (h : Own sz H v xs) {b : Nat} (hb : hasB v b) : b < H.length := by
  rcases h with ⟨rfl, _⟩ | ⟨c, cap, opn, rfl, hc, _⟩
  · exact hb.elim
  · obtain rfl : c = b := hb
    exact getB_lt' hc
theorem Own.but {sz : Nat} {H H' : List Blk} {v w : V} {ys : List V} (h : Own sz H w ys) (k : KeepsBut v H H') (hs : Sep v w) : Own sz H' w ys := by
  rcases h with h | ⟨c, cap, opn, rfl, hc, h3⟩
  · exact .inl h
  · exact .inr ⟨c, cap, opn, rfl, by rw [k.2 c (getB_lt' hc) fun hb => hs c hb rfl]; exact hc, h3⟩
theorem Own.keep {sz : Nat} {H H' : List Blk} {w : V} {ys : List V} (h : Own sz H w ys) (k : Keeps H H') : Own sz H' w ys := by
  rcases h with h | ⟨c, cap, opn, rfl, hc, h3⟩
  · exact .inl h
  · exact .inr ⟨c, cap, opn, rfl, by rw [k.2 c (getB_lt' hc)]; exact hc, h3⟩

/-- Appending to a slice of one's own: what is told of the heap, and of the new one. -/
theorem Own.appS {sz by_ : Nat} {H : List Blk} {v : V} {xs ys : List V} {K : V → List Blk → Prop} (h : Own sz H v xs) (hx : Goods sz xs) (hy : Goods sz ys) (hr : roomy (xs.length + ys.length) by_)
    (hk : ∀ v' H', Own sz H' v' (xs ++ ys) → KeepsBut v H H' → (∀ b, hasB v' b → hasB v b ∨ H.length ≤ b) → K v' H') : appK sz by_ v ys H K := by
  have new : ∀ (u : V) (k : Blk), KeepsBut u H (H ++ [k]) := fun u k => (Keeps.app H [k]).but u
  rcases h with ⟨rfl, rfl⟩ | ⟨b, cap, opn, rfl, hb, hc⟩
  · rw [eq_app1]
    refine ⟨hy, ?_⟩
    split
    · rename_i h0
      subst h0
      exact hk _ _ (Own.nil _ _) ((Keeps.refl H).but _) fun b hb => hb.elim
    · exact ⟨by simpa using hr, hk _ _ (Own.hs (by simp) (getB_new _ _) (.inl rfl)) (new _ _) fun b hb => .inr (Nat.le_of_eq hb)⟩
  · have hset : ∀ k : Blk, KeepsBut (.hs b xs.length 0 0 xs.length cap sz) H (H.set b k) := fun k => ⟨by simp, fun c hc hn => getB_set_ne _ fun e => hn e⟩
    rcases hc with rfl | rfl
    · rw [eq_app4]
      refine ⟨hy, rfl, rfl, ?_⟩
      rw [hb]
      refine ⟨rfl, rfl, by omega, hx, ?_⟩
      split
      · rename_i h0
        have : ys = [] := List.length_eq_zero_iff.1 (by omega)
        subst this
        refine ⟨rfl, hk _ _ (.inr ⟨b, none, opn, by simp, ?_, .inl rfl⟩) (hset _) fun c hc => .inl hc⟩
        rw [getB_set _ (getB_lt' hb)]
        simp
      · refine ⟨rfl, rfl, hr, hk _ _ (.inr ⟨b, none, true, by simp, ?_, .inl rfl⟩) (hset _) fun c hc => .inl hc⟩
        rw [getB_set _ (getB_lt' hb), List.take_length]
    · rw [eq_app3]
      refine ⟨hy, rfl, rfl, ?_⟩
      rw [hb]
      refine ⟨rfl, rfl, by omega, hx, ?_⟩
      split
      · rename_i h0
        have : ys = [] := List.length_eq_zero_iff.1 (by omega)
        subst this
        refine ⟨by omega, rfl, hk _ _ (.inr ⟨b, some xs.length, opn, by simp, ?_, .inr (by simp)⟩) (hset _) fun c hc => .inl hc⟩
        rw [getB_set _ (getB_lt' hb)]
        simp
      · refine ⟨hr, hk _ _ (Own.hs (by simp) (by rw [getB_new, List.drop_zero, List.take_length]) (.inl rfl)) (new _ _) fun c hc => .inr (Nat.le_of_eq hc)⟩

theorem getB_plus (H T : List Blk) (k : Nat) : getB (H ++ T) (H.length + k) = getB T k := by
  simp [getB, List.getD_eq_getElem?_getD, List.getElem?_append_right]
theorem getB_plus0 (H T : List Blk) : getB (H ++ T) H.length = getB T 0 := getB_plus H T 0
theorem set_plus (H T : List Blk) (k : Nat) (x : Blk) : (H ++ T).set (H.length + k) x = H ++ T.set k x := by
  rw [List.set_append_right _ _ (by omega), Nat.add_sub_cancel_left]
theorem set_plus0 (H T : List Blk) (x : Blk) : (H ++ T).set H.length x = H ++ T.set 0 x := set_plus H T 0 x

/-- Two of one's own. -/
structure Own2 (s1 s2 : Nat) (H : List Blk) (v : V) (xs : List V) (w : V) (ys : List V) : Prop where
  a : Own s1 H v xs
  b : Own s2 H w ys
  sep : Sep v w
section
variable {s1 s2 by_ : Nat} {H H' : List Blk} {v w : V} {xs ys zs : List V} {K : V → List Blk → Prop}
theorem Own2.symm (h : Own2 s1 s2 H v xs w ys) : Own2 s2 s1 H w ys v xs := ⟨h.b, h.a, h.sep.symm⟩
theorem Own2.nil (s1 s2 : Nat) (H : List Blk) : Own2 s1 s2 H .nils [] .nils [] := ⟨.nil _ _, .nil _ _, fun b h => h.elim⟩
theorem Own2.keep (h : Own2 s1 s2 H v xs w ys) (k : Keeps H H') : Own2 s1 s2 H' v xs w ys := ⟨h.a.keep k, h.b.keep k, h.sep⟩
theorem Own2.app (h : Own2 s1 s2 H v xs w ys) (hx : Goods s1 xs) (hz : Goods s1 zs) (hr : roomy (xs.length + zs.length) by_) (hk : ∀ v' H', Own2 s1 s2 H' v' (xs ++ zs) w ys → KeepsBut v H H' → K v' H') : appK s1 by_ v zs H K :=
  h.a.appS hx hz hr fun v' H' h1 h2 h3 => hk v' H' ⟨h1, h.b.but h2 h.sep, fun b hb hw => by
    rcases h3 b hb with h4 | h4
    · exact h.sep b h4 hw
    · have := h.b.lt hw; omega⟩ h2
/-- One of them is put in the place of a new one. -/
theorem Own2.put {v' : V} {xs' : List V} (h : Own2 s1 s2 H v xs w ys) (k : Keeps H H') (h' : Own s1 H' v' xs') (hf : ∀ b, hasB v' b → H.length ≤ b) : Own2 s1 s2 H' v' xs' w ys :=
  ⟨h', h.b.keep k, fun b hb hw => by have := hf b hb; have := h.b.lt hw; omega⟩
end

/-- The part of a slice below a place, and from a place on. -/
def cutLo (k : Nat) : V → V
  | .hs b n i j _ cap sz => .hs b n i j k cap sz
  | v => v
def cutHi (l : Nat) : V → V
  | .hs b n i j len cap sz => if l = 0 then .hs b n i j len cap sz else if l = len then .vs [] else .hs b n (i + l) j (len - l) (cap.map (· - l)) sz
  | v => v
section
variable {sz : Nat} {H H' : List Blk} {v : V} {xs : List V} {k : Nat} {K : V → Prop}
theorem own_lo (h : Own sz H v xs) (hx : k ≤ xs.length) {kd : IntKind} (hk : Keeps H H') : slK H' sz v none (some (.int kd k)) none K = K (cutLo k v) := by
  rcases h with ⟨rfl, rfl⟩ | ⟨b, cap, opn, rfl, hb, hc⟩
  · obtain rfl : k = 0 := by simpa using hx
    simp [slK, bnd, cutLo]
  · have hb' : getB H' b = .row sz xs opn false := by rw [hk.2 b (getB_lt' hb)]; exact hb
    rcases hc with rfl | rfl
    · simp [slK, bnd, cutLo, slHK, hb', hx]
    · simp [slK, bnd, cutLo, slHK, hb', hx]
theorem own_hi (h : Own sz H v xs) (hx : k ≤ xs.length) {kd : IntKind} (hk : Keeps H H') : slK H' sz v (some (.int kd k)) none none K = K (cutHi k v) := by
  rcases h with ⟨rfl, rfl⟩ | ⟨b, cap, opn, rfl, hb, hc⟩
  · obtain rfl : k = 0 := by simpa using hx
    simp [slK, bnd, cutHi]
  · have hb' : getB H' b = .row sz xs opn false := by rw [hk.2 b (getB_lt' hb)]; exact hb
    by_cases h0 : k = 0
    · subst h0
      rcases hc with rfl | rfl <;> simp [slK, bnd, cutHi, slHK, hb']
    · by_cases h1 : k = xs.length
      · subst h1
        rcases hc with rfl | rfl <;> simp [slK, bnd, cutHi, slHK, hb', h0]
      · rcases hc with rfl | rfl <;> simp [slK, bnd, cutHi, slHK, hb', h0, h1, hx]
theorem els_lo (h : Own sz H v xs) (hx : k ≤ xs.length) (hk : Keeps H H') {C : List V → Prop} : elemsK H' (cutLo k v) C = C (xs.take k) := by
  rcases h with ⟨rfl, rfl⟩ | ⟨b, cap, opn, rfl, hb, hc⟩
  · simp [cutLo, elemsK]
  · have hb' : getB H' b = .row sz xs opn false := by rw [hk.2 b (getB_lt' hb)]; exact hb
    simp [cutLo, elemsK, hb', hx]
theorem els_hi (h : Own sz H v xs) (hx : k ≤ xs.length) (hk : Keeps H H') {C : List V → Prop} : elemsK H' (cutHi k v) C = C (xs.drop k) := by
  rcases h with ⟨rfl, rfl⟩ | ⟨b, cap, opn, rfl, hb, hc⟩
  · simp [cutHi, elemsK]
  · have hb' : getB H' b = .row sz xs opn false := by rw [hk.2 b (getB_lt' hb)]; exact hb
    by_cases h0 : k = 0
    · subst h0
      simp [cutHi, elemsK, hb']
    · by_cases h1 : k = xs.length
      · subst h1
        simp [cutHi, elemsK, h0]
      · have e : k + (xs.length - k) = xs.length := by omega
        have e2 : (xs.drop k).take (xs.length - k) = xs.drop k := List.take_of_length_le (by simp)
        simp [cutHi, elemsK, hb', h0, h1, e, e2]
/-- All of its elements. -/
theorem els_own (h : Own sz H v xs) (hk : Keeps H H') {C : List V → Prop} : elemsK H' v C = C xs := by
  rcases h with ⟨rfl, rfl⟩ | ⟨b, cap, opn, rfl, hb, hc⟩
  · rfl
  · have hb' : getB H' b = .row sz xs opn false := by rw [hk.2 b (getB_lt' hb)]; exact hb
    simp [elemsK, hb']
/-- An element's address, and the element. -/
def elP (n : Nat) : V → V
  | .hs b m i j _ _ _ => .ptr b m (i + n) j
  | v => v
theorem own_ia (h : Own sz H v xs) {n : Int} (h0 : 0 ≤ n) (hn : n.toNat < xs.length) {kd : IntKind} : iaK H sz v (.int kd n) K = K (elP n.toNat v) := by
  rcases h with ⟨rfl, rfl⟩ | ⟨b, cap, opn, rfl, hb, hc⟩
  · simp at hn
  · simp [iaK, elP, hb, h0, hn]
theorem own_ld (h : Own sz H v xs) {n : Nat} (hn : n < xs.length) {m : Nat} (hm : m = sz) {K : V → List Blk → Prop} : ldK (some m) (elP n v) H K = K (.agg (xs.getD n .junk).cells) H := by
  subst hm
  rcases h with ⟨rfl, rfl⟩ | ⟨b, cap, opn, rfl, hb, hc⟩
  · simp at hn
  · simp [ldK, elP, hb, hn, sub]
theorem own_ld1 (h : Own 1 H v xs) {n : Nat} (hn : n < xs.length) {K : V → List Blk → Prop} : ldK none (elP n v) H K = K ((xs.getD n .junk).cells.getD 0 .junk) H := by
  rcases h with ⟨rfl, rfl⟩ | ⟨b, cap, opn, rfl, hb, hc⟩
  · simp at hn
  · simp [ldK, elP, hb, hn]
end

/-- Numbers as elements. -/
def intE : El Int where
  sz := 1
  f n := .int .i64 n
  d := 0
  im := false
  good n := ⟨rfl, by simp [V.cells, V.one]⟩
  free n j hj := by obtain rfl : j = 0 := by omega
                    exact .int _ _
theorem intE_ints (l : List Int) : intE.vs l = ints l := rfl

end Go.MW

/- Texts as elements. -/
namespace Go.MW
open Go Go.RowKit

/-- Texts as elements. -/
def strE : El (List UInt8) where
  sz := 1
  f s := .str s
  d := []
  im := false
  good n := ⟨rfl, by simp [V.cells, V.one]⟩
  free n j hj := by obtain rfl : j = 0 := by omega
                    exact .str _
theorem iaK_str {v : V} {l : List (List UInt8)} (h : IsE strE v l) {H : List Blk} {k : IntKind} {n : Int} {K : V → Prop} (h0 : 0 ≤ n) (hn : n.toNat < l.length) : iaK H 1 v (.int k n) K = K (.vp [.str (l.getD n.toNat [])]) :=
  iaK_isE h (e := strE) rfl h0 hn

end Go.MW

/- A library's sort of texts that is known by its contract on the model's own memory: what it does to a row of the abstract heap. -/
namespace Go.MW
open Go Go.RowKit Go.Sort Go.Proofs
set_option linter.unusedVariables false
set_option linter.unusedSimpArgs false

/-- Texts in their order. -/
def srt (ss : List (List UInt8)) : List (List UInt8) := ss.mergeSort fun x y => decide (x ≤ y)
theorem srt_perm (ss : List (List UInt8)) : (srt ss).Perm ss := List.mergeSort_perm _ _
theorem srt_length (ss : List (List UInt8)) : (srt ss).length = ss.length := (srt_perm ss).length_eq

/-- The contract: a slice into a block. -/
def Sorts (P : Program) (f : Nat) : Prop := ∀ (blk off cap : Nat) (ss : List (List UInt8)) (w : World), Holds encStr w blk off ss.toArray → blk < w.heap.size → ss.length < 4611686018427387904 →
  Calls P f #[.slice (some ⟨blk, off, none⟩) ss.length cap] w fun e w' => e = .returned (.tuple #[]) ∧ ∃ n os, w' = grow (putRow encStr (Sort.ahead w n) blk off (ss.mergeSort fun x y => decide (x ≤ y)).toArray) os

section
variable {P : Program} {G : Nat → Option (List V)}

theorem sort_sim {f : Nat} (hc : Sorts P f) {H : List Blk} {b n : Nat} {cap : Option Nat} {ss : List (List UInt8)} {opn : Bool} (hH : getB H b = .row 1 (strE.vs ss) opn false) (hn : n = ss.length) (hl : ss.length < 4611686018427387904) :
    Sim P G f [.hs b n 0 0 n cap 1] H (.tup []) (H.set b (.row 1 (strE.vs (srt ss)) opn false)) := by
  subst hn
  intro B Φ Z w rargs hrel ha
  have hlen : (strE.vs ss).length = ss.length := El.vs_length ss
  have ha0 := ha.2 0 (by simp)
  obtain ⟨p, rcap, hp, ok, hr, hcap, _⟩ := hs_inv hrel ha0 hH hlen
  obtain rfl : rargs = #[.slice (some ⟨p.rb, 0, none⟩) ss.length rcap] := by
    have h1 := ha.1
    simp only [List.length_cons, List.length_nil] at h1
    apply Array.ext
    · simpa using h1
    · intro i h2 h3
      obtain rfl : i = 0 := by simp at h3; omega
      have : rargs.getD 0 undef = rargs[0] := by simp [Array.getD_eq_getD_getElem?, Array.getElem?_eq_getElem h2]
      rw [← this, hr]
      rfl
  obtain ⟨c, t, fz, hcb, hfz, hsz, hle, hop, hcv⟩ := ok.row
  have hlt : p.rb < w.heap.size := (Array.getElem?_eq_some_iff.1 hcb).1
  rw [hlen] at hle hop hcv
  have hcs : ∀ j, j < ss.length → c.getD j undef = encStr (ss.getD j []) := fun j hj => by
    have := hcv j 0 hj (by omega)
    rw [El.vs_getD (e := strE) hj] at this
    have h2 : VR Φ Z w (.str (ss.getD j [])) (c.getD (j * 1 + 0) undef) := this
    rw [Nat.mul_one, Nat.add_zero] at h2
    exact h2.str_inv
  have hget : ∀ (l : List (List UInt8)) j, j < l.length → l.toArray[j]! = l.getD j [] := fun l j hj => by
    rw [getElem!_pos _ _ (by simpa using hj), List.getD_eq_getElem?_getD, List.getElem?_eq_getElem hj]
    simp
  have hholds : Holds encStr w p.rb 0 ss.toArray := by
    intro j hj
    have hj' : j < ss.length := by simpa using hj
    rw [Nat.zero_add]
    refine ⟨?_, frozen_of hcb hfz (by omega)⟩
    rw [cell_getD hcb (by omega), hcs j hj', hget ss j hj']
  refine (hc p.rb 0 rcap ss w hholds hlt hl).mono ?_
  rintro e w' ⟨rfl, m, os, rfl⟩
  have hmod : ∀ r, r < w.heap.size → (grow (putRow encStr (Sort.ahead w m) p.rb 0 (srt ss).toArray) os).heap[r]? = if r = p.rb then some (.cells (putCells encStr 0 (srt ss).toArray c) t fz) else w.heap[r]? := fun r hr => by
    simp only [grow, putRow, mapBlock, Sort.ahead]
    rw [Array.getElem?_append_left (by simpa using hr), Array.getElem?_modify]
    by_cases h : r = p.rb
    · subst h
      rw [if_pos rfl, if_pos rfl, hcb]
      rfl
    · rw [if_neg (Ne.symm h), if_neg h]
  have hsz' : w.heap.size ≤ (grow (putRow encStr (Sort.ahead w m) p.rb 0 (srt ss).toArray) os).heap.size := by
    rw [size_grow, size_putRow]; simp
  have := hrel.write (b := b) (k := .row 1 (strE.vs (srt ss)) opn false) (p := p) (p' := p) (w' := grow (putRow encStr (Sort.ahead w m) p.rb 0 (srt ss).toArray) os) hp (ok.z.2 rfl) (.inl rfl) (.inl rfl)
    ⟨rfl, rfl, rfl, hsz', fun k hk => by
      have := hrel.low b p hp
      rw [hmod k (by omega), if_neg (by omega)]⟩ (fun r hr hr' => by rw [hmod r hr', if_neg hr]) (fun vr => ?_)
  · exact ⟨_, _, Z, rfl, .tup _ _ rfl (by simp), this.1, this.2⟩
  · have hps : (putCells encStr 0 (srt ss).toArray c).size = c.size := by simp [putCells]
    refine ⟨by rw [ok.len, El.vs_length, El.vs_length, srt_length], ok.size, fun e he => ?_, ⟨_, t, fz, by rw [hmod _ hlt, if_pos rfl], by rw [hps]; exact hfz, by rw [hps]; exact hsz, by rw [El.vs_length, srt_length]; exact hle, by rw [El.vs_length, srt_length]; exact hop, fun e q he hq => ?_⟩, ok.z⟩
    · rw [El.vs_length] at he
      rw [El.vs_getD (e := strE) he]; rfl
    · rw [El.vs_length] at he
      obtain rfl : q = 0 := by omega
      rw [El.vs_getD (e := strE) he, Nat.mul_one, Nat.add_zero]
      have h1 : e < c.size := by rw [srt_length] at he; omega
      have h2 : (putCells encStr 0 (srt ss).toArray c).getD e undef = encStr ((srt ss).getD e []) := by
        simp only [putCells, Array.getD_eq_getD_getElem?, Array.getElem?_mapIdx, Array.getElem?_eq_getElem h1, Option.map_some, Option.getD_some]
        rw [if_pos ⟨by omega, by simpa using he⟩, Nat.sub_zero, hget _ _ he]
      rw [h2]
      exact .str _

/-- No slice at all. -/
theorem sort_nil {f : Nat} (hc : ∀ w : World, Calls P f #[.slice none 0 0] w fun e w' => e = .returned (.tuple #[]) ∧ w' = w) (H : List Blk) : Sim P G f [.nils] H (.tup []) H := by
  intro B Φ Z w rargs hrel ha
  obtain rfl : rargs = #[.slice none 0 0] := by
    have h1 := ha.1
    simp only [List.length_cons, List.length_nil] at h1
    have h0 : VR Φ Z w .nils (rargs.getD 0 undef) := ha.2 0 (by simp)
    apply Array.ext
    · simpa using h1
    · intro i h2 h3
      obtain rfl : i = 0 := by simp at h3; omega
      have : rargs.getD 0 undef = rargs[0] := by simp [Array.getD_eq_getD_getElem?, Array.getElem?_eq_getElem h2]
      rw [← this]
      generalize rargs.getD 0 undef = x at h0
      cases h0
      simp
  refine (hc w).mono ?_
  rintro e w' ⟨rfl, rfl⟩
  exact ⟨_, Φ, Z, rfl, .tup _ _ rfl (by simp), hrel, Ev.refl _ _ _ _⟩

/-- A row of one's own is sorted. -/
theorem Own.sort {f : Nat} (hc : Sorts P f) (hc0 : ∀ w : World, Calls P f #[.slice none 0 0] w fun e w' => e = .returned (.tuple #[]) ∧ w' = w) {H : List Blk} {v : V} {ss : List (List UInt8)} {K : V → List Blk → Prop} (h : Own 1 H v (strE.vs ss)) (hl : ss.length < 4611686018427387904)
    (hk : ∀ H', Own 1 H' v (strE.vs (srt ss)) → KeepsBut v H H' → K (.tup []) H') : callK P G false f [v] H K := by
  rcases h with ⟨rfl, h2⟩ | ⟨b, cap, opn, rfl, h2, h3⟩
  · have hs : ss = [] := El.vs_eq_nil.1 h2
    subst hs
    exact callK_sim (sort_nil hc0 H) (hk H (by rw [show srt [] = [] from List.mergeSort_nil]; exact .nil _ _) ⟨Nat.le_refl _, fun _ _ _ => rfl⟩)
  · rw [El.vs_length] at *
    refine callK_sim (sort_sim hc h2 rfl hl) (hk _ ?_ ⟨by simp, fun c hc hcb => getB_set_ne _ (fun e => hcb (by subst e; exact rfl))⟩)
    have := getB_set (.row 1 (strE.vs (srt ss)) opn false) (getB_lt' h2)
    refine .inr ⟨b, cap, opn, by rw [El.vs_length, srt_length], this, ?_⟩
    rw [El.vs_length, srt_length]
    exact h3

end
end Go.MW

/- Maps in the small code: rules for look-up, setting, ranging. -/
namespace Go.MW
open Go Go.RowKit
set_option linter.unusedVariables false
set_option linter.unusedSimpArgs false

/-- A map with its entries. -/
structure MapAt (H : List Blk) (b : Nat) (es : List (Nat × V × V)) (clk : Nat) : Prop where
  lt : b < H.length
  at_ : getB H b = .map es clk
  old : ∀ e ∈ es, e.1 < clk
  nd : (es.map (·.1)).Nodup

theorem MapAt.new (H : List Blk) : MapAt (H ++ [.map [] 0]) H.length [] 0 := ⟨by simp, by simp [getB, List.getD_eq_getElem?_getD], by simp, by simp⟩
theorem MapAt.app {H : List Blk} {b : Nat} {es : List (Nat × V × V)} {clk : Nat} (h : MapAt H b es clk) (T : List Blk) : MapAt (H ++ T) b es clk :=
  ⟨by rw [List.length_append]; have := h.lt; omega, by rw [← h.at_]; simp [getB, List.getD_eq_getElem?_getD, List.getElem?_append_left h.lt], h.old, h.nd⟩
theorem MapAt.set {H : List Blk} {b c : Nat} {es : List (Nat × V × V)} {clk : Nat} (h : MapAt H b es clk) (k : Blk) (hc : c ≠ b) : MapAt (H.set c k) b es clk :=
  ⟨by rw [List.length_set]; exact h.lt, by rw [← h.at_]; simp [getB, List.getD_eq_getElem?_getD, List.getElem?_set_ne hc], h.old, h.nd⟩
theorem MapAt.keep {H H' : List Blk} {b : Nat} {es : List (Nat × V × V)} {clk : Nat} (h : MapAt H b es clk) (hl : H.length ≤ H'.length) (hb : getB H' b = getB H b) : MapAt H' b es clk :=
  ⟨by have := h.lt; omega, by rw [hb, h.at_], h.old, h.nd⟩

theorem look_hit {ks : List Nat} {ok : Bool} {z k : V} {H : List Blk} {b i : Nat} {es : List (Nat × V × V)} {clk : Nat} {K : V → Prop} (h : MapAt H b es clk) (hk : keq ks k k = some true) (hf : findV ks k es 0 = some (some i)) (hK : K (if ok then .tup [(es.getD i e0V).2.2, .bool true] else (es.getD i e0V).2.2)) : lookK ks ok z (.map b) k H K := by
  unfold lookK
  refine ⟨h.lt, ?_⟩
  rw [h.at_]
  refine ⟨hk, ?_⟩
  rw [hf]
  exact hK
theorem look_miss {ks : List Nat} {ok : Bool} {z k : V} {H : List Blk} {b : Nat} {es : List (Nat × V × V)} {clk : Nat} {K : V → Prop} (h : MapAt H b es clk) (hk : keq ks k k = some true) (hf : findV ks k es 0 = some none) (hK : K (if ok then .tup [z, .bool false] else z)) : lookK ks ok z (.map b) k H K := by
  unfold lookK
  refine ⟨h.lt, ?_⟩
  rw [h.at_]
  refine ⟨hk, ?_⟩
  rw [hf]
  exact hK

theorem getB_set_self {H : List Blk} {b : Nat} (k : Blk) (h : b < H.length) : getB (H.set b k) b = k := by simp [getB, List.getD_eq_getElem?_getD, h]

theorem mset_hit {ks : List Nat} {k v : V} {H : List Blk} {b i : Nat} {es : List (Nat × V × V)} {clk : Nat} {K : V → List Blk → Prop} (h : MapAt H b es clk) (hk : keq ks k k = some true) (hf : findV ks k es 0 = some (some i))
    (hK : MapAt (H.set b (.map (es.set i ((es.getD i e0V).1, (es.getD i e0V).2.1, v)) clk)) b (es.set i ((es.getD i e0V).1, (es.getD i e0V).2.1, v)) clk → K .junk (H.set b (.map (es.set i ((es.getD i e0V).1, (es.getD i e0V).2.1, v)) clk))) : msetK ks (.map b) k v H K := by
  unfold msetK
  refine ⟨h.lt, ?_⟩
  rw [h.at_]
  refine ⟨hk, ?_⟩
  rw [hf]
  obtain ⟨_, hi, _⟩ := findV_range es 0 i hf
  simp only [Nat.zero_add] at hi
  have hm : (es.set i ((es.getD i e0V).1, (es.getD i e0V).2.1, v)).map (·.1) = es.map (·.1) := by
    rw [List.map_set]
    refine List.ext_getElem (by simp) fun j h1 h2 => ?_
    rw [List.getElem_set]
    split
    · rename_i e; subst e
      simp [List.getD_eq_getElem?_getD, hi]
    · rfl
  have hmem : ∀ n, n ∈ (es.set i ((es.getD i e0V).1, (es.getD i e0V).2.1, v)).map (·.1) → n < clk := fun n hn => by
    rw [hm] at hn
    obtain ⟨e, he, rfl⟩ := List.mem_map.1 hn
    exact h.old e he
  exact hK ⟨by rw [List.length_set]; exact h.lt, getB_set_self _ h.lt, fun e he => hmem _ (List.mem_map.2 ⟨e, he, rfl⟩), by rw [hm]; exact h.nd⟩

theorem mset_new {ks : List Nat} {k v : V} {H : List Blk} {b : Nat} {es : List (Nat × V × V)} {clk : Nat} {K : V → List Blk → Prop} (h : MapAt H b es clk) (hk : keq ks k k = some true) (hf : findV ks k es 0 = some none)
    (hK : MapAt (H.set b (.map (es ++ [(clk, k, v)]) (clk + 1))) b (es ++ [(clk, k, v)]) (clk + 1) → K .junk (H.set b (.map (es ++ [(clk, k, v)]) (clk + 1)))) : msetK ks (.map b) k v H K := by
  unfold msetK
  refine ⟨h.lt, ?_⟩
  rw [h.at_]
  refine ⟨hk, ?_⟩
  rw [hf]
  refine hK ⟨by rw [List.length_set]; exact h.lt, getB_set_self _ h.lt, fun e he => ?_, ?_⟩
  · rcases List.mem_append.1 he with he | he
    · have := h.old e he; omega
    · obtain rfl : e = (clk, k, v) := by simpa using he
      show clk < clk + 1
      omega
  · rw [List.map_append, List.nodup_append]
    refine ⟨h.nd, by simp, fun a ha c hc e => ?_⟩
    obtain ⟨x, hx, rfl⟩ := List.mem_map.1 ha
    obtain rfl : c = clk := by simpa using hc
    have := h.old x hx
    omega

theorem rng_map {H : List Blk} {b : Nat} {es : List (Nat × V × V)} {clk : Nat} {K : V → List Blk → Prop} (h : MapAt H b es clk) (hK : K (.ptr H.length 0 0 0) (H ++ [.iter b clk [] clk])) : rngK (.map b) H K := by
  unfold rngK
  refine ⟨h.lt, ?_⟩
  rw [h.at_]
  exact hK

/-- How far a range has come: the entries that came. -/
structure IterAt (H : List Blk) (q b : Nat) (es done : List (Nat × V × V)) (clk : Nat) : Prop where
  m : MapAt H b es clk
  at_ : getB H q = .iter b clk (done.map (·.1)) clk
  nd : (done.map (·.1)).Nodup
  sub : ∀ e ∈ done, e ∈ es

theorem iter_lt {H : List Blk} {q b s l : Nat} {sn : List Nat} (h : getB H q = .iter b s sn l) : q < H.length := by
  apply Classical.byContradiction
  intro hn
  unfold getB at h
  rw [List.getD_eq_getElem?_getD, List.getElem?_eq_none (by omega)] at h
  cases h

theorem IterAt.new {H : List Blk} {b : Nat} {es : List (Nat × V × V)} {clk : Nat} (h : MapAt H b es clk) : IterAt (H ++ [.iter b clk [] clk]) H.length b es [] clk :=
  ⟨h.app _, by simp [getB, List.getD_eq_getElem?_getD], by simp, by simp⟩
theorem IterAt.app {H : List Blk} {q b : Nat} {es done : List (Nat × V × V)} {clk : Nat} (h : IterAt H q b es done clk) (T : List Blk) : IterAt (H ++ T) q b es done clk :=
  ⟨h.m.app T, by rw [← h.at_]; have := iter_lt h.at_; simp [getB, List.getD_eq_getElem?_getD, List.getElem?_append_left this], h.nd, h.sub⟩
theorem IterAt.keep {H H' : List Blk} {q b : Nat} {es done : List (Nat × V × V)} {clk : Nat} (h : IterAt H q b es done clk) (hl : H.length ≤ H'.length) (hb : getB H' b = getB H b) (hq : getB H' q = getB H q) : IterAt H' q b es done clk :=
  ⟨h.m.keep hl hb, by rw [hq, h.at_], h.nd, h.sub⟩

theorem IterAt.le {H : List Blk} {q b : Nat} {es done : List (Nat × V × V)} {clk : Nat} (h : IterAt H q b es done clk) : done.length ≤ es.length := by
  have hs : ∀ n ∈ done.map (·.1), n ∈ es.map (·.1) := fun n hn => by
    obtain ⟨e, he, rfl⟩ := List.mem_map.1 hn
    exact List.mem_map.2 ⟨e, h.sub e he, rfl⟩
  have := List.Nodup.length_le_of_subset h.nd (fun x hx => hs x hx)
  simpa using this

/-- All have come, in some order. -/
theorem IterAt.perm {H : List Blk} {q b : Nat} {es done : List (Nat × V × V)} {clk : Nat} (h : IterAt H q b es done clk) (hall : ∀ e ∈ es, e.1 ∈ done.map (·.1)) : done.Perm es := by
  have hinj : ∀ e ∈ es, ∀ e' ∈ es, e.1 = e'.1 → e = e' := fun e he e' he' hx => by
    obtain ⟨i, hi, rfl⟩ := List.getElem_of_mem he
    obtain ⟨j, hj, rfl⟩ := List.getElem_of_mem he'
    have := (List.getElem_inj (i := i) (j := j) (h₀ := by simpa using hi) (h₁ := by simpa using hj) h.m.nd).1 (by simpa using hx)
    subst this
    rfl
  have n1 : done.Nodup := (List.pairwise_map.1 h.nd).imp fun hne e => hne (by rw [e])
  have n2 : es.Nodup := (List.pairwise_map.1 h.m.nd).imp fun hne e => hne (by rw [e])
  refine (List.perm_ext_iff_of_nodup n1 n2).2 fun e => ⟨h.sub e, fun he => ?_⟩
  obtain ⟨e', he', hx⟩ := List.mem_map.1 (hall e he)
  rw [← hinj e' (h.sub e' he') e he hx]
  exact he'

theorem nxt_map {H : List Blk} {q b : Nat} {es done : List (Nat × V × V)} {clk : Nat} {K : V → List Blk → Prop} (h : IterAt H q b es done clk) (hdone : done.Perm es → K (.tup [.bool false]) H)
    (hstep : ∀ e ∈ es, e ∉ done → ∀ H', IterAt H' q b es (done ++ [e]) clk → H'.length = H.length → (∀ c, c ≠ q → getB H' c = getB H c) → K (.tup [.bool true, e.2.1, e.2.2]) H') : nxtK (.ptr q 0 0 0) H K := by
  unfold nxtK
  have hq := iter_lt h.at_
  refine ⟨hq, ?_⟩
  rw [h.at_]
  refine ⟨h.m.lt, ?_⟩
  rw [h.m.at_]
  refine ⟨⟨h.m.old, Nat.le_refl _⟩, fun hall => hdone (h.perm hall), fun e he hn => ?_⟩
  have hqb : q ≠ b := fun e => by have h1 := h.at_; rw [e, h.m.at_] at h1; cases h1
  refine hstep e he (fun hd => hn (List.mem_map.2 ⟨e, hd, rfl⟩)) _ ⟨h.m.set _ hqb, ?_, ?_, ?_⟩ (by simp) (fun c hc => by simp [getB, List.getD_eq_getElem?_getD, List.getElem?_set_ne (Ne.symm hc)])
  · rw [getB_set_self _ hq, List.map_append]; rfl
  · rw [List.map_append, List.nodup_append]
    refine ⟨h.nd, by simp, fun a ha c hc ec => ?_⟩
    obtain rfl : c = e.1 := by simpa using hc
    subst ec
    exact hn ha
  · intro x hx
    rcases List.mem_append.1 hx with hx | hx
    · exact h.sub x hx
    · obtain rfl : x = e := by simpa using hx
      exact he

theorem ent_map {H : List Blk} {q b : Nat} {es done : List (Nat × V × V)} {e : Nat × V × V} {clk : Nat} {K : V → Prop} (h : IterAt H q b es (done ++ [e]) clk) (hK : K (.tup [e.2.1, e.2.2])) : entK (.ptr q 0 0 0) H K := by
  unfold entK
  have hq := iter_lt h.at_
  refine ⟨hq, ?_⟩
  rw [h.at_]
  refine ⟨h.m.lt, ?_⟩
  rw [h.m.at_]
  refine ⟨rfl, h.m.nd, ?_⟩
  have hl : ((done ++ [e]).map (·.1)).getLast? = some e.1 := by simp
  rw [hl]
  have he := h.sub e (by simp)
  have hf : es.find? (fun x => x.1 == e.1) = some e := by
    cases hx : es.find? (fun x => x.1 == e.1) with
    | none =>
      have := List.find?_eq_none.1 hx e he
      simp at this
    | some x =>
      have h1 := List.mem_of_find?_eq_some hx
      have h2 := List.find?_some hx
      simp only [beq_iff_eq] at h2
      obtain ⟨i, hi, rfl⟩ := List.getElem_of_mem h1
      obtain ⟨j, hj, rfl⟩ := List.getElem_of_mem he
      have := (List.getElem_inj (i := i) (j := j) (h₀ := by simpa using hi) (h₁ := by simpa using hj) h.m.nd).1 (by simpa using h2)
      subst this
      rfl
  simp only [hf]
  exact hK

end Go.MW

