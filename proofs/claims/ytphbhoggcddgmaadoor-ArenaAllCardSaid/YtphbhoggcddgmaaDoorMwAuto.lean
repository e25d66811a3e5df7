/- Symbolic steps as equations; how tests are split. -/
import Derived.Test.YtphbhoggcddgmaaDoorMwRow
namespace Go.MW
open Go Go.RowKit
set_option linter.unusedVariables false
set_option linter.unusedSimpArgs false

def s2bK (x : V) (C : (Nat → V) → Blk → Prop) : Prop := match x with
  | .str s => C (fun q => .hs q s.length 0 0 s.length none 1) (.row 1 (s.map u8V) true false)
  | _ => False

def atH (K : V → List Blk → Prop) (H : List Blk) : V → Prop := fun v => K v H
theorem atH_ap {K : V → List Blk → Prop} {H : List Blk} {v : V} : atH K H v = (K v H) := rfl
def bdk (K : V → List Blk → Prop) (H : List Blk) : List V → Prop := fun cs => K (.agg cs) H
theorem bdk_ap {K : V → List Blk → Prop} {H : List Blk} {cs : List V} : bdk K H cs = (K (.agg cs) H) := rfl
def bsk (len : Nat) (sz : Nat) (K : V → List Blk → Prop) (H : List Blk) : List V → Prop := fun xs => K (.hs H.length len 0 0 len (some len) sz) (H ++ [.row sz xs false false])
theorem bsk_ap {len : Nat} {sz : Nat} {K : V → List Blk → Prop} {H : List Blk} {xs : List V} : bsk len sz K H xs = (K (.hs H.length len 0 0 len (some len) sz) (H ++ [.row sz xs false false])) := rfl
def mkk (K : V → List Blk → Prop) (H : List Blk) : (Nat → V) → Blk → Prop := fun r k => K (r H.length) (H ++ [k])
theorem mkk_ap {K : V → List Blk → Prop} {H : List Blk} {r : Nat → V} {k : Blk} : mkk K H r k = (K (r H.length) (H ++ [k])) := rfl
def apk (sz : Nat) (by_ : Nat) (x : V) (H : List Blk) (K : V → List Blk → Prop) : List V → Prop := fun ys => appK sz by_ x ys H K
theorem apk_ap {sz : Nat} {by_ : Nat} {x : V} {H : List Blk} {K : V → List Blk → Prop} {ys : List V} : apk sz by_ x H K ys = (appK sz by_ x ys H K) := rfl
def cpn (K : V → List Blk → Prop) (n : Nat) : List Blk → Prop := fun H' => K (.int .i64 n) H'
theorem cpn_ap {K : V → List Blk → Prop} {n : Nat} {H' : List Blk} : cpn K n H' = (K (.int .i64 n) H') := rfl
def jkk (K : V → List Blk → Prop) : List Blk → Prop := fun H' => K .junk H'
theorem jkk_ap {K : V → List Blk → Prop} {H' : List Blk} : jkk K H' = (K .junk H') := rfl
def cpl (sz : Nat) (x : V) (ys : List V) (H : List Blk) (K : V → List Blk → Prop) : V → Prop := fun l => match l with
  | .int _ n => wrK sz x (ys.take n.toNat) H fun H' => K (.int .i64 (Nat.min ys.length n.toNat)) H'
  | _ => False
theorem cpl_ap {sz : Nat} {x : V} {ys : List V} {H : List Blk} {K : V → List Blk → Prop} {k : IntKind} {n : Int} : cpl sz x ys H K (.int k n) = wrK sz x (ys.take n.toNat) H (cpn K (Nat.min ys.length n.toNat)) := rfl
def cll (sz : Nat) (x z : V) (H : List Blk) (K : V → List Blk → Prop) : V → Prop := fun l => match l with
  | .int _ n => wrK sz x (List.replicate n.toNat z) H fun H' => K .junk H'
  | _ => False
theorem cll_ap {sz : Nat} {x z : V} {H : List Blk} {K : V → List Blk → Prop} {k : IntKind} {n : Int} : cll sz x z H K (.int k n) = wrK sz x (List.replicate n.toNat z) H (jkk K) := rfl
def cpk (sz : Nat) (x : V) (H : List Blk) (K : V → List Blk → Prop) : List V → Prop := fun ys => lenK 1 H x (cpl sz x ys H K)
theorem cpk_ap {sz : Nat} {x : V} {H : List Blk} {K : V → List Blk → Prop} {ys : List V} : cpk sz x H K ys = (lenK 1 H x (cpl sz x ys H K)) := rfl
def b2k (K : V → List Blk → Prop) (H : List Blk) : List V → Prop := fun xs => bytesK xs (atH K H)
theorem b2k_ap {K : V → List Blk → Prop} {H : List Blk} {xs : List V} : b2k K H xs = (bytesK xs (atH K H)) := rfl

theorem stepM_mono {P : Program} {G : Nat → Option (List V)} {q : Bool} {m : MOp} {fr : Fr} {H : List Blk} {K K' : V → List Blk → Prop} (h : stepM P G q m fr H K) (hk : ∀ v H', K v H' → K' v H') : stepM P G q m fr H K' := by
  obtain ⟨v, H', h1, h2⟩ := stepM_det h
  exact h2 K' (hk v H' h1)
theorem gdK_mono {fr : Fr} {g : Option (Nat × Bool)} {p q p' q' : Prop} (h : gdK fr g p q) (hp : p → p') (hq : q → q') : gdK fr g p' q' := by
  unfold gdK at h ⊢
  split at h
  · exact hp h
  · split at h
    · exact ⟨fun e => hp (h.1 e), fun e => hq (h.2 e)⟩
    · exact h
theorem mops_mono {P : Program} {G : Nat → Option (List V)} : ∀ (l : List MO) {K K' : St → Prop} (st : St), (∀ st, K st → K' st) → mops P G l K st → mops P G l K' st
  | [], _, _, st, hk, h => hk st h
  | m :: r, _, _, st, hk, h => gdK_mono h (fun h => stepM_mono h fun _ _ h => mops_mono r _ hk h) (fun h => mops_mono r _ hk h)
theorem mwp_mono {P : Program} {G : Nat → Option (List V)} : ∀ (c : MC) {Q Q' : Exit → St → Prop} {st : St}, (∀ e st, Q e st → Q' e st) → mwp P G c Q st → mwp P G c Q' st
  | .skip, _, _, _, hq, h => hq _ _ h
  | .reg _ ops, _, _, _, hq, h => mops_mono ops _ (hq .normal) h
  | .seq a b, _, _, _, hq, h => mwp_mono a (fun e st h => by
      cases e with
      | normal => exact mwp_mono b hq h
      | _ => exact hq _ _ h) h
  | .cond c a b, _, _, st, hq, h => by
    simp only [mwp, condK] at h ⊢
    split at h
    · exact ⟨fun e => mwp_mono a hq (h.1 e), fun e => mwp_mono b hq (h.2 e)⟩
    · exact h
  | .block id c, _, _, _, hq, h => mwp_mono c (fun e st h => by
      cases e with
      | exit i =>
        simp only [blockK] at h ⊢
        split at h
        · rename_i hi; rw [if_pos hi]; exact hq _ _ h
        · rename_i hi; rw [if_neg hi]; exact hq _ _ h
      | _ => exact hq _ _ h) h
  | .loop c, _, _, _, hq, ⟨I, h0, h⟩ => ⟨I, h0, fun n st hI => mwp_mono c (fun e st h => by
      cases e with
      | normal => exact h
      | _ => exact hq _ _ h) (h n st hI)⟩
  | .scope c, _, _, _, hq, h => mwp_mono c (fun e st h => by
      cases e with
      | goto l => exact h
      | _ => exact hq _ _ h) h
  | .exit _, _, _, _, hq, h => hq _ _ h
  | .ret, _, _, _, hq, h => hq _ _ h
  | .label _, _, _, _, hq, h => hq _ _ h
  | .goto _, _, _, _, _, h => h
  | .bad, _, _, _, _, h => h

section
variable {P : Program} {G : Nat → Option (List V)} {q : Bool} {fr : Fr} {H : List Blk} {K : V → List Blk → Prop}
theorem st_mv {x : Opd} : stepM P G q (.mv x) fr H K = (K (ev G fr x) H) := rfl
theorem st_pick {c a b : Opd} : stepM P G q (.pick c a b) fr H K = (pickK (ev G fr c) (ev G fr a) (ev G fr b) (atH K H)) := rfl
theorem st_new {sz : Nat} {x : V} : stepM P G q (.new sz x) fr H K = (K (.ptr H.length 1 0 0) (H ++ [.row sz [x] false false])) := rfl
theorem st_box {sz : Nat} {x : Opd} : stepM P G q (.box sz x) fr H K = ((ev G fr x).solid = true ∧ (ev G fr x).cells.length = sz ∧ K (.ptr H.length 1 0 0) (H ++ [.row sz [ev G fr x] false false])) := rfl
theorem st_bslice {sz len : Nat} {z : V} {p : List (Nat × Opd)} : stepM P G q (.bslice sz z len p) fr H K = (partsS G fr sz (List.replicate len z) p (bsk len sz K H)) := rfl
theorem st_s2b {x : Opd} : stepM P G q (.s2b x) fr H K = (s2bK (ev G fr x) (mkk K H)) := rfl
theorem st_mks {sz b : Nat} {z : V} {l c : Opd} : stepM P G q (.mks sz b z l c) fr H K = (mksK sz b z (ev G fr l) (ev G fr c) (mkk K H)) := rfl
theorem st_mkm  : stepM P G q (.mkm) fr H K = (K (.map H.length) (H ++ [.map []])) := rfl
theorem st_build {z : List V} {p : List (Nat × Nat × Opd)} : stepM P G q (.build z p) fr H K = (partsV G fr z p (bdk K H)) := rfl
theorem st_ld {a : Option Nat} {x : Opd} : stepM P G q (.ld a x) fr H K = (ldK a (ev G fr x) H K) := rfl
theorem st_st {n : Nat} {x y : Opd} : stepM P G q (.st n x y) fr H K = (stK n (ev G fr x) (ev G fr y) H K) := rfl
theorem st_nchk {x : Opd} : stepM P G q (.nchk x) fr H K = (nchkK (ev G fr x) (atH K H)) := rfl
theorem st_bin {op : BinOp} {x y : Opd} : stepM P G q (.bin op x y) fr H K = (binK op (ev G fr x) (ev G fr y) (atH K H)) := rfl
theorem st_eqT {neg : Bool} {ks : List Nat} {x y : Opd} : stepM P G q (.eqT neg ks x y) fr H K = (eqTK neg ks (ev G fr x) (ev G fr y) (atH K H)) := rfl
theorem st_eqB {neg : Bool} {x y : Opd} : stepM P G q (.eqB neg x y) fr H K = (eqBK neg (ev G fr x) (ev G fr y) (atH K H)) := rfl
theorem st_nilq {neg : Bool} {x : Opd} : stepM P G q (.nilq neg x) fr H K = (nilqK neg (ev G fr x) (atH K H)) := rfl
theorem st_un {op : UnOp} {x : Opd} : stepM P G q (.un op x) fr H K = (unK op (ev G fr x) (atH K H)) := rfl
theorem st_cvi {k : IntKind} {x : Opd} : stepM P G q (.cvi k x) fr H K = (cviK k (ev G fr x) (atH K H)) := rfl
theorem st_b2s {x : Opd} : stepM P G q (.b2s x) fr H K = ((ev G fr x).isStr = false ∧ elemsK H (ev G fr x) (b2k K H)) := rfl
theorem st_mkf {f : Fn} {a b : List Opd} : stepM P G q (.mkf f a b) fr H K = (K (.fn f (evs G fr a) (evs G fr b)) H) := rfl
theorem st_slS {x : Opd} {lo hi : Option Opd} : stepM P G q (.slS x lo hi) fr H K = (slSK (ev G fr x) (lo.map (ev G fr)) (hi.map (ev G fr)) (atH K H)) := rfl
theorem st_sl {sz : Nat} {x : Opd} {lo hi mx : Option Opd} : stepM P G q (.sl sz x lo hi mx) fr H K = (slK H sz (ev G fr x) (lo.map (ev G fr)) (hi.map (ev G fr)) (mx.map (ev G fr)) (atH K H)) := rfl
theorem st_slA {n sz : Nat} {x : Opd} {lo hi mx : Option Opd} : stepM P G q (.slA n sz x lo hi mx) fr H K = (slAK H n sz (ev G fr x) (lo.map (ev G fr)) (hi.map (ev G fr)) (mx.map (ev G fr)) (atH K H)) := rfl
theorem st_fa {off : Nat} {x : Opd} : stepM P G q (.fa off x) fr H K = (faK off (ev G fr x) (atH K H)) := rfl
theorem st_fld {a : Option Nat} {off : Nat} {x : Opd} : stepM P G q (.fld a off x) fr H K = (fldK a off (ev G fr x) (atH K H)) := rfl
theorem st_ia {sz : Nat} {x i : Opd} : stepM P G q (.ia sz x i) fr H K = (iaK H sz (ev G fr x) (ev G fr i) (atH K H)) := rfl
theorem st_iaA {n sz : Nat} {x i : Opd} : stepM P G q (.iaA n sz x i) fr H K = (iaAK n sz (ev G fr x) (ev G fr i) (atH K H)) := rfl
theorem st_ixA {n sz : Nat} {a : Bool} {x i : Opd} : stepM P G q (.ixA n sz a x i) fr H K = (ixAK n sz a (ev G fr x) (ev G fr i) (atH K H)) := rfl
theorem st_ixS {x i : Opd} : stepM P G q (.ixS x i) fr H K = (ixSK (ev G fr x) (ev G fr i) (atH K H)) := rfl
theorem st_ext {x : Opd} {i : Nat} : stepM P G q (.ext x i) fr H K = (extK (ev G fr x) i (atH K H)) := rfl
theorem st_len {k : Nat} {x : Opd} : stepM P G q (.len k x) fr H K = (lenK k H (ev G fr x) (atH K H)) := rfl
theorem st_lenC {n : Nat} : stepM P G q (.lenC n) fr H K = (K (.int .i64 n) H) := rfl
theorem st_app {sz b : Nat} {z : V} {x y : Opd} : stepM P G q (.app sz b z x y) fr H K = (elemsK H (ev G fr y) (apk sz b (ev G fr x) H K)) := rfl
theorem st_cpy {sz : Nat} {x y : Opd} : stepM P G q (.cpy sz x y) fr H K = (elemsK H (ev G fr y) (cpk sz (ev G fr x) H K)) := rfl
theorem st_clr {sz : Nat} {z : V} {x : Opd} : stepM P G q (.clr sz z x) fr H K = (lenK 1 H (ev G fr x) (cll sz (ev G fr x) z H K)) := rfl
theorem st_min {x y : Opd} : stepM P G q (.min x y) fr H K = (minK true (ev G fr x) (ev G fr y) (atH K H)) := rfl
theorem st_max {x y : Opd} : stepM P G q (.max x y) fr H K = (minK false (ev G fr x) (ev G fr y) (atH K H)) := rfl
theorem st_call {f : Nat} {as : List Opd} : stepM P G q (.call f as) fr H K = (callK P G q f (evs G fr as) H K) := rfl
theorem st_callv {x : Opd} {as : List Opd} : stepM P G q (.callv x as) fr H K = (callvK P G q (ev G fr x) (evs G fr as) H K) := rfl
end

/-- What stands behind a piece of code. -/
inductive Kt where
  | seq (c : MC)
  | blk (id : Nat)
  | lp (J : St → Prop)
  | sc

section
variable (P : Program) (G : Nat → Option (List V))
def kq : List Kt → (Exit → St → Prop) → Exit → St → Prop
  | [], Q => Q
  | .seq b :: ks, Q => thenK (mwp P G b (kq ks Q)) (kq ks Q)
  | .blk id :: ks, Q => blockK id (kq ks Q)
  | .lp J :: ks, Q => thenK J (kq ks Q)
  | .sc :: ks, Q => scopeK (kq ks Q)

def xw (c : MC) (ks : List Kt) (Q : Exit → St → Prop) (st : St) : Prop := mwp P G c (kq P G ks Q) st
def xo (ops : List MO) (ks : List Kt) (Q : Exit → St → Prop) (st : St) : Prop := mops P G ops (kq P G ks Q .normal) st
def xe (e : Exit) (ks : List Kt) (Q : Exit → St → Prop) (st : St) : Prop := kq P G ks Q e st
/-- Behind an operation. -/
def xk (d : Option Nat) (r : List MO) (ks : List Kt) (Q : Exit → St → Prop) (fr : Fr) : V → List Blk → Prop := fun v H' => xo P G r ks Q ⟨put d v fr, H'⟩
/-- A guarded operation. -/
def xg (v : V) (w q : Bool) (d : Option Nat) (m : MOp) (r : List MO) (ks : List Kt) (Q : Exit → St → Prop) (fr : Fr) (H : List Blk) : Prop := match v with
  | .bool b => br (b == w) (stepM P G q m fr H (xk P G d r ks Q fr)) (xo P G r ks Q ⟨put d .junk fr, H⟩)
  | _ => False
/-- A test. -/
def xc (v : V) (a b : MC) (ks : List Kt) (Q : Exit → St → Prop) (st : St) : Prop := condK v (xw P G a ks Q st) (xw P G b ks Q st)
end

theorem br_true {p q : Prop} : br true p q = p := by simp [br]
theorem br_false {p q : Prop} : br false p q = q := by simp [br]

section
variable {P : Program} {G : Nat → Option (List V)} {c a b : MC} {ks : List Kt} {Q : Exit → St → Prop} {st : St} {id i j : Nat} {ops r : List MO} {d t : Nat} {d' : Option Nat} {w q : Bool} {m : MOp} {fr : Fr} {H : List Blk} {J : St → Prop}
theorem xw_start : mwp P G c Q st = xw P G c [] Q st := rfl
theorem xw_skip : xw P G .skip ks Q st = xe P G .normal ks Q st := rfl
theorem xw_reg {dr : Bool} : xw P G (.reg dr ops) ks Q st = xo P G ops ks Q st := rfl
theorem xw_seq : xw P G (.seq a b) ks Q st = xw P G a (.seq b :: ks) Q st := rfl
theorem xw_cond {x : Opd} : xw P G (.cond x a b) ks Q ⟨fr, H⟩ = xc P G (ev G fr x) a b ks Q ⟨fr, H⟩ := rfl
theorem xw_block : xw P G (.block id c) ks Q st = xw P G c (.blk id :: ks) Q st := rfl
theorem xw_loop : xw P G (.loop c) ks Q st = ∃ I : Nat → St → Prop, (∃ n, I n st) ∧ ∀ n st, I n st → xw P G c (.lp (fun st' => ∃ n', n' < n ∧ I n' st') :: ks) Q st := rfl
theorem xw_exit : xw P G (.exit id) ks Q st = xe P G (.exit id) ks Q st := rfl
theorem xw_ret : xw P G .ret ks Q st = xe P G .ret ks Q st := rfl
theorem xw_label : xw P G (.label id) ks Q st = xe P G .normal ks Q st := rfl
theorem xw_scope : xw P G (.scope c) ks Q st = xw P G c (.sc :: ks) Q st := rfl
theorem xe_n_sc : xe P G .normal (.sc :: ks) Q st = xe P G .normal ks Q st := rfl
theorem xe_x_sc : xe P G (.exit i) (.sc :: ks) Q st = xe P G (.exit i) ks Q st := rfl
theorem xe_r_sc : xe P G .ret (.sc :: ks) Q st = xe P G .ret ks Q st := rfl
theorem xe_nil {e : Exit} : xe P G e [] Q st = Q e st := rfl
theorem xe_n_seq : xe P G .normal (.seq b :: ks) Q st = xw P G b ks Q st := rfl
theorem xe_n_blk : xe P G .normal (.blk id :: ks) Q st = xe P G .normal ks Q st := rfl
theorem xe_n_lp : xe P G .normal (.lp J :: ks) Q st = J st := rfl
theorem xe_x_seq : xe P G (.exit i) (.seq b :: ks) Q st = xe P G (.exit i) ks Q st := rfl
theorem xe_x_lp : xe P G (.exit i) (.lp J :: ks) Q st = xe P G (.exit i) ks Q st := rfl
theorem xe_x_hit : xe P G (.exit i) (.blk i :: ks) Q st = xe P G .normal ks Q st := by show (if i = i then _ else _) = _; rw [if_pos rfl]; rfl
theorem xe_x_miss (h : i ≠ j) : xe P G (.exit i) (.blk j :: ks) Q st = xe P G (.exit i) ks Q st := by show (if i = j then _ else _) = _; rw [if_neg h]; rfl
theorem xe_r_seq : xe P G .ret (.seq b :: ks) Q st = xe P G .ret ks Q st := rfl
theorem xe_r_lp : xe P G .ret (.lp J :: ks) Q st = xe P G .ret ks Q st := rfl
theorem xe_r_blk : xe P G .ret (.blk j :: ks) Q st = xe P G .ret ks Q st := rfl
theorem xk_some {v : V} : xk P G (some d) r ks Q fr v H = xo P G r ks Q ⟨(d, v) :: fr, H⟩ := rfl
theorem xk_none {v : V} : xk P G none r ks Q fr v H = xo P G r ks Q ⟨fr, H⟩ := rfl
theorem xo_nil : xo P G [] ks Q st = xe P G .normal ks Q st := rfl
theorem xo_o : xo P G (o d m :: r) ks Q ⟨fr, H⟩ = stepM P G false m fr H (xk P G (some d) r ks Q fr) := rfl
theorem xo_s : xo P G (s m :: r) ks Q ⟨fr, H⟩ = stepM P G false m fr H (xk P G none r ks Q fr) := rfl
theorem xo_go : xo P G (go d t w m :: r) ks Q ⟨fr, H⟩ = xg P G (get fr t) w false (some d) m r ks Q fr H := rfl
theorem xo_gs : xo P G (gs t w m :: r) ks Q ⟨fr, H⟩ = xg P G (get fr t) w false none m r ks Q fr H := rfl
theorem xo_qq : xo P G (qq d' none m :: r) ks Q ⟨fr, H⟩ = stepM P G true m fr H (xk P G d' r ks Q fr) := rfl
theorem xo_qg : xo P G (qq d' (some (t, w)) m :: r) ks Q ⟨fr, H⟩ = xg P G (get fr t) w true d' m r ks Q fr H := rfl
theorem xg_tt : xg P G (.bool true) true q d' m r ks Q fr H = stepM P G q m fr H (xk P G d' r ks Q fr) := br_true
theorem xg_tf : xg P G (.bool true) false q d' m r ks Q fr H = xk P G d' r ks Q fr .junk H := br_false
theorem xg_ft : xg P G (.bool false) true q d' m r ks Q fr H = xk P G d' r ks Q fr .junk H := br_false
theorem xg_ff : xg P G (.bool false) false q d' m r ks Q fr H = stepM P G q m fr H (xk P G d' r ks Q fr) := br_true
theorem xg_nt {x : Bool} : xg P G (.bool !x) true q d' m r ks Q fr H = xg P G (.bool x) false q d' m r ks Q fr H := by cases x <;> rfl
theorem xg_nf {x : Bool} : xg P G (.bool !x) false q d' m r ks Q fr H = xg P G (.bool x) true q d' m r ks Q fr H := by cases x <;> rfl
theorem xc_t : xc P G (.bool true) a b ks Q st = xw P G a ks Q st := br_true
theorem xc_f : xc P G (.bool false) a b ks Q st = xw P G b ks Q st := br_false
theorem xc_n {x : Bool} : xc P G (.bool !x) a b ks Q st = xc P G (.bool x) b a ks Q st := by cases x <;> simp [xc, condK, br]

/-- A loop: an invariant that bears a number. What a round must hand on stands behind a variable. -/
theorem xl_loop (I : Nat → St → Prop) (n : Nat) (h0 : I n st) (h : ∀ J : Nat → St → Prop, (∀ n st, I n st → J n st) → ∀ n fr H, I n ⟨fr, H⟩ → xw P G c (.lp (fun st' => ∃ n', n' < n ∧ J n' st') :: ks) Q ⟨fr, H⟩) : xw P G (.loop c) ks Q st := by
  rw [xw_loop]
  exact ⟨I, ⟨n, h0⟩, fun n st hI => h I (fun _ _ h => h) n st.fr st.H hI⟩

/-- A loop that is left by more than one road: what holds behind it is told once. -/
theorem xl_blk (R : St → Prop) (I : Nat → St → Prop) (n : Nat) (h0 : I n st) (hR : ∀ fr H, R ⟨fr, H⟩ → xe P G .normal ks Q ⟨fr, H⟩)
    (h : ∀ (J : Nat → St → Prop) (Q' : Exit → St → Prop), (∀ n st, I n st → J n st) → (∀ st, Q' .normal st = R st) → (∀ st, Q' .ret st = xe P G .ret ks Q st) → (∀ i st, Q' (.exit i) st = xe P G (.exit i) ks Q st) → ∀ n fr H, I n ⟨fr, H⟩ → xw P G c [.lp (fun st' => ∃ n', n' < n ∧ J n' st'), .blk id] Q' ⟨fr, H⟩) : xw P G (.loop c) (.blk id :: ks) Q st := by
  rw [xw_loop]
  refine ⟨I, ⟨n, h0⟩, fun n st hI => ?_⟩
  have h1 := h I (fun e st => match e with | .normal => R st | e => xe P G e ks Q st) (fun _ _ h => h) (fun _ => rfl) (fun _ => rfl) (fun _ _ => rfl) n st.fr st.H hI
  refine mwp_mono c ?_ h1
  intro e st' he
  cases e with
  | normal => exact he
  | ret => exact he
  | goto l => exact he
  | panic l => exact he
  | outgrown => exact he
  | exit i =>
    show blockK id (kq P G ks Q) (.exit i) st'
    have he' : blockK id (fun e st => match e with | .normal => R st | e => xe P G e ks Q st) (.exit i) st' := he
    simp only [blockK] at he' ⊢
    split at he'
    · rename_i hi
      rw [if_pos hi]
      exact hR _ _ he'
    · rename_i hi
      rw [if_neg hi]
      exact he'

/-- A guard splits. -/
theorem xg_dec {p : Prop} [Decidable p] (h1 : p → stepM P G q m fr H (xk P G d' r ks Q fr)) (h2 : ¬ p → xk P G d' r ks Q fr .junk H) : xg P G (.bool (decide p)) true q d' m r ks Q fr H := by
  by_cases h : p
  · rw [decide_eq_true h, xg_tt]; exact h1 h
  · rw [decide_eq_false h, xg_ft]; exact h2 h
theorem xg_decf {p : Prop} [Decidable p] (h1 : p → xk P G d' r ks Q fr .junk H) (h2 : ¬ p → stepM P G q m fr H (xk P G d' r ks Q fr)) : xg P G (.bool (decide p)) false q d' m r ks Q fr H := by
  by_cases h : p
  · rw [decide_eq_true h, xg_tf]; exact h1 h
  · rw [decide_eq_false h, xg_ff]; exact h2 h
/-- A test splits. -/
theorem xc_dec {p : Prop} [Decidable p] (h1 : p → xw P G a ks Q st) (h2 : ¬ p → xw P G b ks Q st) : xc P G (.bool (decide p)) a b ks Q st := by
  by_cases h : p
  · rw [decide_eq_true h, xc_t]; exact h1 h
  · rw [decide_eq_false h, xc_f]; exact h2 h
theorem xg_any {x : Bool} (h1 : x = w → stepM P G q m fr H (xk P G d' r ks Q fr)) (h2 : x = (!w) → xk P G d' r ks Q fr .junk H) : xg P G (.bool x) w q d' m r ks Q fr H := by
  cases x <;> cases w <;> first | (rw [xg_tt]; exact h1 rfl) | (rw [xg_tf]; exact h2 rfl) | (rw [xg_ft]; exact h2 rfl) | (rw [xg_ff]; exact h1 rfl)
theorem xc_any {x : Bool} (h1 : x = true → xw P G a ks Q st) (h2 : x = false → xw P G b ks Q st) : xc P G (.bool x) a b ks Q st := by
  cases x
  · rw [xc_f]; exact h2 rfl
  · rw [xc_t]; exact h1 rfl
end

theorem eq_ld1 {cs : List V} {H : List Blk}{K : V → List Blk → Prop} : ldK none (.vp cs) H K = (0 < cs.length ∧ K (cs.getD 0 .junk) H) := rfl
theorem eq_ld2 {cs : List V} {n : Nat} {H : List Blk}{K : V → List Blk → Prop} : ldK (some n) (.vp cs) H K = (n ≤ cs.length ∧ K (.agg (cs.take n)) H) := rfl
theorem eq_ld3 {b n i j : Nat} {H : List Blk}{K : V → List Blk → Prop} : ldK none (.ptr b n i j) H K = (match getB H b with | .row sz xs _ _ => xs.length = n ∧ i < n ∧ j < sz ∧ K ((xs.getD i .junk).cells.getD j .junk) H | _ => False) := rfl
theorem eq_ld4 {b n i j m : Nat} {H : List Blk}{K : V → List Blk → Prop} : ldK (some m) (.ptr b n i j) H K = (match getB H b with | .row sz xs _ _ => xs.length = n ∧ i < n ∧ j + m ≤ sz ∧ K (sub (xs.getD i .junk) sz j m) H | _ => False) := rfl
theorem eq_st {b n i j m : Nat} {v : V} {H : List Blk}{K : V → List Blk → Prop} : stK m (.ptr b n i j) v H K = (Good m v ∧ match getB H b with | .row sz xs opn frz => xs.length = n ∧ i < n ∧ j + m ≤ sz ∧ frz = false ∧ K .junk (H.set b (.row sz (xs.set i (upd (xs.getD i .junk) sz j m v)) opn false)) | _ => False) := rfl
theorem eq_nchk1 {cs : List V} {K : V → Prop} : nchkK (.vp cs) K = (K (.vp cs)) := rfl
theorem eq_nchk2 {b n i j : Nat} {K : V → Prop} : nchkK (.ptr b n i j) K = (K (.ptr b n i j)) := rfl
theorem eq_nchk3 {f : Nat} {a b : List V} {K : V → Prop} : nchkK (.fn (.func f) a b) K = (K (.fn (.func f) a b)) := rfl
theorem eq_iadd {k k' : IntKind} {a b : Int} {K : V → Prop} : binK .add (.int k a) (.int k' b) K = (k = k' ∧ K (.int k (k.wrap (a + b)))) := rfl
theorem eq_isub {k k' : IntKind} {a b : Int} {K : V → Prop} : binK .sub (.int k a) (.int k' b) K = (k = k' ∧ K (.int k (k.wrap (a - b)))) := rfl
theorem eq_imul {k k' : IntKind} {a b : Int} {K : V → Prop} : binK .mul (.int k a) (.int k' b) K = (k = k' ∧ K (.int k (k.wrap (a * b)))) := rfl
theorem eq_iquo {k k' : IntKind} {a b : Int} {K : V → Prop} : binK .quo (.int k a) (.int k' b) K = (k = k' ∧ b ≠ 0 ∧ K (.int k (k.wrap (a.tdiv b)))) := rfl
theorem eq_irem {k k' : IntKind} {a b : Int} {K : V → Prop} : binK .rem (.int k a) (.int k' b) K = (k = k' ∧ b ≠ 0 ∧ K (.int k (a.tmod b))) := rfl
theorem eq_iand {k k' : IntKind} {a b : Int} {K : V → Prop} : binK .and (.int k a) (.int k' b) K = (k = k' ∧ K (.int k (bitOp .and k a b))) := rfl
theorem eq_ior {k k' : IntKind} {a b : Int} {K : V → Prop} : binK .or (.int k a) (.int k' b) K = (k = k' ∧ K (.int k (bitOp .or k a b))) := rfl
theorem eq_ixor {k k' : IntKind} {a b : Int} {K : V → Prop} : binK .xor (.int k a) (.int k' b) K = (k = k' ∧ K (.int k (bitOp .xor k a b))) := rfl
theorem eq_iandNot {k k' : IntKind} {a b : Int} {K : V → Prop} : binK .andNot (.int k a) (.int k' b) K = (k = k' ∧ K (.int k (bitOp .andNot k a b))) := rfl
theorem eq_ishl {k k' : IntKind} {a b : Int} {K : V → Prop} : binK .shl (.int k a) (.int k' b) K = (0 ≤ b ∧ K (.int k (k.wrap (a * 2 ^ (Nat.min b.toNat k.bits))))) := rfl
theorem eq_ishr {k k' : IntKind} {a b : Int} {K : V → Prop} : binK .shr (.int k a) (.int k' b) K = (0 ≤ b ∧ K (.int k (a.fdiv (2 ^ (Nat.min b.toNat k.bits))))) := rfl
theorem eq_ieql {k k' : IntKind} {a b : Int} {K : V → Prop} : binK .eql (.int k a) (.int k' b) K = (k = k' ∧ K (.bool (decide (a = b)))) := rfl
theorem eq_ineq {k k' : IntKind} {a b : Int} {K : V → Prop} : binK .neq (.int k a) (.int k' b) K = (k = k' ∧ K (.bool (!decide (a = b)))) := rfl
theorem eq_ilss {k k' : IntKind} {a b : Int} {K : V → Prop} : binK .lss (.int k a) (.int k' b) K = (k = k' ∧ K (.bool (decide (a < b)))) := rfl
theorem eq_ileq {k k' : IntKind} {a b : Int} {K : V → Prop} : binK .leq (.int k a) (.int k' b) K = (k = k' ∧ K (.bool (decide (a ≤ b)))) := rfl
theorem eq_igtr {k k' : IntKind} {a b : Int} {K : V → Prop} : binK .gtr (.int k a) (.int k' b) K = (k = k' ∧ K (.bool (decide (b < a)))) := rfl
theorem eq_igeq {k k' : IntKind} {a b : Int} {K : V → Prop} : binK .geq (.int k a) (.int k' b) K = (k = k' ∧ K (.bool (decide (b ≤ a)))) := rfl
theorem eq_sadd {a b : List UInt8} {K : V → Prop} : binK .add (.str a) (.str b) K = (a.length + b.length < 2 ^ 63 ∧ K (.str (a ++ b))) := rfl
theorem eq_seql {a b : List UInt8} {K : V → Prop} : binK .eql (.str a) (.str b) K = (K (.bool (a == b))) := rfl
theorem eq_sneq {a b : List UInt8} {K : V → Prop} : binK .neq (.str a) (.str b) K = (K (.bool (a != b))) := rfl
theorem eq_slss {a b : List UInt8} {K : V → Prop} : binK .lss (.str a) (.str b) K = (K (.bool (Op.bytesLess a b))) := rfl
theorem eq_sleq {a b : List UInt8} {K : V → Prop} : binK .leq (.str a) (.str b) K = (K (.bool (Op.bytesLess a b || a == b))) := rfl
theorem eq_sgtr {a b : List UInt8} {K : V → Prop} : binK .gtr (.str a) (.str b) K = (K (.bool (!(Op.bytesLess a b || a == b)))) := rfl
theorem eq_sgeq {a b : List UInt8} {K : V → Prop} : binK .geq (.str a) (.str b) K = (K (.bool (!Op.bytesLess a b))) := rfl
theorem eq_not {b : Bool} {K : V → Prop} : unK .not (.bool b) K = (K (.bool !b)) := rfl
theorem eq_neg {k : IntKind} {n : Int} {K : V → Prop} : unK .neg (.int k n) K = (K (.int k (k.wrap (0 - n)))) := rfl
theorem eq_com {k : IntKind} {n : Int} {K : V → Prop} : unK .xor (.int k n) K = (K (.int k (bitOp .xor k (if k.signed then -1 else k.max) n))) := rfl
theorem eq_cvi {k k' : IntKind} {n : Int} {K : V → Prop} : cviK k (.int k' n) K = (K (.int k (k.wrap n))) := rfl
theorem eq_el1 {xs : List V} {H : List Blk}{C : List V → Prop}  : elemsK H (.vs xs) C = (C xs) := rfl
theorem eq_el2 {H : List Blk}{C : List V → Prop}  : elemsK H .nils C = (C []) := rfl
theorem eq_el3 {s : List UInt8} {H : List Blk}{C : List V → Prop}  : elemsK H (.str s) C = (C (s.map u8V)) := rfl
theorem eq_el4 {b n i j len sz : Nat} {cap : Option Nat} {H : List Blk}{C : List V → Prop}  : elemsK H (.hs b n i j len cap sz) C = (match getB H b with | .row rsz xs _ _ => xs.length = n ∧ (if rsz = sz ∧ j = 0 then i + len ≤ n ∧ C ((xs.drop i).take len) else sz = 1 ∧ i < n ∧ j + len ≤ rsz ∧ (∀ y ∈ ((xs.getD i .junk).cells.drop j).take len, y.one = true) ∧ C (((xs.getD i .junk).cells.drop j).take len)) | _ => False) := rfl
theorem eq_len0 {s : List UInt8} {H : List Blk}{K : V → Prop} : lenK 0 H (.str s) K = (K (.int .i64 s.length)) := rfl
theorem eq_len1 {xs : List V} {H : List Blk}{K : V → Prop} : lenK 1 H (.vs xs) K = (K (.int .i64 xs.length)) := rfl
theorem eq_len2 {H : List Blk}{K : V → Prop} : lenK 1 H .nils K = (K (.int .i64 0)) := rfl
theorem eq_len3 {b n i j len sz : Nat} {cap : Option Nat} {H : List Blk}{K : V → Prop} : lenK 1 H (.hs b n i j len cap sz) K = (K (.int .i64 len)) := rfl
theorem eq_bnd1 {d : Nat} {C : Nat → Prop} : bnd d none C = (C d) := rfl
theorem eq_bnd2 {d : Nat} {k : IntKind} {n : Int} {C : Nat → Prop} : bnd d (some (.int k n)) C = (0 ≤ n ∧ C n.toNat) := rfl
theorem eq_slS {s : List UInt8} {lo hi : Option V} {K : V → Prop} : slSK (.str s) lo hi K = (bnd s.length hi fun h => h ≤ s.length ∧ bnd 0 lo fun l => l ≤ h ∧ K (.str ((s.drop l).take (h - l)))) := rfl
theorem eq_sl1 {sz : Nat} {xs : List V} {lo hi mx : Option V} {H : List Blk}{K : V → Prop} : slK H sz (.vs xs) lo hi mx K = ((mx.isSome = true → hi.isSome = true) ∧ (∀ y ∈ xs, y.cells.length = sz) ∧ bnd xs.length mx fun m => m ≤ xs.length ∧ bnd xs.length hi fun h => h ≤ m ∧ bnd 0 lo fun l => l ≤ h ∧ K (.vs ((xs.drop l).take (h - l)))) := rfl
theorem eq_sl2 {sz : Nat} {lo hi mx : Option V} {H : List Blk}{K : V → Prop} : slK H sz .nils lo hi mx K = ((mx.isSome = true → hi.isSome = true) ∧ bnd 0 mx fun m => m = 0 ∧ bnd 0 hi fun h => h = 0 ∧ bnd 0 lo fun l => l = 0 ∧ K .nils) := rfl
theorem eq_slA {b m i j n sz : Nat} {lo hi mx : Option V} {H : List Blk}{K : V → Prop} : slAK H n sz (.ptr b m i j) lo hi mx K = ((mx.isSome = true → hi.isSome = true) ∧ bnd n mx fun mm => mm ≤ n ∧ bnd n hi fun h => h ≤ mm ∧ bnd 0 lo fun l => l ≤ h ∧ slHK H b m i j (some mm) sz l h K) := rfl
theorem eq_fa1 {off : Nat} {cs : List V} {K : V → Prop} : faK off (.vp cs) K = (off ≤ cs.length ∧ K (.vp (cs.drop off))) := rfl
theorem eq_fa2 {off b n i j : Nat} {K : V → Prop} : faK off (.ptr b n i j) K = (K (.ptr b n i (j + off))) := rfl
theorem eq_fld1 {off : Nat} {cs : List V} {K : V → Prop} : fldK none off (.agg cs) K = (off < cs.length ∧ K (cs.getD off .junk)) := rfl
theorem eq_fld2 {off n : Nat} {cs : List V} {K : V → Prop} : fldK (some n) off (.agg cs) K = (off + n ≤ cs.length ∧ K (.agg ((cs.drop off).take n))) := rfl
theorem eq_ia1 {sz : Nat} {xs : List V} {k : IntKind} {n : Int} {H : List Blk}{K : V → Prop} : iaK H sz (.vs xs) (.int k n) K = (0 ≤ n ∧ n.toNat < xs.length ∧ (xs.getD n.toNat .junk).cells.length = sz ∧ K (.vp (xs.getD n.toNat .junk).cells)) := rfl
theorem eq_ia2 {b m i j len sz sz' : Nat} {cap : Option Nat} {k : IntKind} {n : Int} {H : List Blk}{K : V → Prop} : iaK H sz (.hs b m i j len cap sz') (.int k n) K = (sz' = sz ∧ 0 ≤ n ∧ n.toNat < len ∧ match getB H b with | .row rsz xs _ _ => xs.length = m ∧ K (if rsz = sz then .ptr b m (i + n.toNat) j else .ptr b m i (j + n.toNat * sz)) | _ => False) := rfl
theorem eq_iaA1 {n sz b m e j : Nat} {k : IntKind} {q : Int} {K : V → Prop} : iaAK n sz (.ptr b m e j) (.int k q) K = (0 ≤ q ∧ q.toNat < n ∧ K (.ptr b m e (j + q.toNat * sz))) := rfl
theorem eq_iaA2 {n sz : Nat} {cs : List V} {k : IntKind} {q : Int} {K : V → Prop} : iaAK n sz (.vp cs) (.int k q) K = (0 ≤ q ∧ q.toNat < n ∧ n * sz ≤ cs.length ∧ K (.vp (cs.drop (q.toNat * sz)))) := rfl
theorem eq_ixA {n sz : Nat} {g : Bool} {cs : List V} {k : IntKind} {q : Int} {K : V → Prop} : ixAK n sz g (.agg cs) (.int k q) K = (0 ≤ q ∧ q.toNat < n ∧ n * sz ≤ cs.length ∧ K (if g then .agg ((cs.drop (q.toNat * sz)).take sz) else cs.getD (q.toNat * sz) .junk)) := rfl
theorem eq_ixS {s : List UInt8} {k : IntKind} {n : Int} {K : V → Prop} : ixSK (.str s) (.int k n) K = (0 ≤ n ∧ n.toNat < s.length ∧ K (u8V (s.getD n.toNat 0))) := rfl
theorem eq_ext {vs : List V} {i : Nat} {K : V → Prop} : extK (.tup vs) i K = (i < vs.length ∧ K (vs.getD i .junk)) := rfl
theorem eq_app1 {sz b : Nat} {ys : List V} {H : List Blk}{K : V → List Blk → Prop} : appK sz b .nils ys H K = (Goods sz ys ∧ if ys = [] then K .nils H else roomy ys.length b ∧ K (.hs H.length ys.length 0 0 ys.length none sz) (H ++ [.row sz ys true false])) := rfl
theorem eq_app2 {xs : List V} {sz b : Nat} {ys : List V} {H : List Blk}{K : V → List Blk → Prop} : appK sz b (.vs xs) ys H K = (Goods sz ys ∧ ys = [] ∧ K (.vs xs) H) := rfl
theorem eq_app3 {r n i j len c sz' : Nat} {sz b : Nat} {ys : List V} {H : List Blk}{K : V → List Blk → Prop} : appK sz b (.hs r n i j len (some c) sz') ys H K = (Goods sz ys ∧ sz' = sz ∧ j = 0 ∧ match getB H r with | .row rsz xs opn frz => rsz = sz ∧ xs.length = n ∧ i + len ≤ n ∧ Goods sz xs ∧ (if len + ys.length ≤ c then i + c ≤ n ∧ frz = false ∧ K (.hs r n i 0 (len + ys.length) (some c) sz) (H.set r (.row sz (xs.take (i + len) ++ ys ++ xs.drop (i + len + ys.length)) opn false)) else roomy (len + ys.length) b ∧ K (.hs H.length (len + ys.length) 0 0 (len + ys.length) none sz) (H ++ [.row sz ((xs.drop i).take len ++ ys) true false])) | _ => False) := rfl
theorem eq_app4 {r n i j len sz' : Nat} {sz b : Nat} {ys : List V} {H : List Blk}{K : V → List Blk → Prop} : appK sz b (.hs r n i j len none sz') ys H K = (Goods sz ys ∧ sz' = sz ∧ j = 0 ∧ match getB H r with | .row rsz xs opn frz => rsz = sz ∧ xs.length = n ∧ i + len ≤ n ∧ Goods sz xs ∧ (if i + len + ys.length ≤ n then frz = false ∧ K (.hs r n i 0 (len + ys.length) none sz) (H.set r (.row sz (xs.take (i + len) ++ ys ++ xs.drop (i + len + ys.length)) opn false)) else i = 0 ∧ frz = false ∧ roomy (len + ys.length) b ∧ K (.hs r (len + ys.length) 0 0 (len + ys.length) none sz) (H.set r (.row sz (xs.take len ++ ys) true false))) | _ => False) := rfl
theorem eq_wr1 {b n i j len sz' : Nat} {cap : Option Nat} {sz : Nat} {ys : List V} {H : List Blk}{K : List Blk → Prop} : wrK sz (.hs b n i j len cap sz') ys H K = (Goods sz ys ∧ sz' = sz ∧ ys.length ≤ len ∧ match getB H b with | .row rsz xs opn frz => xs.length = n ∧ frz = false ∧ (if rsz = sz ∧ j = 0 then i + len ≤ n ∧ K (H.set b (.row rsz (xs.take i ++ ys ++ xs.drop (i + ys.length)) opn false)) else sz = 1 ∧ i < n ∧ j + len ≤ rsz ∧ (∀ y ∈ ys, y.one = true) ∧ K (H.set b (.row rsz (xs.set i (.agg (setR (xs.getD i .junk).cells j ys))) opn false))) | _ => False) := rfl
theorem eq_wr2 {sz : Nat} {ys : List V} {H : List Blk}{K : List Blk → Prop} : wrK sz .nils ys H K = (Goods sz ys ∧ ys = [] ∧ K H) := rfl
theorem eq_wr3 {xs : List V} {sz : Nat} {ys : List V} {H : List Blk}{K : List Blk → Prop} : wrK sz (.vs xs) ys H K = (Goods sz ys ∧ ys = [] ∧ K H) := rfl
theorem eq_min {lt : Bool} {k k' : IntKind} {a b : Int} {K : V → Prop} : minK lt (.int k a) (.int k' b) K = (k = k' ∧ K (.int k (if lt then (if b < a then b else a) else (if a < b then b else a)))) := rfl
theorem eq_mks {sz by_ : Nat} {z : V} {C : (Nat → V) → Blk → Prop} {k k' : IntKind} {a b : Int}  : mksK sz by_ z (.int k a) (.int k' b) C = (0 ≤ a ∧ a ≤ b ∧ b < 2 ^ 63 ∧ by_ * b ≤ 2 ^ 48 ∧ C (fun q => .hs q b.toNat 0 0 a.toNat (some b.toNat) sz) (.row sz (List.replicate b.toNat z) false false)) := rfl
theorem eq_s2b {s : List UInt8} {C : (Nat → V) → Blk → Prop} : s2bK (.str s) C = (C (fun q => .hs q s.length 0 0 s.length none 1) (.row 1 (s.map u8V) true false)) := rfl
theorem eq_sl3 {b n i j len sz sz' : Nat} {lo hi : Option V} {c : Nat} {H : List Blk} {K : V → Prop} : slK H sz (.hs b n i j len (some c) sz') lo hi none K = ((Option.isSome (none : Option V) = true → hi.isSome = true) ∧ sz' = sz ∧ bnd len hi fun h => h ≤ c ∧ bnd 0 lo fun l => l ≤ h ∧ slHK H b n i j (some c) sz l h K) := rfl
theorem eq_sl4 {b n i j len sz sz' : Nat} {lo hi : Option V} {H : List Blk} {K : V → Prop} : slK H sz (.hs b n i j len none sz') lo hi none K = ((Option.isSome (none : Option V) = true → hi.isSome = true) ∧ sz' = sz ∧ bnd len hi fun h => h ≤ len ∧ bnd 0 lo fun l => l ≤ h ∧ slHK H b n i j none sz l h K) := rfl
theorem eq_sl5 {b n i j len sz sz' : Nat} {lo hi : Option V} {c : Nat} {mv : V} {H : List Blk} {K : V → Prop} : slK H sz (.hs b n i j len (some c) sz') lo hi (some mv) K = ((Option.isSome (some mv) = true → hi.isSome = true) ∧ sz' = sz ∧ bnd c (some mv) fun m => m ≤ c ∧ bnd len hi fun h => h ≤ m ∧ bnd 0 lo fun l => l ≤ h ∧ slHK H b n i j (some m) sz l h K) := rfl
theorem eq_sl6 {b n i j len sz sz' : Nat} {lo hi : Option V} {mv : V} {H : List Blk} {K : V → Prop} : slK H sz (.hs b n i j len none sz') lo hi (some mv) K = ((Option.isSome (some mv) = true → hi.isSome = true) ∧ sz' = sz ∧ bnd len (some mv) fun m => m ≤ len ∧ bnd len hi fun h => h ≤ m ∧ bnd 0 lo fun l => l ≤ h ∧ slHK H b n i j (some m) sz l h K) := rfl
theorem eq_cells_int {k : IntKind} {n : Int} : V.cells (.int k n) = [.int k n] := rfl
theorem eq_solid_int {k : IntKind} {n : Int} : V.solid (.int k n) = true := rfl
theorem eq_one_int {k : IntKind} {n : Int} : V.one (.int k n) = true := rfl
theorem eq_isStr_int {k : IntKind} {n : Int} : V.isStr (.int k n) = false := rfl
theorem eq_cells_bool {b : Bool} : V.cells (.bool b) = [.bool b] := rfl
theorem eq_solid_bool {b : Bool} : V.solid (.bool b) = true := rfl
theorem eq_one_bool {b : Bool} : V.one (.bool b) = true := rfl
theorem eq_isStr_bool {b : Bool} : V.isStr (.bool b) = false := rfl
theorem eq_cells_str {s : List UInt8} : V.cells (.str s) = [.str s] := rfl
theorem eq_solid_str {s : List UInt8} : V.solid (.str s) = true := rfl
theorem eq_one_str {s : List UInt8} : V.one (.str s) = true := rfl
theorem eq_isStr_str {s : List UInt8} : V.isStr (.str s) = true := rfl
theorem eq_cells_vs {xs : List V} : V.cells (.vs xs) = [.vs xs] := rfl
theorem eq_solid_vs {xs : List V} : V.solid (.vs xs) = true := rfl
theorem eq_one_vs {xs : List V} : V.one (.vs xs) = true := rfl
theorem eq_isStr_vs {xs : List V} : V.isStr (.vs xs) = false := rfl
theorem eq_cells_vp {xs : List V} : V.cells (.vp xs) = [.vp xs] := rfl
theorem eq_solid_vp {xs : List V} : V.solid (.vp xs) = true := rfl
theorem eq_one_vp {xs : List V} : V.one (.vp xs) = true := rfl
theorem eq_isStr_vp {xs : List V} : V.isStr (.vp xs) = false := rfl
theorem eq_cells_nils  : V.cells (.nils) = [.nils] := rfl
theorem eq_solid_nils  : V.solid (.nils) = true := rfl
theorem eq_one_nils  : V.one (.nils) = true := rfl
theorem eq_isStr_nils  : V.isStr (.nils) = false := rfl
theorem eq_cells_nilp  : V.cells (.nilp) = [.nilp] := rfl
theorem eq_solid_nilp  : V.solid (.nilp) = true := rfl
theorem eq_one_nilp  : V.one (.nilp) = true := rfl
theorem eq_isStr_nilp  : V.isStr (.nilp) = false := rfl
theorem eq_cells_nilf  : V.cells (.nilf) = [.nilf] := rfl
theorem eq_solid_nilf  : V.solid (.nilf) = true := rfl
theorem eq_one_nilf  : V.one (.nilf) = true := rfl
theorem eq_isStr_nilf  : V.isStr (.nilf) = false := rfl
theorem eq_cells_hs {b n i j l sz : Nat} {c : Option Nat} : V.cells (.hs b n i j l c sz) = [.hs b n i j l c sz] := rfl
theorem eq_solid_hs {b n i j l sz : Nat} {c : Option Nat} : V.solid (.hs b n i j l c sz) = true := rfl
theorem eq_one_hs {b n i j l sz : Nat} {c : Option Nat} : V.one (.hs b n i j l c sz) = true := rfl
theorem eq_isStr_hs {b n i j l sz : Nat} {c : Option Nat} : V.isStr (.hs b n i j l c sz) = false := rfl
theorem eq_cells_ptr {b n i j : Nat} : V.cells (.ptr b n i j) = [.ptr b n i j] := rfl
theorem eq_solid_ptr {b n i j : Nat} : V.solid (.ptr b n i j) = true := rfl
theorem eq_one_ptr {b n i j : Nat} : V.one (.ptr b n i j) = true := rfl
theorem eq_isStr_ptr {b n i j : Nat} : V.isStr (.ptr b n i j) = false := rfl
theorem eq_cells_map {b : Nat} : V.cells (.map b) = [.map b] := rfl
theorem eq_solid_map {b : Nat} : V.solid (.map b) = true := rfl
theorem eq_one_map {b : Nat} : V.one (.map b) = true := rfl
theorem eq_isStr_map {b : Nat} : V.isStr (.map b) = false := rfl
theorem eq_cells_fn {f : Fn} {x y : List V} : V.cells (.fn f x y) = [.fn f x y] := rfl
theorem eq_solid_fn {f : Fn} {x y : List V} : V.solid (.fn f x y) = true := rfl
theorem eq_one_fn {f : Fn} {x y : List V} : V.one (.fn f x y) = true := rfl
theorem eq_isStr_fn {f : Fn} {x y : List V} : V.isStr (.fn f x y) = false := rfl
theorem eq_cells_agg {cs : List V} : V.cells (.agg cs) = cs := rfl
theorem eq_solid_agg {cs : List V} : V.solid (.agg cs) = true := rfl
theorem eq_one_agg {cs : List V} : V.one (.agg cs) = false := rfl
theorem eq_isStr_agg {cs : List V} : V.isStr (.agg cs) = false := rfl
theorem eq_cells_tup {cs : List V} : V.cells (.tup cs) = [.tup cs] := rfl
theorem eq_solid_tup {cs : List V} : V.solid (.tup cs) = false := rfl
theorem eq_one_tup {cs : List V} : V.one (.tup cs) = false := rfl
theorem eq_isStr_tup {cs : List V} : V.isStr (.tup cs) = false := rfl
theorem eq_cells_junk  : V.cells (.junk) = [.junk] := rfl
theorem eq_solid_junk  : V.solid (.junk) = false := rfl
theorem eq_one_junk  : V.one (.junk) = false := rfl
theorem eq_isStr_junk  : V.isStr (.junk) = false := rfl
theorem eq_eqT {neg : Bool} {ks : List Nat} {as bs : List V} {K : V → Prop} : eqTK neg ks (.agg as) (.agg bs) K = (match eqs ks as bs with | some r => K (.bool (bif neg then !r else r)) | none => False) := rfl
theorem eq_eqs0 : eqs [] [] [] = some true := rfl
theorem eq_eqs1 {k : Nat} {ks : List Nat} {a b : V} {as bs : List V} : eqs (k :: ks) (a :: as) (b :: bs) = (match eq1 k a b, eqs ks as bs with | some x, some y => some (x && y) | _, _ => none) := rfl
theorem eq_one0 {k : IntKind} {a b : Int} : eq1 0 (.int k a) (.int k b) = some (decide (a = b)) := by simp [eq1]
theorem eq_one1 {a b : Bool} : eq1 1 (.bool a) (.bool b) = some (a == b) := rfl
theorem eq_one2 {a b : List UInt8} : eq1 2 (.str a) (.str b) = some (a == b) := rfl
theorem eq_nilq1 {neg : Bool} {K : V → Prop} : nilqK neg .nils K = K (.bool !neg) := rfl
theorem eq_nilq2 {neg : Bool} {xs : List V} {K : V → Prop} : nilqK neg (.vs xs) K = K (.bool neg) := rfl
theorem eq_updf {x v : V} {n : Nat} : upd x n 0 n v = v := by simp [upd]
theorem eq_updp {x v : V} {sz j m : Nat} (h : ¬ (j = 0 ∧ m = sz)) : upd x sz j m v = .agg (setR x.cells j v.cells) := by simp only [upd, if_neg h]
theorem eq_subf {x : V} {n : Nat} : sub x n 0 n = .agg x.cells := by simp [sub]
theorem eq_subp {x : V} {sz j m : Nat} (h : ¬ (j = 0 ∧ m = sz)) : sub x sz j m = .agg ((x.cells.drop j).take m) := by simp only [sub, if_neg h]
theorem eq_setnew {H : List Blk} {k k' : Blk} : (H ++ [k]).set H.length k' = H ++ [k'] := by simp
theorem eq_eqB0 {a b : Bool} {K : V → Prop} : eqBK false (.bool a) (.bool b) K = K (.bool (a == b)) := rfl
theorem eq_eqB1 {a b : Bool} {K : V → Prop} : eqBK true (.bool a) (.bool b) K = K (.bool (!(a == b))) := rfl


theorem pickK_t {a b : V} {K : V → Prop} : pickK (.bool true) a b K = K a := rfl
theorem pickK_f {a b : V} {K : V → Prop} : pickK (.bool false) a b K = K b := rfl
theorem pickK_n {x : Bool} {a b : V} {K : V → Prop} : pickK (.bool !x) a b K = pickK (.bool x) b a K := by cases x <;> rfl

theorem ieq (a b : Int) : (a == b) = decide (a = b) := rfl
theorem ine (a b : Int) : (a != b) = !decide (a = b) := rfl
theorem frz_int {im : Bool} {H : List Blk} {k : IntKind} {a b : Int} (h : a = b) : Frz im H (.int k a) (.int k b) := by subst h; exact .free (.int _ _)
theorem frz_bool {im : Bool} {H : List Blk} {a b : Bool} (h : a = b) : Frz im H (.bool a) (.bool b) := by subst h; exact .free (.bool _)

/-- A list of numbers. -/
def ints (l : List Int) : List V := l.map (.int .i64)
theorem ints_nil : ints [] = [] := rfl
theorem ints_length (l : List Int) : (ints l).length = l.length := by simp [ints]
theorem ints_getD {l : List Int} {i : Nat} (h : i < l.length) : (ints l).getD i .junk = .int .i64 (l.getD i 0) := by simp [ints, List.getD_eq_getElem?_getD, h]
theorem ints_take (l : List Int) (n : Nat) : (ints l).take n = ints (l.take n) := by simp [ints]
theorem ints_drop (l : List Int) (n : Nat) : (ints l).drop n = ints (l.drop n) := by simp [ints]
theorem ints_append (l m : List Int) : ints l ++ ints m = ints (l ++ m) := by simp [ints]
theorem ints_goods (l : List Int) : Goods 1 (ints l) := by
  intro y hy
  simp only [ints, List.mem_map] at hy
  obtain ⟨n, _, rfl⟩ := hy
  exact ⟨rfl, by simp [V.cells, V.one]⟩
theorem ints_free (im : Bool) (l : List Int) : ∀ i j, i < (ints l).length → j < ((ints l).getD i .junk).cells.length → Free im (((ints l).getD i .junk).cells.getD j .junk) := by
  intro i j hi hj
  rw [ints_length] at hi
  rw [ints_getD hi] at hj ⊢
  simp [V.cells] at hj
  subst hj
  exact .int _ _
theorem free_ints (l : List Int) : Free true (.vs (ints l)) := .vs rfl (ints_free true l)
/-- A slice of numbers, nil or not. -/
def IsI (v : V) (l : List Int) : Prop := (v = .nils ∧ l = []) ∨ v = .vs (ints l)
theorem IsI.free {v : V} {l : List Int} (h : IsI v l) : Free true v := by
  rcases h with ⟨rfl, _⟩ | rfl
  · exact .nils
  · exact free_ints l
theorem lenK_isI {v : V} {l : List Int} (h : IsI v l) {H : List Blk} {K : V → Prop} : lenK 1 H v K = K (.int .i64 l.length) := by
  rcases h with ⟨rfl, rfl⟩ | rfl
  · rfl
  · simp only [lenK, ints_length]
theorem iaK_isI {v : V} {l : List Int} (h : IsI v l) {H : List Blk} {k : IntKind} {n : Int} {K : V → Prop} (h0 : 0 ≤ n) (hn : n.toNat < l.length) : iaK H 1 v (.int k n) K = K (.vp [.int .i64 (l.getD n.toNat 0)]) := by
  rcases h with ⟨rfl, rfl⟩ | rfl
  · simp at hn
  · simp only [iaK, ints_length, ints_getD hn, V.cells, List.length_cons, List.length_nil]
    simp [h0, hn]
theorem elemsK_isI {v : V} {l : List Int} (h : IsI v l) {H : List Blk} {K : List V → Prop} : elemsK H v K = K (ints l) := by
  rcases h with ⟨rfl, rfl⟩ | rfl <;> rfl
theorem isI_vs (l : List Int) : IsI (.vs (ints l)) l := .inr rfl
theorem isI_nil : IsI .nils [] := .inl ⟨rfl, rfl⟩
theorem fr0 : ∀ a ∈ ([] : List V), Free true a := by simp
theorem fr1 {x : V} (h : Free true x) : ∀ a ∈ [x], Free true a := by simpa using h
theorem fr2 {x y : V} (h : Free true x) (h' : Free true y) : ∀ a ∈ [x, y], Free true a := by simp [h, h']
theorem fr3 {x y z : V} (h : Free true x) (h' : Free true y) (h'' : Free true z) : ∀ a ∈ [x, y, z], Free true a := by simp [h, h', h'']
theorem ints_cons (n : Int) (l : List Int) : ints (n :: l) = .int .i64 n :: ints l := rfl
/-- A row of numbers, frozen. -/
theorem frz_row {im : Bool} {H : List Blk} {b n len : Nat} {cap : Option Nat} {l : List Int} {opn frz : Bool} (hH : getB H b = .row 1 (ints l) opn frz) (hn : l.length = n) (hl : len = n) : Frz im H (.hs b n 0 0 len cap 1) (.vs (ints l)) := by
  subst hl hn
  refine .hs hH (ints_length l) (by omega) (ints_length l) (fun k hk => by rw [ints_getD hk]; rfl) fun k j hk hj => ?_
  obtain rfl : j = 0 := by omega
  rw [Nat.zero_add, ints_getD hk]
  exact .free (.int _ _)

/-- A row of numbers. -/
theorem frz_ints {im : Bool} {H : List Blk} {b len : Nat} {cap : Option Nat} {xs : List V} {l : List Int} {opn frz : Bool} (hH : getB H b = .row 1 xs opn frz) (hx : xs = ints l) (hl : len = l.length) : Frz im H (.hs b len 0 0 len cap 1) (.vs (ints l)) := by
  subst hx hl
  exact frz_row hH rfl rfl

theorem getB_hd (k : Blk) (H : List Blk) : getB (k :: H) 0 = k := rfl
theorem getB_tl (k : Blk) (H : List Blk) (n : Nat) : getB (k :: H) (n + 1) = getB H n := rfl
theorem getB_new (H : List Blk) (k : Blk) : getB (H ++ [k]) H.length = k := by simp [getB, List.getD_eq_getElem?_getD]
theorem goods_nil (sz : Nat) : Goods sz [] = True := by simp [Goods]
theorem goods_cons (sz : Nat) (y : V) (ys : List V) : Goods sz (y :: ys) = (Good sz y ∧ Goods sz ys) := by simp [Goods]
theorem good_int (k : IntKind) (n : Int) : Good 1 (.int k n) = True := by simp [Good, V.cells, V.one]
theorem good_bool (b : Bool) : Good 1 (.bool b) = True := by simp [Good, V.cells, V.one]
theorem good_str (s : List UInt8) : Good 1 (.str s) = True := by simp [Good, V.cells, V.one]
theorem good_vs (l : List V) : Good 1 (.vs l) = True := by simp [Good, V.cells, V.one]
theorem good_nils : Good 1 .nils = True := by simp [Good, V.cells, V.one]
theorem good_ptr (b n i j : Nat) : Good 1 (.ptr b n i j) = True := by simp [Good, V.cells, V.one]
theorem good_hs (b n i j l sz : Nat) (c : Option Nat) : Good 1 (.hs b n i j l c sz) = True := by simp [Good, V.cells, V.one]
theorem good_agg (n : Nat) (cs : List V) : Good n (.agg cs) = (cs.length = n ∧ ∀ c ∈ cs, c.one = true) := rfl
theorem ints_goods' (l : List Int) : Goods 1 (ints l) = True := eq_true (ints_goods l)
theorem ints_cells (l : List Int) : (∀ y ∈ ints l, y.cells.length = 1) = True := eq_true (goods_len (ints_goods l))
theorem roomy_of {n b : Nat} (h1 : n ≤ 1099511627776) (h2 : b ≤ 128) : roomy n b := by
  unfold roomy
  have := Nat.mul_le_mul h1 h2
  omega

/-- A slice that is all of its row; or nil, as long as it has nothing. -/
def Own (sz : Nat) (H : List Blk) (v : V) (xs : List V) : Prop := (v = .nils ∧ xs = []) ∨ ∃ b cap opn, v = .hs b xs.length 0 0 xs.length cap sz ∧ getB H b = .row sz xs opn false ∧ (cap = none ∨ cap = some xs.length)
theorem Own.nil (sz : Nat) (H : List Blk) : Own sz H .nils [] := .inl ⟨rfl, rfl⟩
theorem Own.hs {sz b n : Nat} {H : List Blk} {cap : Option Nat} {xs : List V} {opn : Bool} (hn : n = xs.length) (h : getB H b = .row sz xs opn false) (hc : cap = none ∨ cap = some xs.length) : Own sz H (.hs b n 0 0 n cap sz) xs := by
  subst hn; exact .inr ⟨b, cap, opn, rfl, h, hc⟩
theorem Own.grow {sz : Nat} {H : List Blk} {v : V} {xs : List V} (h : Own sz H v xs) (T : List Blk) : Own sz (H ++ T) v xs := by
  rcases h with h | ⟨b, cap, opn, h1, h2, h3⟩
  · exact .inl h
  · exact .inr ⟨b, cap, opn, h1, getB_app h2, h3⟩
theorem getB_lt' {H : List Blk} {b : Nat} {sz : Nat} {xs : List V} {opn frz : Bool} (h : getB H b = .row sz xs opn frz) : b < H.length := by
  rcases Nat.lt_or_ge b H.length with h' | h'
  · exact h'
  · simp [getB, List.getD_eq_getElem?_getD, List.getElem?_eq_none h'] at h
theorem getB_set {H : List Blk} {b : Nat} (k : Blk) (h : b < H.length) : getB (H.set b k) b = k := by simp [getB, List.getD_eq_getElem?_getD, h]
theorem getB_set_ne {H : List Blk} {b c : Nat} (k : Blk) (h : b ≠ c) : getB (H.set b k) c = getB H c := by simp [getB, List.getD_eq_getElem?_getD, h]
/-- Appending to such a slice: the blocks of others stay. -/
theorem Own.app' {sz by_ : Nat} {H : List Blk} {v : V} {xs ys : List V} {K : V → List Blk → Prop} (h : Own sz H v xs) (hx : Goods sz xs) (hy : Goods sz ys) (hr : roomy (xs.length + ys.length) by_)
    (hk : ∀ v' H', Own sz H' v' (xs ++ ys) → H.length ≤ H'.length → (∀ c, c < H.length → (∀ n i j l cap s, v ≠ .hs c n i j l cap s) → getB H' c = getB H c) → K v' H') : appK sz by_ v ys H K := by
  have new : ∀ (k : Blk) c, c < H.length → getB (H ++ [k]) c = getB H c := fun k c hc => getB_app' hc
  rcases h with ⟨rfl, rfl⟩ | ⟨b, cap, opn, rfl, hb, hc⟩
  · rw [eq_app1]
    refine ⟨hy, ?_⟩
    split
    · rename_i h0
      subst h0
      exact hk _ _ (Own.nil _ _) (Nat.le_refl _) fun _ _ _ => rfl
    · exact ⟨by simpa using hr, hk _ _ (Own.hs (by simp) (getB_new _ _) (.inl rfl)) (by simp) fun c hc _ => new _ c hc⟩
  · have hne : ∀ (k : Blk) c, c < H.length → (∀ n i j l cap s, V.hs b xs.length 0 0 xs.length cap sz ≠ .hs c n i j l cap s) → getB (H.set b k) c = getB H c := by
      intro k c hcl hn
      refine getB_set_ne _ ?_
      rintro rfl
      exact hn _ _ _ _ none _ rfl
    rcases hc with rfl | rfl
    · rw [eq_app4]
      refine ⟨hy, rfl, rfl, ?_⟩
      rw [hb]
      refine ⟨rfl, rfl, by omega, hx, ?_⟩
      split
      · rename_i h0
        have : ys = [] := List.length_eq_zero_iff.1 (by omega)
        subst this
        refine ⟨rfl, hk _ _ (.inr ⟨b, none, opn, by simp, ?_, .inl rfl⟩) (by simp) fun c hcl hn => getB_set_ne _ (by rintro rfl; exact hn _ _ _ _ _ _ rfl)⟩
        rw [getB_set _ (getB_lt' hb)]
        simp
      · refine ⟨rfl, rfl, hr, hk _ _ (.inr ⟨b, none, true, by simp, ?_, .inl rfl⟩) (by simp) fun c hcl hn => getB_set_ne _ (by rintro rfl; exact hn _ _ _ _ _ _ rfl)⟩
        rw [getB_set _ (getB_lt' hb), List.take_length]
    · rw [eq_app3]
      refine ⟨hy, rfl, rfl, ?_⟩
      rw [hb]
      refine ⟨rfl, rfl, by omega, hx, ?_⟩
      split
      · rename_i h0
        have : ys = [] := List.length_eq_zero_iff.1 (by omega)
        subst this
        refine ⟨by omega, rfl, hk _ _ (.inr ⟨b, some xs.length, opn, by simp, ?_, .inr (by simp)⟩) (by simp) fun c hcl hn => getB_set_ne _ (by rintro rfl; exact hn _ _ _ _ _ _ rfl)⟩
        rw [getB_set _ (getB_lt' hb)]
        simp
      · refine ⟨hr, hk _ _ (Own.hs (by simp) (by rw [getB_new, List.drop_zero, List.take_length]) (.inl rfl)) (by simp) fun c hcl _ => new _ c hcl⟩
theorem Own.app {sz by_ : Nat} {H : List Blk} {v : V} {xs ys : List V} {K : V → List Blk → Prop} (h : Own sz H v xs) (hx : Goods sz xs) (hy : Goods sz ys) (hr : roomy (xs.length + ys.length) by_) (hk : ∀ v' H', Own sz H' v' (xs ++ ys) → K v' H') : appK sz by_ v ys H K :=
  h.app' hx hy hr fun v' H' h' _ _ => hk v' H' h'
theorem Own.frz {im : Bool} {H : List Blk} {v : V} {l : List Int} (h : Own 1 H v (ints l)) (hl : l ≠ []) : Frz im H v (.vs (ints l)) := by
  rcases h with ⟨_, h⟩ | ⟨b, cap, opn, rfl, hb, _⟩
  · exact absurd (by simpa [ints] using h) hl
  · rw [ints_length]
    exact frz_row hb rfl rfl
theorem Own.isI {im : Bool} {H : List Blk} {v : V} {l : List Int} (h : Own 1 H v (ints l)) : ∃ v', IsI v' l ∧ Frz im H v v' := by
  rcases h with ⟨rfl, h⟩ | ⟨b, cap, opn, rfl, hb, _⟩
  · exact ⟨.nils, .inl ⟨rfl, by simpa [ints] using h⟩, .free .nils⟩
  · rw [ints_length]
    exact ⟨_, .inr rfl, frz_row hb rfl rfl⟩
theorem frz_tup2 {im : Bool} {H : List Blk} {a b a' b' : V} (h : Frz im H a a') (h' : Frz im H b b') : Frz im H (.tup [a, b]) (.tup [a', b']) := by
  refine .tup rfl fun i hi => ?_
  have : i = 0 ∨ i = 1 := by simp at hi; omega
  rcases this with rfl | rfl
  · exact h
  · exact h'

theorem wrap_of {k : IntKind} {n : Int} (h1 : k.min ≤ n) (h2 : n ≤ k.max) : k.wrap n = n := by
  cases k <;> simp [IntKind.min, IntKind.max, IntKind.signed, IntKind.bits] at h1 h2 <;> simp [IntKind.wrap, IntKind.signed, IntKind.bits] <;> (try split) <;> omega

theorem wrap64 {n : Int} (h1 : -9223372036854775808 ≤ n) (h2 : n ≤ 9223372036854775807) : IntKind.i64.wrap n = n := by
  rw [IntKind.wrap_i64]; omega

theorem typ_int {P : Program} {M : Nat} {t : TypeId} {k : IntKind} {v : V} (hu : P.underlying t = some (.int k)) (h : Typ P M t v) : ∃ n, v = .int k n ∧ k.min ≤ n ∧ n ≤ k.max := by
  obtain ⟨n, cs, rfl, h⟩ := h
  cases n with
  | zero => exact h.elim
  | succ n =>
    simp only [TypN, hu] at h
    obtain ⟨m, rfl, hw⟩ := h
    exact ⟨m, by simp [mkV, hu], by simpa [Lit.wf] using hw⟩

theorem typ_ints {P : Program} {M : Nat} {t e : TypeId} {v : V} (hu : P.underlying t = some (.slice e)) (he : P.underlying e = some (.int .i64)) (h : Typ P M t v) : ∃ l, IsI v l ∧ l.length ≤ M ∧ ∀ n ∈ l, IntKind.i64.min ≤ n ∧ n ≤ IntKind.i64.max := by
  obtain ⟨n, cs, rfl, h⟩ := h
  cases n with
  | zero => exact h.elim
  | succ n =>
    simp only [TypN, hu] at h
    rcases h with rfl | ⟨xs, rfl, hl, hx⟩
    · exact ⟨[], .inl ⟨by simp [mkV, hu], rfl⟩, by simp, by simp⟩
    · have : ∃ l : List Int, xs = ints l ∧ ∀ n ∈ l, IntKind.i64.min ≤ n ∧ n ≤ IntKind.i64.max := by
        clear hl
        induction xs with
        | nil => exact ⟨[], rfl, by simp⟩
        | cons x xs ih =>
          obtain ⟨l, rfl, hl⟩ := ih fun y hy => hx y (by simp [hy])
          obtain ⟨cs, hxe, hc⟩ := hx x (by simp)
          cases n with
          | zero => exact hc.elim
          | succ n =>
            simp only [TypN, he] at hc
            obtain ⟨m, rfl, hw⟩ := hc
            have hm : x = .int .i64 m := by rw [hxe]; simp [mkV, he]
            subst hm
            exact ⟨m :: l, rfl, by
              intro q hq
              rcases List.mem_cons.1 hq with rfl | hq
              · simpa [Lit.wf] using hw
              · exact hl q hq⟩
      obtain ⟨l, rfl, hw⟩ := this
      exact ⟨l, .inr (by simp [mkV, hu]), by simpa [ints_length] using hl, hw⟩

theorem typ_one {P : Program} {M : Nat} {t : TypeId} {Vs : List V} (h : TypAll P M [t] Vs) : ∃ v, Vs = [v] ∧ Typ P M t v := by
  rcases Vs with _ | ⟨v, _ | ⟨_, _⟩⟩ <;> first | exact h.elim | exact h.2.elim | exact ⟨v, rfl, h.1⟩
theorem typ_two {P : Program} {M : Nat} {t u : TypeId} {Vs : List V} (h : TypAll P M [t, u] Vs) : ∃ v x, Vs = [v, x] ∧ Typ P M t v ∧ Typ P M u x := by
  rcases Vs with _ | ⟨v, Vs⟩
  · exact h.elim
  · obtain ⟨x, rfl, hx⟩ := typ_one h.2
    exact ⟨v, x, rfl, h.1, hx⟩
theorem typ_three {P : Program} {M : Nat} {t u s : TypeId} {Vs : List V} (h : TypAll P M [t, u, s] Vs) : ∃ v x y, Vs = [v, x, y] ∧ Typ P M t v ∧ Typ P M u x ∧ Typ P M s y := by
  rcases Vs with _ | ⟨v, Vs⟩
  · exact h.elim
  · obtain ⟨x, y, rfl, hx, hy⟩ := typ_two h.2
    exact ⟨v, x, y, rfl, h.1, hx, hy⟩

theorem frzs1 {im : Bool} {H : List Blk} {a a' : V} (h : Frz im H a a') : Frzs im H [a] [a'] := ⟨rfl, fun i hi => by obtain rfl : i = 0 := (by simpa using hi); exact h⟩
theorem frzs2 {im : Bool} {H : List Blk} {a b a' b' : V} (h : Frz im H a a') (h' : Frz im H b b') : Frzs im H [a, b] [a', b'] := ⟨rfl, fun i hi => by
  have : i = 0 ∨ i = 1 := by simp at hi; omega
  rcases this with rfl | rfl
  · exact h
  · exact h'⟩
theorem glob0 (Z : Nat → Prop) (w : World) : GlobOK (fun _ => none) Z w := fun g cs h => by cases h

set_option linter.defProp false in
/-- The equations of a symbolic step, all in one. -/
def mwx := And.intro (And.intro (And.intro (And.intro (And.intro (And.intro (And.intro (And.intro @xw_start @xw_skip) (And.intro @xw_reg @xw_seq)) (And.intro (And.intro @xw_cond @xw_block) (And.intro @xw_exit (And.intro @xw_ret @xw_label)))) (And.intro (And.intro (And.intro @xw_scope @xe_n_sc) (And.intro @xe_x_sc (And.intro @xe_r_sc @xe_nil))) (And.intro (And.intro @xe_n_seq @xe_n_blk) (And.intro @xe_n_lp (And.intro @xe_x_seq @xe_x_lp))))) (And.intro (And.intro (And.intro (And.intro @xe_x_hit @xe_x_miss) (And.intro @xe_r_seq (And.intro @xe_r_lp @xe_r_blk))) (And.intro (And.intro @xk_some @xk_none) (And.intro @xo_nil (And.intro @xo_o @xo_s)))) (And.intro (And.intro (And.intro @xo_go @xo_gs) (And.intro @xo_qq (And.intro @xo_qg @xg_tt))) (And.intro (And.intro @xg_tf @xg_ft) (And.intro @xg_ff (And.intro @xg_nt @xg_nf)))))) (And.intro (And.intro (And.intro (And.intro (And.intro @xc_t @xc_f) (And.intro @xc_n @atH_ap)) (And.intro (And.intro @bdk_ap @bsk_ap) (And.intro @mkk_ap (And.intro @apk_ap @cpn_ap)))) (And.intro (And.intro (And.intro @jkk_ap @cpl_ap) (And.intro @cll_ap (And.intro @cpk_ap @b2k_ap))) (And.intro (And.intro @st_mv @st_pick) (And.intro @st_new (And.intro @st_box @st_bslice))))) (And.intro (And.intro (And.intro (And.intro @st_s2b @st_mks) (And.intro @st_mkm (And.intro @st_build @st_ld))) (And.intro (And.intro @st_st @st_nchk) (And.intro @st_bin (And.intro @st_eqT @st_eqB)))) (And.intro (And.intro (And.intro @st_nilq @st_un) (And.intro @st_cvi (And.intro @st_b2s @st_mkf))) (And.intro (And.intro @st_slS @st_sl) (And.intro @st_slA (And.intro @st_fa @st_fld))))))) (And.intro (And.intro (And.intro (And.intro (And.intro (And.intro @st_ia @st_iaA) (And.intro @st_ixA @st_ixS)) (And.intro (And.intro @st_ext @st_len) (And.intro @st_lenC (And.intro @st_app @st_cpy)))) (And.intro (And.intro (And.intro @st_clr @st_min) (And.intro @st_max (And.intro @st_call @st_callv))) (And.intro (And.intro @ints_cells @ints_take) (And.intro @ints_drop (And.intro @Nat.sub_zero @Nat.zero_le))))) (And.intro (And.intro (And.intro (And.intro @getB_hd @getB_tl) (And.intro @getB_new (And.intro @goods_nil @goods_cons))) (And.intro (And.intro @good_int @good_bool) (And.intro @good_str (And.intro @good_vs @good_nils)))) (And.intro (And.intro (And.intro @good_ptr @good_hs) (And.intro @good_agg (And.intro @ints_goods' @List.drop_zero.{0}))) (And.intro (And.intro @List.take_zero.{0} @List.take_succ_cons.{0}) (And.intro @List.drop_succ_cons.{0} (And.intro @pickK_t @pickK_f)))))) (And.intro (And.intro (And.intro (And.intro (And.intro @pickK_n @ieq) (And.intro @ine (And.intro @wrap64 @ints_nil))) (And.intro (And.intro @ints_length @ints_getD) (And.intro @List.map_cons.{0,0} (And.intro @List.map_nil.{0,0} @List.getD_cons_zero.{0})))) (And.intro (And.intro (And.intro @List.getD_cons_succ.{0} @List.length_cons.{0}) (And.intro @List.length_nil.{0} (And.intro @Option.map_some.{0,0} @Option.map_none.{0,0}))) (And.intro (And.intro @Option.isSome_none.{0} @Option.isSome_some.{0}) (And.intro @if_true.{1} (And.intro @if_false.{1} @decide_true))))) (And.intro (And.intro (And.intro (And.intro @decide_false @Bool.not_true) (And.intro @Bool.not_false (And.intro @Bool.not_not @true_and))) (And.intro (And.intro @and_true @cond_true.{1}) (And.intro @cond_false.{1} (And.intro @Bool.true_and @Bool.false_and)))) (And.intro (And.intro (And.intro @Nat.zero_add @Nat.add_zero) (And.intro @List.nil_append.{0} (And.intro @List.append_nil.{0} @not_false_eq_true))) (And.intro (And.intro @not_true_eq_false @Bool.false_eq_true) (And.intro @Nat.lt_irrefl (And.intro @Nat.le_refl @or_true)))))))) (And.intro (And.intro (And.intro (And.intro (And.intro (And.intro (And.intro @true_or @false_or) (And.intro @Int.toNat_natCast @Int.natCast_nonneg)) (And.intro (And.intro @List.cons_append.{0} @List.append_assoc.{0}) (And.intro @List.mem_cons.{0} (And.intro @List.not_mem_nil.{0} @List.replicate_succ.{0})))) (And.intro (And.intro (And.intro @List.replicate_zero.{0} @List.set_cons_zero.{0}) (And.intro @List.set_cons_succ.{0} (And.intro @eq_ld1 @eq_ld2))) (And.intro (And.intro @eq_ld3 @eq_ld4) (And.intro @eq_st (And.intro @eq_nchk1 @eq_nchk2))))) (And.intro (And.intro (And.intro (And.intro @eq_nchk3 @eq_iadd) (And.intro @eq_isub (And.intro @eq_imul @eq_iquo))) (And.intro (And.intro @eq_irem @eq_iand) (And.intro @eq_ior (And.intro @eq_ixor @eq_iandNot)))) (And.intro (And.intro (And.intro @eq_ishl @eq_ishr) (And.intro @eq_ieql (And.intro @eq_ineq @eq_ilss))) (And.intro (And.intro @eq_ileq @eq_igtr) (And.intro @eq_igeq (And.intro @eq_sadd @eq_seql)))))) (And.intro (And.intro (And.intro (And.intro (And.intro @eq_sneq @eq_slss) (And.intro @eq_sleq (And.intro @eq_sgtr @eq_sgeq))) (And.intro (And.intro @eq_not @eq_neg) (And.intro @eq_com (And.intro @eq_cvi @eq_el1)))) (And.intro (And.intro (And.intro @eq_el2 @eq_el3) (And.intro @eq_el4 (And.intro @eq_len0 @eq_len1))) (And.intro (And.intro @eq_len2 @eq_len3) (And.intro @eq_bnd1 (And.intro @eq_bnd2 @eq_slS))))) (And.intro (And.intro (And.intro (And.intro @eq_sl1 @eq_sl2) (And.intro @eq_slA (And.intro @eq_fa1 @eq_fa2))) (And.intro (And.intro @eq_fld1 @eq_fld2) (And.intro @eq_ia1 (And.intro @eq_ia2 @eq_iaA1)))) (And.intro (And.intro (And.intro @eq_iaA2 @eq_ixA) (And.intro @eq_ixS (And.intro @eq_ext @eq_wr1))) (And.intro (And.intro @eq_wr2 @eq_wr3) (And.intro @eq_min (And.intro @eq_mks @eq_s2b))))))) (And.intro (And.intro (And.intro (And.intro (And.intro (And.intro @eq_sl3 @eq_sl4) (And.intro @eq_sl5 @eq_sl6)) (And.intro (And.intro @eq_cells_int @eq_solid_int) (And.intro @eq_one_int (And.intro @eq_isStr_int @eq_cells_bool)))) (And.intro (And.intro (And.intro @eq_solid_bool @eq_one_bool) (And.intro @eq_isStr_bool (And.intro @eq_cells_str @eq_solid_str))) (And.intro (And.intro @eq_one_str @eq_isStr_str) (And.intro @eq_cells_vs (And.intro @eq_solid_vs @eq_one_vs))))) (And.intro (And.intro (And.intro (And.intro @eq_isStr_vs @eq_cells_vp) (And.intro @eq_solid_vp (And.intro @eq_one_vp @eq_isStr_vp))) (And.intro (And.intro @eq_cells_nils @eq_solid_nils) (And.intro @eq_one_nils (And.intro @eq_isStr_nils @eq_cells_nilp)))) (And.intro (And.intro (And.intro @eq_solid_nilp @eq_one_nilp) (And.intro @eq_isStr_nilp (And.intro @eq_cells_nilf @eq_solid_nilf))) (And.intro (And.intro @eq_one_nilf @eq_isStr_nilf) (And.intro @eq_cells_hs (And.intro @eq_solid_hs @eq_one_hs)))))) (And.intro (And.intro (And.intro (And.intro (And.intro @eq_isStr_hs @eq_cells_ptr) (And.intro @eq_solid_ptr (And.intro @eq_one_ptr @eq_isStr_ptr))) (And.intro (And.intro @eq_cells_map @eq_solid_map) (And.intro @eq_one_map (And.intro @eq_isStr_map @eq_cells_fn)))) (And.intro (And.intro (And.intro @eq_solid_fn @eq_one_fn) (And.intro @eq_isStr_fn (And.intro @eq_cells_agg @eq_solid_agg))) (And.intro (And.intro @eq_one_agg @eq_isStr_agg) (And.intro @eq_cells_tup (And.intro @eq_solid_tup @eq_one_tup))))) (And.intro (And.intro (And.intro (And.intro @eq_isStr_tup @eq_cells_junk) (And.intro @eq_solid_junk (And.intro @eq_one_junk @eq_isStr_junk))) (And.intro (And.intro @eq_eqT @eq_eqs0) (And.intro @eq_eqs1 (And.intro @eq_one0 @eq_one1)))) (And.intro (And.intro (And.intro @eq_one2 @eq_nilq1) (And.intro @eq_nilq2 (And.intro @eq_updf @eq_updp))) (And.intro (And.intro @eq_subf @eq_subp) (And.intro @eq_setnew (And.intro @eq_eqB0 @eq_eqB1))))))))

end Go.MW
