/- Arena: the arguments' types. -/
import Derived.Test.YtphbhoggcddgmaaDoorMwG
import Derived.Test.YtphbhoggcddgmaaDoorMwArL2
namespace Go.Proofs.YtphbhoggcddgmaaDoor
open Go Go.MW Go.ChangeShapes Go.WideShapes Go.ChangeAt Go.RowKit
set_option linter.unusedVariables false
set_option linter.unusedSimpArgs false

theorem typN_seg {M n : Nat} {cs : List V} (h : TypN Tryd.prog M n 47 cs) : ∃ a, mkV Tryd.prog 47 cs = segE.f a ∧ a.2 < 2 ^ 64 := by
  obtain ⟨m, h⟩ := typN_fs Tryd.underlying47 h
  obtain ⟨a, b, rfl, h1, h⟩ := typFs_cons h
  obtain ⟨c, d, rfl, h2, h⟩ := typFs_cons h
  obtain rfl := typFs_nil h
  obtain ⟨x, rfl, _⟩ := typN_int Tryd.underlying3 h1
  obtain ⟨y, rfl, hy⟩ := typN_int Tryd.underlying45 h2
  obtain ⟨u, rfl, hu⟩ := u64_nat hy
  exact ⟨(x, u), by simp [mkV, Tryd.underlying47, seg_f], hu⟩
theorem typ_segs {M : Nat} {v : V} (h : Typ Tryd.prog M 22 v) : ∃ l, IsE segE v l ∧ SegOK l ∧ l.length ≤ M :=
  typ_list (Q := fun a : Sg => a.2 < 2 ^ 64) Tryd.underlying22 (fun _ _ h => typN_seg h) h
theorem typ_slot {M : Nat} {v : V} (h : Typ Tryd.prog M 24 v) : ∃ s a : Int, v = .agg [.int .i64 s, .int .i64 a] := by
  obtain ⟨m, vs, rfl, h0⟩ := typ_struct Tryd.underlying24 h
  obtain ⟨a, b, rfl, h1, h2'⟩ := typFs_cons h0
  obtain ⟨c, d, rfl, h2, h3⟩ := typFs_cons h2'
  obtain rfl := typFs_nil h3
  obtain ⟨x, rfl, _⟩ := typN_int Tryd.underlying3 h1
  obtain ⟨y, rfl, _⟩ := typN_int Tryd.underlying3 h2
  exact ⟨x, y, rfl⟩

end Go.Proofs.YtphbhoggcddgmaaDoor
