/-
  No cell of these rows narrows 'for every input' (looked for: loops, veiled, ifaces, maps, wideKeys, modest, calm, conditions, laid).
  DERIVED. THE GIVEN ROWS OF THIS SEAT. 11 by the template 'for every input the law returns true; each argument reads behind the call as it read before'; 0 by the template 'total and deterministic' (their statements: YtoopcfgmffpogaaTotals.lean).
  GIVEN WITH THE SEED: the statements are not yours to turn. If you find one false, say at which input.
  Laid BY PROGRAM, IN A SANDBOX (cutbox-rows.mjs): the forced cells as the released guide's own fill.sh prints them over the translation 95326dddbcea5825… (all of the seat's roots in one cut). By AI agents, Wed Nov 11 2026. No macro, syntax, notation, axiom, sorry.
-/
import Derived.Test.YtoopcfgmffpogaaChecked
import GoSem.Claim
import GoSem.ClaimJoined
import GoSem.ClaimMapViews
import Derived.JoinedTies
import Derived.KernelRfl
namespace Go.Proofs.Ytoopcfgmffpogaa
/- THE CELL 'sum', in the pinned program and in every row, IS THE sha256 OF THE DUMP (.gsa) THAT YtoopcfgmffpogaaProg.lean LOADS. Nothing in Lean hashes anything: it is a label: what it is worth is what the hold of that sum in a sandbox is worth. -/
noncomputable def Try.pinned : Pinned := { name := "ytoopcfgmffpogaa", sum := "95326dddbcea5825efd73c6d577a8fa76bb2ed259f57a550983027fb783987a6", checked := Try.checked }
namespace Rows
def none {H : Type} : Left H := { results := [], args := [] }

/-- 'linhaylaw14.HeapTells': WHATEVER THE INPUT: true; the input reads as it did. -/
def heapTellsSpec : ChangeSpec := { name := "heapTells", fn := fun _ => fun
  | [d1, d2, d3, d4] => { results := [.lit (.bool true)], args := [d1, d2, d3, d4] }
  | _ => none }
def heapTellsRow : OpenClaim := { program := "ytoopcfgmffpogaa", sum := "95326dddbcea5825efd73c6d577a8fa76bb2ed259f57a550983027fb783987a6", func := "linhay/linhaylaw14.HeapTells", spec := "heapTells", unfollowed := true, recurses := true, plainKeys := false, apart := false }
def HeapTellsSaid : Prop := heapTellsRow.holds Try.pinned (OpenSpec.ofChange heapTellsSpec)

/-- ITS FALSE NEIGHBOUR: 'it returns false'. Refute it at one input. -/
def heapTellsWrong : ChangeSpec := { name := "heapTells", fn := fun _ => fun
  | [d1, d2, d3, d4] => { results := [.lit (.bool false)], args := [d1, d2, d3, d4] }
  | _ => none }
def HeapTellsWrongFalsely : Prop := heapTellsRow.holds Try.pinned (OpenSpec.ofChange heapTellsWrong)

/-- 'linhaylaw14.HeapSteps': WHATEVER THE INPUT: true; the input reads as it did. -/
def heapStepsSpec : ChangeSpec := { name := "heapSteps", fn := fun _ => fun
  | [d1, d2] => { results := [.lit (.bool true)], args := [d1, d2] }
  | _ => none }
def heapStepsRow : OpenClaim := { program := "ytoopcfgmffpogaa", sum := "95326dddbcea5825efd73c6d577a8fa76bb2ed259f57a550983027fb783987a6", func := "linhay/linhaylaw14.HeapSteps", spec := "heapSteps", unfollowed := true, recurses := true, plainKeys := false, apart := false }
def HeapStepsSaid : Prop := heapStepsRow.holds Try.pinned (OpenSpec.ofChange heapStepsSpec)

/-- ITS FALSE NEIGHBOUR: 'it returns false'. Refute it at one input. -/
def heapStepsWrong : ChangeSpec := { name := "heapSteps", fn := fun _ => fun
  | [d1, d2] => { results := [.lit (.bool false)], args := [d1, d2] }
  | _ => none }
def HeapStepsWrongFalsely : Prop := heapStepsRow.holds Try.pinned (OpenSpec.ofChange heapStepsWrong)

/-- 'linhaylaw14.HeapDrains': WHATEVER THE INPUT: true; the input reads as it did. -/
def heapDrainsSpec : ChangeSpec := { name := "heapDrains", fn := fun _ => fun
  | [d] => { results := [.lit (.bool true)], args := [d] }
  | _ => none }
def heapDrainsRow : OpenClaim := { program := "ytoopcfgmffpogaa", sum := "95326dddbcea5825efd73c6d577a8fa76bb2ed259f57a550983027fb783987a6", func := "linhay/linhaylaw14.HeapDrains", spec := "heapDrains", unfollowed := true, recurses := true, plainKeys := false, apart := false }
def HeapDrainsSaid : Prop := heapDrainsRow.holds Try.pinned (OpenSpec.ofChange heapDrainsSpec)

/-- ITS FALSE NEIGHBOUR: 'it returns false'. Refute it at one input. -/
def heapDrainsWrong : ChangeSpec := { name := "heapDrains", fn := fun _ => fun
  | [d] => { results := [.lit (.bool false)], args := [d] }
  | _ => none }
def HeapDrainsWrongFalsely : Prop := heapDrainsRow.holds Try.pinned (OpenSpec.ofChange heapDrainsWrong)

/-- 'linhaylaw14.HeapSets': WHATEVER THE INPUT: true; the input reads as it did. -/
def heapSetsSpec : ChangeSpec := { name := "heapSets", fn := fun _ => fun
  | [d1, d2, d3] => { results := [.lit (.bool true)], args := [d1, d2, d3] }
  | _ => none }
def heapSetsRow : OpenClaim := { program := "ytoopcfgmffpogaa", sum := "95326dddbcea5825efd73c6d577a8fa76bb2ed259f57a550983027fb783987a6", func := "linhay/linhaylaw14.HeapSets", spec := "heapSets", unfollowed := true, recurses := true, plainKeys := false, apart := false }
def HeapSetsSaid : Prop := heapSetsRow.holds Try.pinned (OpenSpec.ofChange heapSetsSpec)

/-- ITS FALSE NEIGHBOUR: 'it returns false'. Refute it at one input. -/
def heapSetsWrong : ChangeSpec := { name := "heapSets", fn := fun _ => fun
  | [d1, d2, d3] => { results := [.lit (.bool false)], args := [d1, d2, d3] }
  | _ => none }
def HeapSetsWrongFalsely : Prop := heapSetsRow.holds Try.pinned (OpenSpec.ofChange heapSetsWrong)

/-- 'linhaylaw14.HeapOrder': WHATEVER THE INPUT: true; the input reads as it did. -/
def heapOrderSpec : ChangeSpec := { name := "heapOrder", fn := fun _ => fun
  | [d1, d2, d3] => { results := [.lit (.bool true)], args := [d1, d2, d3] }
  | _ => none }
def heapOrderRow : OpenClaim := { program := "ytoopcfgmffpogaa", sum := "95326dddbcea5825efd73c6d577a8fa76bb2ed259f57a550983027fb783987a6", func := "linhay/linhaylaw14.HeapOrder", spec := "heapOrder", unfollowed := true, recurses := true, plainKeys := false, apart := false }
def HeapOrderSaid : Prop := heapOrderRow.holds Try.pinned (OpenSpec.ofChange heapOrderSpec)

/-- ITS FALSE NEIGHBOUR: 'it returns false'. Refute it at one input. -/
def heapOrderWrong : ChangeSpec := { name := "heapOrder", fn := fun _ => fun
  | [d1, d2, d3] => { results := [.lit (.bool false)], args := [d1, d2, d3] }
  | _ => none }
def HeapOrderWrongFalsely : Prop := heapOrderRow.holds Try.pinned (OpenSpec.ofChange heapOrderWrong)

/-- 'linhaylaw14.HeapFirst': WHATEVER THE INPUT: true; the input reads as it did. -/
def heapFirstSpec : ChangeSpec := { name := "heapFirst", fn := fun _ => fun
  | [d1, d2] => { results := [.lit (.bool true)], args := [d1, d2] }
  | _ => none }
def heapFirstRow : OpenClaim := { program := "ytoopcfgmffpogaa", sum := "95326dddbcea5825efd73c6d577a8fa76bb2ed259f57a550983027fb783987a6", func := "linhay/linhaylaw14.HeapFirst", spec := "heapFirst", unfollowed := true, recurses := true, plainKeys := false, apart := false }
def HeapFirstSaid : Prop := heapFirstRow.holds Try.pinned (OpenSpec.ofChange heapFirstSpec)

/-- ITS FALSE NEIGHBOUR: 'it returns false'. Refute it at one input. -/
def heapFirstWrong : ChangeSpec := { name := "heapFirst", fn := fun _ => fun
  | [d1, d2] => { results := [.lit (.bool false)], args := [d1, d2] }
  | _ => none }
def HeapFirstWrongFalsely : Prop := heapFirstRow.holds Try.pinned (OpenSpec.ofChange heapFirstWrong)

/-- 'linhaylaw09.ThingTells': WHATEVER THE INPUT: true; the input reads as it did. -/
def thingTellsSpec : ChangeSpec := { name := "thingTells", fn := fun _ => fun
  | [d1, d2, d3] => { results := [.lit (.bool true)], args := [d1, d2, d3] }
  | _ => none }
def thingTellsRow : OpenClaim := { program := "ytoopcfgmffpogaa", sum := "95326dddbcea5825efd73c6d577a8fa76bb2ed259f57a550983027fb783987a6", func := "linhay/linhaylaw09.ThingTells", spec := "thingTells", recurses := true, plainKeys := false, apart := false }
def ThingTellsSaid : Prop := thingTellsRow.holds Try.pinned (OpenSpec.ofChange thingTellsSpec)

/-- ITS FALSE NEIGHBOUR: 'it returns false'. Refute it at one input. -/
def thingTellsWrong : ChangeSpec := { name := "thingTells", fn := fun _ => fun
  | [d1, d2, d3] => { results := [.lit (.bool false)], args := [d1, d2, d3] }
  | _ => none }
def ThingTellsWrongFalsely : Prop := thingTellsRow.holds Try.pinned (OpenSpec.ofChange thingTellsWrong)

/-- 'linhaylaw09.ThingTags': WHATEVER THE INPUT: true; the input reads as it did. -/
def thingTagsSpec : ChangeSpec := { name := "thingTags", fn := fun _ => fun
  | [d1, d2] => { results := [.lit (.bool true)], args := [d1, d2] }
  | _ => none }
def thingTagsRow : OpenClaim := { program := "ytoopcfgmffpogaa", sum := "95326dddbcea5825efd73c6d577a8fa76bb2ed259f57a550983027fb783987a6", func := "linhay/linhaylaw09.ThingTags", spec := "thingTags", recurses := true, plainKeys := false, apart := false }
def ThingTagsSaid : Prop := thingTagsRow.holds Try.pinned (OpenSpec.ofChange thingTagsSpec)

/-- ITS FALSE NEIGHBOUR: 'it returns false'. Refute it at one input. -/
def thingTagsWrong : ChangeSpec := { name := "thingTags", fn := fun _ => fun
  | [d1, d2] => { results := [.lit (.bool false)], args := [d1, d2] }
  | _ => none }
def ThingTagsWrongFalsely : Prop := thingTagsRow.holds Try.pinned (OpenSpec.ofChange thingTagsWrong)

/-- 'linhaylaw09.ThingFew': WHATEVER THE INPUT: true; the input reads as it did. -/
def thingFewSpec : ChangeSpec := { name := "thingFew", fn := fun _ => fun
  | [d] => { results := [.lit (.bool true)], args := [d] }
  | _ => none }
def thingFewRow : OpenClaim := { program := "ytoopcfgmffpogaa", sum := "95326dddbcea5825efd73c6d577a8fa76bb2ed259f57a550983027fb783987a6", func := "linhay/linhaylaw09.ThingFew", spec := "thingFew", recurses := true, plainKeys := false, apart := false }
def ThingFewSaid : Prop := thingFewRow.holds Try.pinned (OpenSpec.ofChange thingFewSpec)

/-- ITS FALSE NEIGHBOUR: 'it returns false'. Refute it at one input. -/
def thingFewWrong : ChangeSpec := { name := "thingFew", fn := fun _ => fun
  | [d] => { results := [.lit (.bool false)], args := [d] }
  | _ => none }
def ThingFewWrongFalsely : Prop := thingFewRow.holds Try.pinned (OpenSpec.ofChange thingFewWrong)

/-- 'linhaylaw09.ThingHash': WHATEVER THE INPUT: true; the input reads as it did. -/
def thingHashSpec : ChangeSpec := { name := "thingHash", fn := fun _ => fun
  | [d1, d2, d3] => { results := [.lit (.bool true)], args := [d1, d2, d3] }
  | _ => none }
def thingHashRow : OpenClaim := { program := "ytoopcfgmffpogaa", sum := "95326dddbcea5825efd73c6d577a8fa76bb2ed259f57a550983027fb783987a6", func := "linhay/linhaylaw09.ThingHash", spec := "thingHash", recurses := true, plainKeys := false, apart := false }
def ThingHashSaid : Prop := thingHashRow.holds Try.pinned (OpenSpec.ofChange thingHashSpec)

/-- ITS FALSE NEIGHBOUR: 'it returns false'. Refute it at one input. -/
def thingHashWrong : ChangeSpec := { name := "thingHash", fn := fun _ => fun
  | [d1, d2, d3] => { results := [.lit (.bool false)], args := [d1, d2, d3] }
  | _ => none }
def ThingHashWrongFalsely : Prop := thingHashRow.holds Try.pinned (OpenSpec.ofChange thingHashWrong)

/-- 'linhaylaw09.ThingHome': WHATEVER THE INPUT: true; the input reads as it did. -/
def thingHomeSpec : ChangeSpec := { name := "thingHome", fn := fun _ => fun
  | [d1, d2, d3] => { results := [.lit (.bool true)], args := [d1, d2, d3] }
  | _ => none }
def thingHomeRow : OpenClaim := { program := "ytoopcfgmffpogaa", sum := "95326dddbcea5825efd73c6d577a8fa76bb2ed259f57a550983027fb783987a6", func := "linhay/linhaylaw09.ThingHome", spec := "thingHome", recurses := true, plainKeys := false, apart := false }
def ThingHomeSaid : Prop := thingHomeRow.holds Try.pinned (OpenSpec.ofChange thingHomeSpec)

/-- ITS FALSE NEIGHBOUR: 'it returns false'. Refute it at one input. -/
def thingHomeWrong : ChangeSpec := { name := "thingHome", fn := fun _ => fun
  | [d1, d2, d3] => { results := [.lit (.bool false)], args := [d1, d2, d3] }
  | _ => none }
def ThingHomeWrongFalsely : Prop := thingHomeRow.holds Try.pinned (OpenSpec.ofChange thingHomeWrong)

/- THE SECOND FORM. 'bulk': how many values and letters a reading holds, each counted each time it is reached (what is shared counts as often as it is met; a slice's spare places count too). A statement '..UptoSaid' is the law's where the arguments, and the package variables that the reading takes, are together of bulk at most 1048576: NARROWER than '..Said'. Prove '..Said' where nothing that the law and all that it calls make is longer than what came in: it says more and counts as full. Else prove '..UptoSaid'. A law counts once. -/
mutual
def uptoBulk {H : Type} : DataW H → Nat
  | .lit (.string bytes) => bytes.length + 1
  | .lit _ => 1
  | .nil => 1
  | .ptr d => uptoBulk d + 1
  | .slice elems spare => uptoBulkAll elems + uptoBulkAll spare + 1
  | .agg parts => uptoBulkAll parts + 1
  | .iface _ d => uptoBulk d + 1
  | .map entries => uptoBulkEntries entries + 1
  | .held _ => 1
def uptoBulkAll {H : Type} : List (DataW H) → Nat
  | [] => 0
  | d :: r => uptoBulk d + uptoBulkAll r
def uptoBulkEntries {H : Type} : List (Lit × DataW H) → Nat
  | [] => 0
  | x :: r => uptoBulkEntry x + uptoBulkEntries r
def uptoBulkEntry {H : Type} : Lit × DataW H → Nat
  | (.string bytes, d) => bytes.length + uptoBulk d + 1
  | (_, d) => uptoBulk d + 1
 end
def uptoSmall : (H : Type) → List (DataW H) → Bool := fun _ ds => decide (uptoBulkAll ds ≤ 1048576)
def OpenSpec.upto (s : _root_.Go.ChangeSpec) : _root_.Go.OpenSpec := { _root_.Go.OpenSpec.ofChange s with cond := some uptoSmall }

/-- 'linhaylaw14.HeapTells', WHERE WHAT IT READS IS OF BULK AT MOST 1048576: true; the input reads as it did. -/
def heapTellsUptoRow : OpenClaim := { program := "ytoopcfgmffpogaa", sum := "95326dddbcea5825efd73c6d577a8fa76bb2ed259f57a550983027fb783987a6", func := "linhay/linhaylaw14.HeapTells", spec := "heapTells", unfollowed := true, recurses := true, plainKeys := false, apart := false, narrowed := true }
def HeapTellsUptoSaid : Prop := heapTellsUptoRow.holds Try.pinned (OpenSpec.upto heapTellsSpec)

/-- 'linhaylaw14.HeapSteps', WHERE WHAT IT READS IS OF BULK AT MOST 1048576: true; the input reads as it did. -/
def heapStepsUptoRow : OpenClaim := { program := "ytoopcfgmffpogaa", sum := "95326dddbcea5825efd73c6d577a8fa76bb2ed259f57a550983027fb783987a6", func := "linhay/linhaylaw14.HeapSteps", spec := "heapSteps", unfollowed := true, recurses := true, plainKeys := false, apart := false, narrowed := true }
def HeapStepsUptoSaid : Prop := heapStepsUptoRow.holds Try.pinned (OpenSpec.upto heapStepsSpec)

/-- 'linhaylaw14.HeapDrains', WHERE WHAT IT READS IS OF BULK AT MOST 1048576: true; the input reads as it did. -/
def heapDrainsUptoRow : OpenClaim := { program := "ytoopcfgmffpogaa", sum := "95326dddbcea5825efd73c6d577a8fa76bb2ed259f57a550983027fb783987a6", func := "linhay/linhaylaw14.HeapDrains", spec := "heapDrains", unfollowed := true, recurses := true, plainKeys := false, apart := false, narrowed := true }
def HeapDrainsUptoSaid : Prop := heapDrainsUptoRow.holds Try.pinned (OpenSpec.upto heapDrainsSpec)

/-- 'linhaylaw14.HeapSets', WHERE WHAT IT READS IS OF BULK AT MOST 1048576: true; the input reads as it did. -/
def heapSetsUptoRow : OpenClaim := { program := "ytoopcfgmffpogaa", sum := "95326dddbcea5825efd73c6d577a8fa76bb2ed259f57a550983027fb783987a6", func := "linhay/linhaylaw14.HeapSets", spec := "heapSets", unfollowed := true, recurses := true, plainKeys := false, apart := false, narrowed := true }
def HeapSetsUptoSaid : Prop := heapSetsUptoRow.holds Try.pinned (OpenSpec.upto heapSetsSpec)

/-- 'linhaylaw14.HeapOrder', WHERE WHAT IT READS IS OF BULK AT MOST 1048576: true; the input reads as it did. -/
def heapOrderUptoRow : OpenClaim := { program := "ytoopcfgmffpogaa", sum := "95326dddbcea5825efd73c6d577a8fa76bb2ed259f57a550983027fb783987a6", func := "linhay/linhaylaw14.HeapOrder", spec := "heapOrder", unfollowed := true, recurses := true, plainKeys := false, apart := false, narrowed := true }
def HeapOrderUptoSaid : Prop := heapOrderUptoRow.holds Try.pinned (OpenSpec.upto heapOrderSpec)

/-- 'linhaylaw14.HeapFirst', WHERE WHAT IT READS IS OF BULK AT MOST 1048576: true; the input reads as it did. -/
def heapFirstUptoRow : OpenClaim := { program := "ytoopcfgmffpogaa", sum := "95326dddbcea5825efd73c6d577a8fa76bb2ed259f57a550983027fb783987a6", func := "linhay/linhaylaw14.HeapFirst", spec := "heapFirst", unfollowed := true, recurses := true, plainKeys := false, apart := false, narrowed := true }
def HeapFirstUptoSaid : Prop := heapFirstUptoRow.holds Try.pinned (OpenSpec.upto heapFirstSpec)

/-- 'linhaylaw09.ThingTells', WHERE WHAT IT READS IS OF BULK AT MOST 1048576: true; the input reads as it did. -/
def thingTellsUptoRow : OpenClaim := { program := "ytoopcfgmffpogaa", sum := "95326dddbcea5825efd73c6d577a8fa76bb2ed259f57a550983027fb783987a6", func := "linhay/linhaylaw09.ThingTells", spec := "thingTells", recurses := true, plainKeys := false, apart := false, narrowed := true }
def ThingTellsUptoSaid : Prop := thingTellsUptoRow.holds Try.pinned (OpenSpec.upto thingTellsSpec)

/-- 'linhaylaw09.ThingTags', WHERE WHAT IT READS IS OF BULK AT MOST 1048576: true; the input reads as it did. -/
def thingTagsUptoRow : OpenClaim := { program := "ytoopcfgmffpogaa", sum := "95326dddbcea5825efd73c6d577a8fa76bb2ed259f57a550983027fb783987a6", func := "linhay/linhaylaw09.ThingTags", spec := "thingTags", recurses := true, plainKeys := false, apart := false, narrowed := true }
def ThingTagsUptoSaid : Prop := thingTagsUptoRow.holds Try.pinned (OpenSpec.upto thingTagsSpec)

/-- 'linhaylaw09.ThingFew', WHERE WHAT IT READS IS OF BULK AT MOST 1048576: true; the input reads as it did. -/
def thingFewUptoRow : OpenClaim := { program := "ytoopcfgmffpogaa", sum := "95326dddbcea5825efd73c6d577a8fa76bb2ed259f57a550983027fb783987a6", func := "linhay/linhaylaw09.ThingFew", spec := "thingFew", recurses := true, plainKeys := false, apart := false, narrowed := true }
def ThingFewUptoSaid : Prop := thingFewUptoRow.holds Try.pinned (OpenSpec.upto thingFewSpec)

/-- 'linhaylaw09.ThingHash', WHERE WHAT IT READS IS OF BULK AT MOST 1048576: true; the input reads as it did. -/
def thingHashUptoRow : OpenClaim := { program := "ytoopcfgmffpogaa", sum := "95326dddbcea5825efd73c6d577a8fa76bb2ed259f57a550983027fb783987a6", func := "linhay/linhaylaw09.ThingHash", spec := "thingHash", recurses := true, plainKeys := false, apart := false, narrowed := true }
def ThingHashUptoSaid : Prop := thingHashUptoRow.holds Try.pinned (OpenSpec.upto thingHashSpec)

/-- 'linhaylaw09.ThingHome', WHERE WHAT IT READS IS OF BULK AT MOST 1048576: true; the input reads as it did. -/
def thingHomeUptoRow : OpenClaim := { program := "ytoopcfgmffpogaa", sum := "95326dddbcea5825efd73c6d577a8fa76bb2ed259f57a550983027fb783987a6", func := "linhay/linhaylaw09.ThingHome", spec := "thingHome", recurses := true, plainKeys := false, apart := false, narrowed := true }
def ThingHomeUptoSaid : Prop := thingHomeUptoRow.holds Try.pinned (OpenSpec.upto thingHomeSpec)

end Rows
end Go.Proofs.Ytoopcfgmffpogaa
