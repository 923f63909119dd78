/-
  NARROWER THAN 'FOR EVERY INPUT', by the rows' own cells (each row's printed sentence says how): ReclaimTells: loops.
  DERIVED. THE GIVEN ROWS OF THIS SEAT. 5 by the template 'for every input the law returns true; each argument reads behind the call as it read before'; 0 by the template 'total and deterministic' (their statements: YtadpfhoenjodeaaTotals.lean).
  GIVEN WITH THE SEED: the statements are not yours to turn. If you find one false, say at which input.
  Laid BY PROGRAM, IN A SANDBOX (cutbox-rows.mjs): the forced cells as the released guide's own fill.sh prints them over the translation a720089a45ef4fd0… (all of the seat's roots in one cut). By AI agents, Wed Nov 11 2026. No macro, syntax, notation, axiom, sorry.
-/
import Derived.Test.YtadpfhoenjodeaaChecked
import GoSem.Claim
import GoSem.ClaimJoined
import GoSem.ClaimMapViews
import Derived.JoinedTies
import Derived.KernelRfl
namespace Go.Proofs.Ytadpfhoenjodeaa
/- THE CELL 'sum', in the pinned program and in every row, IS THE sha256 OF THE DUMP (.gsa) THAT YtadpfhoenjodeaaProg.lean LOADS. Nothing in Lean hashes anything: it is a label: what it is worth is what the hold of that sum in a sandbox is worth. -/
noncomputable def Try.pinned : Pinned := { name := "ytadpfhoenjodeaa", sum := "a720089a45ef4fd00dc8cdc58e55225ecd6486aae04948812c5f0baa0444ed2b", checked := Try.checked }
namespace Rows
def none {H : Type} : Left H := { results := [], args := [] }

/-- 'tellaw37.ReclaimTells': WHATEVER THE INPUT: true; the input reads as it did. -/
def reclaimTellsSpec : ChangeSpec := { name := "reclaimTells", fn := fun _ => fun
  | [d1, d2, d3, d4, d5, d6] => { results := [.lit (.bool true)], args := [d1, d2, d3, d4, d5, d6] }
  | _ => none }
def reclaimTellsRow : OpenClaim := { program := "ytadpfhoenjodeaa", sum := "a720089a45ef4fd00dc8cdc58e55225ecd6486aae04948812c5f0baa0444ed2b", func := "telpher/tellaw37.ReclaimTells", spec := "reclaimTells", recurses := true, loops := true, plainKeys := false, apart := false }
def ReclaimTellsSaid : Prop := reclaimTellsRow.holds Try.pinned (OpenSpec.ofChange reclaimTellsSpec)

/-- ITS FALSE NEIGHBOUR: 'it returns false'. Refute it at one input. -/
def reclaimTellsWrong : ChangeSpec := { name := "reclaimTells", fn := fun _ => fun
  | [d1, d2, d3, d4, d5, d6] => { results := [.lit (.bool false)], args := [d1, d2, d3, d4, d5, d6] }
  | _ => none }
def ReclaimTellsWrongFalsely : Prop := reclaimTellsRow.holds Try.pinned (OpenSpec.ofChange reclaimTellsWrong)

/-- 'tellaw34.StackRootsComplete': WHATEVER THE INPUT: true; the input reads as it did. -/
def stackRootsCompleteSpec : ChangeSpec := { name := "stackRootsComplete", fn := fun _ => fun
  | [d] => { results := [.lit (.bool true)], args := [d] }
  | _ => none }
def stackRootsCompleteRow : OpenClaim := { program := "ytadpfhoenjodeaa", sum := "a720089a45ef4fd00dc8cdc58e55225ecd6486aae04948812c5f0baa0444ed2b", func := "telpher/tellaw34.StackRootsComplete", spec := "stackRootsComplete", recurses := true, plainKeys := false, apart := false }
def StackRootsCompleteSaid : Prop := stackRootsCompleteRow.holds Try.pinned (OpenSpec.ofChange stackRootsCompleteSpec)

/-- ITS FALSE NEIGHBOUR: 'it returns false'. Refute it at one input. -/
def stackRootsCompleteWrong : ChangeSpec := { name := "stackRootsComplete", fn := fun _ => fun
  | [d] => { results := [.lit (.bool false)], args := [d] }
  | _ => none }
def StackRootsCompleteWrongFalsely : Prop := stackRootsCompleteRow.holds Try.pinned (OpenSpec.ofChange stackRootsCompleteWrong)

/-- 'tellaw37.ReclaimComplete': WHATEVER THE INPUT: true; the input reads as it did. -/
def reclaimCompleteSpec : ChangeSpec := { name := "reclaimComplete", fn := fun _ => fun
  | [d] => { results := [.lit (.bool true)], args := [d] }
  | _ => none }
def reclaimCompleteRow : OpenClaim := { program := "ytadpfhoenjodeaa", sum := "a720089a45ef4fd00dc8cdc58e55225ecd6486aae04948812c5f0baa0444ed2b", func := "telpher/tellaw37.ReclaimComplete", spec := "reclaimComplete", recurses := true, plainKeys := false, apart := false }
def ReclaimCompleteSaid : Prop := reclaimCompleteRow.holds Try.pinned (OpenSpec.ofChange reclaimCompleteSpec)

/-- ITS FALSE NEIGHBOUR: 'it returns false'. Refute it at one input. -/
def reclaimCompleteWrong : ChangeSpec := { name := "reclaimComplete", fn := fun _ => fun
  | [d] => { results := [.lit (.bool false)], args := [d] }
  | _ => none }
def ReclaimCompleteWrongFalsely : Prop := reclaimCompleteRow.holds Try.pinned (OpenSpec.ofChange reclaimCompleteWrong)

/-- 'tellaw34.StackDepth': WHATEVER THE INPUT: true; the input reads as it did. -/
def stackDepthSpec : ChangeSpec := { name := "stackDepth", fn := fun _ => fun
  | [d1, d2] => { results := [.lit (.bool true)], args := [d1, d2] }
  | _ => none }
def stackDepthRow : OpenClaim := { program := "ytadpfhoenjodeaa", sum := "a720089a45ef4fd00dc8cdc58e55225ecd6486aae04948812c5f0baa0444ed2b", func := "telpher/tellaw34.StackDepth", spec := "stackDepth", recurses := true, plainKeys := false, apart := false }
def StackDepthSaid : Prop := stackDepthRow.holds Try.pinned (OpenSpec.ofChange stackDepthSpec)

/-- ITS FALSE NEIGHBOUR: 'it returns false'. Refute it at one input. -/
def stackDepthWrong : ChangeSpec := { name := "stackDepth", fn := fun _ => fun
  | [d1, d2] => { results := [.lit (.bool false)], args := [d1, d2] }
  | _ => none }
def StackDepthWrongFalsely : Prop := stackDepthRow.holds Try.pinned (OpenSpec.ofChange stackDepthWrong)

/-- 'tellaw37.ReclaimSafe': WHATEVER THE INPUT: true; the input reads as it did. -/
def reclaimSafeSpec : ChangeSpec := { name := "reclaimSafe", fn := fun _ => fun
  | [d] => { results := [.lit (.bool true)], args := [d] }
  | _ => none }
def reclaimSafeRow : OpenClaim := { program := "ytadpfhoenjodeaa", sum := "a720089a45ef4fd00dc8cdc58e55225ecd6486aae04948812c5f0baa0444ed2b", func := "telpher/tellaw37.ReclaimSafe", spec := "reclaimSafe", recurses := true, plainKeys := false, apart := false }
def ReclaimSafeSaid : Prop := reclaimSafeRow.holds Try.pinned (OpenSpec.ofChange reclaimSafeSpec)

/-- ITS FALSE NEIGHBOUR: 'it returns false'. Refute it at one input. -/
def reclaimSafeWrong : ChangeSpec := { name := "reclaimSafe", fn := fun _ => fun
  | [d] => { results := [.lit (.bool false)], args := [d] }
  | _ => none }
def ReclaimSafeWrongFalsely : Prop := reclaimSafeRow.holds Try.pinned (OpenSpec.ofChange reclaimSafeWrong)

/- THE SECOND FORM. 'bulk': how many values and letters a reading holds, each counted each time it is reached (what is shared counts as often as it is met; a slice's spare places count too). A statement '..UptoSaid' is the law's where the arguments, and the package variables that the reading takes, are together of bulk at most 1048576: NARROWER than '..Said'. Prove '..Said' where nothing that the law and all that it calls make is longer than what came in: it says more and counts as full. Else prove '..UptoSaid'. A law counts once. -/
mutual
def uptoBulk {H : Type} : DataW H → Nat
  | .lit (.string bytes) => bytes.length + 1
  | .lit _ => 1
  | .nil => 1
  | .ptr d => uptoBulk d + 1
  | .slice elems spare => uptoBulkAll elems + uptoBulkAll spare + 1
  | .agg parts => uptoBulkAll parts + 1
  | .iface _ d => uptoBulk d + 1
  | .map entries => uptoBulkEntries entries + 1
  | .held _ => 1
def uptoBulkAll {H : Type} : List (DataW H) → Nat
  | [] => 0
  | d :: r => uptoBulk d + uptoBulkAll r
def uptoBulkEntries {H : Type} : List (Lit × DataW H) → Nat
  | [] => 0
  | x :: r => uptoBulkEntry x + uptoBulkEntries r
def uptoBulkEntry {H : Type} : Lit × DataW H → Nat
  | (.string bytes, d) => bytes.length + uptoBulk d + 1
  | (_, d) => uptoBulk d + 1
 end
def uptoSmall : (H : Type) → List (DataW H) → Bool := fun _ ds => decide (uptoBulkAll ds ≤ 1048576)
def OpenSpec.upto (s : _root_.Go.ChangeSpec) : _root_.Go.OpenSpec := { _root_.Go.OpenSpec.ofChange s with cond := some uptoSmall }

/-- 'tellaw37.ReclaimTells', WHERE WHAT IT READS IS OF BULK AT MOST 1048576: true; the input reads as it did. -/
def reclaimTellsUptoRow : OpenClaim := { program := "ytadpfhoenjodeaa", sum := "a720089a45ef4fd00dc8cdc58e55225ecd6486aae04948812c5f0baa0444ed2b", func := "telpher/tellaw37.ReclaimTells", spec := "reclaimTells", recurses := true, loops := true, plainKeys := false, apart := false, narrowed := true }
def ReclaimTellsUptoSaid : Prop := reclaimTellsUptoRow.holds Try.pinned (OpenSpec.upto reclaimTellsSpec)

/-- 'tellaw34.StackRootsComplete', WHERE WHAT IT READS IS OF BULK AT MOST 1048576: true; the input reads as it did. -/
def stackRootsCompleteUptoRow : OpenClaim := { program := "ytadpfhoenjodeaa", sum := "a720089a45ef4fd00dc8cdc58e55225ecd6486aae04948812c5f0baa0444ed2b", func := "telpher/tellaw34.StackRootsComplete", spec := "stackRootsComplete", recurses := true, plainKeys := false, apart := false, narrowed := true }
def StackRootsCompleteUptoSaid : Prop := stackRootsCompleteUptoRow.holds Try.pinned (OpenSpec.upto stackRootsCompleteSpec)

/-- 'tellaw37.ReclaimComplete', WHERE WHAT IT READS IS OF BULK AT MOST 1048576: true; the input reads as it did. -/
def reclaimCompleteUptoRow : OpenClaim := { program := "ytadpfhoenjodeaa", sum := "a720089a45ef4fd00dc8cdc58e55225ecd6486aae04948812c5f0baa0444ed2b", func := "telpher/tellaw37.ReclaimComplete", spec := "reclaimComplete", recurses := true, plainKeys := false, apart := false, narrowed := true }
def ReclaimCompleteUptoSaid : Prop := reclaimCompleteUptoRow.holds Try.pinned (OpenSpec.upto reclaimCompleteSpec)

/-- 'tellaw34.StackDepth', WHERE WHAT IT READS IS OF BULK AT MOST 1048576: true; the input reads as it did. -/
def stackDepthUptoRow : OpenClaim := { program := "ytadpfhoenjodeaa", sum := "a720089a45ef4fd00dc8cdc58e55225ecd6486aae04948812c5f0baa0444ed2b", func := "telpher/tellaw34.StackDepth", spec := "stackDepth", recurses := true, plainKeys := false, apart := false, narrowed := true }
def StackDepthUptoSaid : Prop := stackDepthUptoRow.holds Try.pinned (OpenSpec.upto stackDepthSpec)

/-- 'tellaw37.ReclaimSafe', WHERE WHAT IT READS IS OF BULK AT MOST 1048576: true; the input reads as it did. -/
def reclaimSafeUptoRow : OpenClaim := { program := "ytadpfhoenjodeaa", sum := "a720089a45ef4fd00dc8cdc58e55225ecd6486aae04948812c5f0baa0444ed2b", func := "telpher/tellaw37.ReclaimSafe", spec := "reclaimSafe", recurses := true, plainKeys := false, apart := false, narrowed := true }
def ReclaimSafeUptoSaid : Prop := reclaimSafeUptoRow.holds Try.pinned (OpenSpec.upto reclaimSafeSpec)

end Rows
end Go.Proofs.Ytadpfhoenjodeaa
