/-
  NARROWER THAN 'FOR EVERY INPUT', by the rows' own cells (each row's printed sentence says how): ReclaimTells: loops.
  DERIVED. THE GIVEN ROWS OF THIS SEAT. 5 by the template 'for every input the law returns true; each argument reads behind the call as it read before'; 0 by the template 'total and deterministic' (their statements: YtoepnohmhpdeiaaTotals.lean).
  GIVEN WITH THE SEED: the statements are not yours to turn. If you find one false, say at which input.
  Laid BY PROGRAM, IN A SANDBOX (cutbox-rows.mjs): the forced cells as the released guide's own fill.sh prints them over the translation 237f6e04c46f1277… (all of the seat's roots in one cut). By AI agents, Wed Nov 11 2026. No macro, syntax, notation, axiom, sorry.
-/
import Derived.Test.YtoepnohmhpdeiaaChecked
import GoSem.Claim
import GoSem.ClaimJoined
import GoSem.ClaimMapViews
import Derived.JoinedTies
import Derived.KernelRfl
namespace Go.Proofs.Ytoepnohmhpdeiaa
/- THE CELL 'sum', in the pinned program and in every row, IS THE sha256 OF THE DUMP (.gsa) THAT YtoepnohmhpdeiaaProg.lean LOADS. Nothing in Lean hashes anything: it is a label: what it is worth is what the hold of that sum in a sandbox is worth. -/
noncomputable def Try.pinned : Pinned := { name := "ytoepnohmhpdeiaa", sum := "237f6e04c46f1277a92a411cd934d3cbc16226910ee22f64d95d5f02763de052", checked := Try.checked }
namespace Rows
def none {H : Type} : Left H := { results := [], args := [] }

/-- 'tellaw1.SexprParse': WHATEVER THE INPUT: true; the input reads as it did. -/
def sexprParseSpec : ChangeSpec := { name := "sexprParse", fn := fun _ => fun
  | [d] => { results := [.lit (.bool true)], args := [d] }
  | _ => none }
def sexprParseRow : OpenClaim := { program := "ytoepnohmhpdeiaa", sum := "237f6e04c46f1277a92a411cd934d3cbc16226910ee22f64d95d5f02763de052", func := "telpher/tellaw1.SexprParse", spec := "sexprParse", inPlace := ["internal/bytealg.IndexByteString"], unfollowed := true, recurses := true, apart := false }
def SexprParseSaid : Prop := sexprParseRow.holds Try.pinned (OpenSpec.ofChange sexprParseSpec)

/-- ITS FALSE NEIGHBOUR: 'it returns false'. Refute it at one input. -/
def sexprParseWrong : ChangeSpec := { name := "sexprParse", fn := fun _ => fun
  | [d] => { results := [.lit (.bool false)], args := [d] }
  | _ => none }
def SexprParseWrongFalsely : Prop := sexprParseRow.holds Try.pinned (OpenSpec.ofChange sexprParseWrong)

/-- 'tellaw1.SexprPieces': WHATEVER THE INPUT: true; the input reads as it did. -/
def sexprPiecesSpec : ChangeSpec := { name := "sexprPieces", fn := fun _ => fun
  | [d] => { results := [.lit (.bool true)], args := [d] }
  | _ => none }
def sexprPiecesRow : OpenClaim := { program := "ytoepnohmhpdeiaa", sum := "237f6e04c46f1277a92a411cd934d3cbc16226910ee22f64d95d5f02763de052", func := "telpher/tellaw1.SexprPieces", spec := "sexprPieces", inPlace := ["internal/bytealg.IndexByteString"], unfollowed := true, recurses := true, apart := false }
def SexprPiecesSaid : Prop := sexprPiecesRow.holds Try.pinned (OpenSpec.ofChange sexprPiecesSpec)

/-- ITS FALSE NEIGHBOUR: 'it returns false'. Refute it at one input. -/
def sexprPiecesWrong : ChangeSpec := { name := "sexprPieces", fn := fun _ => fun
  | [d] => { results := [.lit (.bool false)], args := [d] }
  | _ => none }
def SexprPiecesWrongFalsely : Prop := sexprPiecesRow.holds Try.pinned (OpenSpec.ofChange sexprPiecesWrong)

/-- 'tellaw1.SexprLimits': WHATEVER THE INPUT: true; the input reads as it did. -/
def sexprLimitsSpec : ChangeSpec := { name := "sexprLimits", fn := fun _ => fun
  | [d] => { results := [.lit (.bool true)], args := [d] }
  | _ => none }
def sexprLimitsRow : OpenClaim := { program := "ytoepnohmhpdeiaa", sum := "237f6e04c46f1277a92a411cd934d3cbc16226910ee22f64d95d5f02763de052", func := "telpher/tellaw1.SexprLimits", spec := "sexprLimits", inPlace := ["internal/bytealg.IndexByteString"], unfollowed := true, recurses := true, apart := false }
def SexprLimitsSaid : Prop := sexprLimitsRow.holds Try.pinned (OpenSpec.ofChange sexprLimitsSpec)

/-- ITS FALSE NEIGHBOUR: 'it returns false'. Refute it at one input. -/
def sexprLimitsWrong : ChangeSpec := { name := "sexprLimits", fn := fun _ => fun
  | [d] => { results := [.lit (.bool false)], args := [d] }
  | _ => none }
def SexprLimitsWrongFalsely : Prop := sexprLimitsRow.holds Try.pinned (OpenSpec.ofChange sexprLimitsWrong)

/-- 'tellaw37.ReclaimTells': WHATEVER THE INPUT: true; the input reads as it did. -/
def reclaimTellsSpec : ChangeSpec := { name := "reclaimTells", fn := fun _ => fun
  | [d1, d2, d3, d4, d5, d6] => { results := [.lit (.bool true)], args := [d1, d2, d3, d4, d5, d6] }
  | _ => none }
def reclaimTellsRow : OpenClaim := { program := "ytoepnohmhpdeiaa", sum := "237f6e04c46f1277a92a411cd934d3cbc16226910ee22f64d95d5f02763de052", func := "telpher/tellaw37.ReclaimTells", spec := "reclaimTells", recurses := true, loops := true, apart := false }
def ReclaimTellsSaid : Prop := reclaimTellsRow.holds Try.pinned (OpenSpec.ofChange reclaimTellsSpec)

/-- ITS FALSE NEIGHBOUR: 'it returns false'. Refute it at one input. -/
def reclaimTellsWrong : ChangeSpec := { name := "reclaimTells", fn := fun _ => fun
  | [d1, d2, d3, d4, d5, d6] => { results := [.lit (.bool false)], args := [d1, d2, d3, d4, d5, d6] }
  | _ => none }
def ReclaimTellsWrongFalsely : Prop := reclaimTellsRow.holds Try.pinned (OpenSpec.ofChange reclaimTellsWrong)

/-- 'tellaw34.StackRootsComplete': WHATEVER THE INPUT: true; the input reads as it did. -/
def stackRootsCompleteSpec : ChangeSpec := { name := "stackRootsComplete", fn := fun _ => fun
  | [d] => { results := [.lit (.bool true)], args := [d] }
  | _ => none }
def stackRootsCompleteRow : OpenClaim := { program := "ytoepnohmhpdeiaa", sum := "237f6e04c46f1277a92a411cd934d3cbc16226910ee22f64d95d5f02763de052", func := "telpher/tellaw34.StackRootsComplete", spec := "stackRootsComplete", recurses := true, apart := false }
def StackRootsCompleteSaid : Prop := stackRootsCompleteRow.holds Try.pinned (OpenSpec.ofChange stackRootsCompleteSpec)

/-- ITS FALSE NEIGHBOUR: 'it returns false'. Refute it at one input. -/
def stackRootsCompleteWrong : ChangeSpec := { name := "stackRootsComplete", fn := fun _ => fun
  | [d] => { results := [.lit (.bool false)], args := [d] }
  | _ => none }
def StackRootsCompleteWrongFalsely : Prop := stackRootsCompleteRow.holds Try.pinned (OpenSpec.ofChange stackRootsCompleteWrong)

/- THE SECOND FORM. 'bulk': how many values and letters a reading holds, each counted each time it is reached (what is shared counts as often as it is met; a slice's spare places count too). A statement '..UptoSaid' is the law's where the arguments, and the package variables that the reading takes, are together of bulk at most 1048576: NARROWER than '..Said'. Prove '..Said' where nothing that the law and all that it calls make is longer than what came in: it says more and counts as full. Else prove '..UptoSaid'. A law counts once. -/
mutual
def uptoBulk {H : Type} : DataW H → Nat
  | .lit (.string bytes) => bytes.length + 1
  | .lit _ => 1
  | .nil => 1
  | .ptr d => uptoBulk d + 1
  | .slice elems spare => uptoBulkAll elems + uptoBulkAll spare + 1
  | .agg parts => uptoBulkAll parts + 1
  | .iface _ d => uptoBulk d + 1
  | .map entries => uptoBulkEntries entries + 1
  | .held _ => 1
def uptoBulkAll {H : Type} : List (DataW H) → Nat
  | [] => 0
  | d :: r => uptoBulk d + uptoBulkAll r
def uptoBulkEntries {H : Type} : List (Lit × DataW H) → Nat
  | [] => 0
  | x :: r => uptoBulkEntry x + uptoBulkEntries r
def uptoBulkEntry {H : Type} : Lit × DataW H → Nat
  | (.string bytes, d) => bytes.length + uptoBulk d + 1
  | (_, d) => uptoBulk d + 1
 end
def uptoSmall : (H : Type) → List (DataW H) → Bool := fun _ ds => decide (uptoBulkAll ds ≤ 1048576)
def OpenSpec.upto (s : _root_.Go.ChangeSpec) : _root_.Go.OpenSpec := { _root_.Go.OpenSpec.ofChange s with cond := some uptoSmall }

/-- 'tellaw1.SexprParse', WHERE WHAT IT READS IS OF BULK AT MOST 1048576: true; the input reads as it did. -/
def sexprParseUptoRow : OpenClaim := { program := "ytoepnohmhpdeiaa", sum := "237f6e04c46f1277a92a411cd934d3cbc16226910ee22f64d95d5f02763de052", func := "telpher/tellaw1.SexprParse", spec := "sexprParse", inPlace := ["internal/bytealg.IndexByteString"], unfollowed := true, recurses := true, apart := false, narrowed := true }
def SexprParseUptoSaid : Prop := sexprParseUptoRow.holds Try.pinned (OpenSpec.upto sexprParseSpec)

/-- 'tellaw1.SexprPieces', WHERE WHAT IT READS IS OF BULK AT MOST 1048576: true; the input reads as it did. -/
def sexprPiecesUptoRow : OpenClaim := { program := "ytoepnohmhpdeiaa", sum := "237f6e04c46f1277a92a411cd934d3cbc16226910ee22f64d95d5f02763de052", func := "telpher/tellaw1.SexprPieces", spec := "sexprPieces", inPlace := ["internal/bytealg.IndexByteString"], unfollowed := true, recurses := true, apart := false, narrowed := true }
def SexprPiecesUptoSaid : Prop := sexprPiecesUptoRow.holds Try.pinned (OpenSpec.upto sexprPiecesSpec)

/-- 'tellaw1.SexprLimits', WHERE WHAT IT READS IS OF BULK AT MOST 1048576: true; the input reads as it did. -/
def sexprLimitsUptoRow : OpenClaim := { program := "ytoepnohmhpdeiaa", sum := "237f6e04c46f1277a92a411cd934d3cbc16226910ee22f64d95d5f02763de052", func := "telpher/tellaw1.SexprLimits", spec := "sexprLimits", inPlace := ["internal/bytealg.IndexByteString"], unfollowed := true, recurses := true, apart := false, narrowed := true }
def SexprLimitsUptoSaid : Prop := sexprLimitsUptoRow.holds Try.pinned (OpenSpec.upto sexprLimitsSpec)

/-- 'tellaw37.ReclaimTells', WHERE WHAT IT READS IS OF BULK AT MOST 1048576: true; the input reads as it did. -/
def reclaimTellsUptoRow : OpenClaim := { program := "ytoepnohmhpdeiaa", sum := "237f6e04c46f1277a92a411cd934d3cbc16226910ee22f64d95d5f02763de052", func := "telpher/tellaw37.ReclaimTells", spec := "reclaimTells", recurses := true, loops := true, apart := false, narrowed := true }
def ReclaimTellsUptoSaid : Prop := reclaimTellsUptoRow.holds Try.pinned (OpenSpec.upto reclaimTellsSpec)

/-- 'tellaw34.StackRootsComplete', WHERE WHAT IT READS IS OF BULK AT MOST 1048576: true; the input reads as it did. -/
def stackRootsCompleteUptoRow : OpenClaim := { program := "ytoepnohmhpdeiaa", sum := "237f6e04c46f1277a92a411cd934d3cbc16226910ee22f64d95d5f02763de052", func := "telpher/tellaw34.StackRootsComplete", spec := "stackRootsComplete", recurses := true, apart := false, narrowed := true }
def StackRootsCompleteUptoSaid : Prop := stackRootsCompleteUptoRow.holds Try.pinned (OpenSpec.upto stackRootsCompleteSpec)

end Rows
end Go.Proofs.Ytoepnohmhpdeiaa
