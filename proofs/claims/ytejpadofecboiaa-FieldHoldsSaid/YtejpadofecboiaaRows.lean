/-
  No cell of these rows narrows 'for every input' (looked for: loops, veiled, ifaces, maps, wideKeys, modest, calm, conditions, laid).
  DERIVED. THE GIVEN ROWS OF THIS SEAT. 5 by the template 'for every input the law returns true; each argument reads behind the call as it read before'; 0 by the template 'total and deterministic' (their statements: YtejpadofecboiaaTotals.lean).
  GIVEN WITH THE SEED: the statements are not yours to turn. If you find one false, say at which input.
  Laid BY PROGRAM, IN A SANDBOX (cutbox-rows.mjs): the forced cells as the released guide's own fill.sh prints them over the translation 26ed8fd5de7c9297… (all of the seat's roots in one cut). By AI agents, Wed Nov 11 2026. No macro, syntax, notation, axiom, sorry.
-/
import Derived.Test.YtejpadofecboiaaChecked
import GoSem.Claim
import GoSem.ClaimJoined
import GoSem.ClaimMapViews
import Derived.JoinedTies
import Derived.KernelRfl
namespace Go.Proofs.Ytejpadofecboiaa
/- THE CELL 'sum', in the pinned program and in every row, IS THE sha256 OF THE DUMP (.gsa) THAT YtejpadofecboiaaProg.lean LOADS. Nothing in Lean hashes anything: it is a label: what it is worth is what the hold of that sum in a sandbox is worth. -/
noncomputable def Try.pinned : Pinned := { name := "ytejpadofecboiaa", sum := "26ed8fd5de7c92973105121e0c8626d843a4b9dbc937ea3267772f76ce4de422", checked := Try.checked }
namespace Rows
def none {H : Type} : Left H := { results := [], args := [] }

/-- 'syzygistlaw.FieldRanks': WHATEVER THE INPUT: true; the input reads as it did. -/
def fieldRanksSpec : ChangeSpec := { name := "fieldRanks", fn := fun _ => fun
  | [d1, d2] => { results := [.lit (.bool true)], args := [d1, d2] }
  | _ => none }
def fieldRanksRow : OpenClaim := { program := "ytejpadofecboiaa", sum := "26ed8fd5de7c92973105121e0c8626d843a4b9dbc937ea3267772f76ce4de422", func := "syzygist/syzygistlaw.FieldRanks", spec := "fieldRanks", unfollowed := true, recurses := true, apart := false }
def FieldRanksSaid : Prop := fieldRanksRow.holds Try.pinned (OpenSpec.ofChange fieldRanksSpec)

/-- ITS FALSE NEIGHBOUR: 'it returns false'. Refute it at one input. -/
def fieldRanksWrong : ChangeSpec := { name := "fieldRanks", fn := fun _ => fun
  | [d1, d2] => { results := [.lit (.bool false)], args := [d1, d2] }
  | _ => none }
def FieldRanksWrongFalsely : Prop := fieldRanksRow.holds Try.pinned (OpenSpec.ofChange fieldRanksWrong)

/-- 'syzygistlaw.FieldOps': WHATEVER THE INPUT: true; the input reads as it did. -/
def fieldOpsSpec : ChangeSpec := { name := "fieldOps", fn := fun _ => fun
  | [d1, d2, d3] => { results := [.lit (.bool true)], args := [d1, d2, d3] }
  | _ => none }
def fieldOpsRow : OpenClaim := { program := "ytejpadofecboiaa", sum := "26ed8fd5de7c92973105121e0c8626d843a4b9dbc937ea3267772f76ce4de422", func := "syzygist/syzygistlaw.FieldOps", spec := "fieldOps", unfollowed := true, recurses := true, apart := false }
def FieldOpsSaid : Prop := fieldOpsRow.holds Try.pinned (OpenSpec.ofChange fieldOpsSpec)

/-- ITS FALSE NEIGHBOUR: 'it returns false'. Refute it at one input. -/
def fieldOpsWrong : ChangeSpec := { name := "fieldOps", fn := fun _ => fun
  | [d1, d2, d3] => { results := [.lit (.bool false)], args := [d1, d2, d3] }
  | _ => none }
def FieldOpsWrongFalsely : Prop := fieldOpsRow.holds Try.pinned (OpenSpec.ofChange fieldOpsWrong)

/-- 'syzygistlaw.FieldHolds': WHATEVER THE INPUT: true; the input reads as it did. -/
def fieldHoldsSpec : ChangeSpec := { name := "fieldHolds", fn := fun _ => fun
  | [d1, d2, d3, d4, d5] => { results := [.lit (.bool true)], args := [d1, d2, d3, d4, d5] }
  | _ => none }
def fieldHoldsRow : OpenClaim := { program := "ytejpadofecboiaa", sum := "26ed8fd5de7c92973105121e0c8626d843a4b9dbc937ea3267772f76ce4de422", func := "syzygist/syzygistlaw.FieldHolds", spec := "fieldHolds", unfollowed := true, recurses := true, apart := false }
def FieldHoldsSaid : Prop := fieldHoldsRow.holds Try.pinned (OpenSpec.ofChange fieldHoldsSpec)

/-- ITS FALSE NEIGHBOUR: 'it returns false'. Refute it at one input. -/
def fieldHoldsWrong : ChangeSpec := { name := "fieldHolds", fn := fun _ => fun
  | [d1, d2, d3, d4, d5] => { results := [.lit (.bool false)], args := [d1, d2, d3, d4, d5] }
  | _ => none }
def FieldHoldsWrongFalsely : Prop := fieldHoldsRow.holds Try.pinned (OpenSpec.ofChange fieldHoldsWrong)

/-- 'syzygistlaw.MonoOrders': WHATEVER THE INPUT: true; the input reads as it did. -/
def monoOrdersSpec : ChangeSpec := { name := "monoOrders", fn := fun _ => fun
  | [d1, d2, d3, d4] => { results := [.lit (.bool true)], args := [d1, d2, d3, d4] }
  | _ => none }
def monoOrdersRow : OpenClaim := { program := "ytejpadofecboiaa", sum := "26ed8fd5de7c92973105121e0c8626d843a4b9dbc937ea3267772f76ce4de422", func := "syzygist/syzygistlaw.MonoOrders", spec := "monoOrders", unfollowed := true, recurses := true, apart := false }
def MonoOrdersSaid : Prop := monoOrdersRow.holds Try.pinned (OpenSpec.ofChange monoOrdersSpec)

/-- ITS FALSE NEIGHBOUR: 'it returns false'. Refute it at one input. -/
def monoOrdersWrong : ChangeSpec := { name := "monoOrders", fn := fun _ => fun
  | [d1, d2, d3, d4] => { results := [.lit (.bool false)], args := [d1, d2, d3, d4] }
  | _ => none }
def MonoOrdersWrongFalsely : Prop := monoOrdersRow.holds Try.pinned (OpenSpec.ofChange monoOrdersWrong)

/-- 'syzygistlaw.MonoOps': WHATEVER THE INPUT: true; the input reads as it did. -/
def monoOpsSpec : ChangeSpec := { name := "monoOps", fn := fun _ => fun
  | [d1, d2, d3] => { results := [.lit (.bool true)], args := [d1, d2, d3] }
  | _ => none }
def monoOpsRow : OpenClaim := { program := "ytejpadofecboiaa", sum := "26ed8fd5de7c92973105121e0c8626d843a4b9dbc937ea3267772f76ce4de422", func := "syzygist/syzygistlaw.MonoOps", spec := "monoOps", unfollowed := true, recurses := true, apart := false }
def MonoOpsSaid : Prop := monoOpsRow.holds Try.pinned (OpenSpec.ofChange monoOpsSpec)

/-- ITS FALSE NEIGHBOUR: 'it returns false'. Refute it at one input. -/
def monoOpsWrong : ChangeSpec := { name := "monoOps", fn := fun _ => fun
  | [d1, d2, d3] => { results := [.lit (.bool false)], args := [d1, d2, d3] }
  | _ => none }
def MonoOpsWrongFalsely : Prop := monoOpsRow.holds Try.pinned (OpenSpec.ofChange monoOpsWrong)

/- THE SECOND FORM. 'bulk': how many values and letters a reading holds, each counted each time it is reached (what is shared counts as often as it is met; a slice's spare places count too). A statement '..UptoSaid' is the law's where the arguments, and the package variables that the reading takes, are together of bulk at most 1048576: NARROWER than '..Said'. Prove '..Said' where nothing that the law and all that it calls make is longer than what came in: it says more and counts as full. Else prove '..UptoSaid'. A law counts once. -/
mutual
def uptoBulk {H : Type} : DataW H → Nat
  | .lit (.string bytes) => bytes.length + 1
  | .lit _ => 1
  | .nil => 1
  | .ptr d => uptoBulk d + 1
  | .slice elems spare => uptoBulkAll elems + uptoBulkAll spare + 1
  | .agg parts => uptoBulkAll parts + 1
  | .iface _ d => uptoBulk d + 1
  | .map entries => uptoBulkEntries entries + 1
  | .held _ => 1
def uptoBulkAll {H : Type} : List (DataW H) → Nat
  | [] => 0
  | d :: r => uptoBulk d + uptoBulkAll r
def uptoBulkEntries {H : Type} : List (Lit × DataW H) → Nat
  | [] => 0
  | x :: r => uptoBulkEntry x + uptoBulkEntries r
def uptoBulkEntry {H : Type} : Lit × DataW H → Nat
  | (.string bytes, d) => bytes.length + uptoBulk d + 1
  | (_, d) => uptoBulk d + 1
 end
def uptoSmall : (H : Type) → List (DataW H) → Bool := fun _ ds => decide (uptoBulkAll ds ≤ 1048576)
def OpenSpec.upto (s : _root_.Go.ChangeSpec) : _root_.Go.OpenSpec := { _root_.Go.OpenSpec.ofChange s with cond := some uptoSmall }

/-- 'syzygistlaw.FieldRanks', WHERE WHAT IT READS IS OF BULK AT MOST 1048576: true; the input reads as it did. -/
def fieldRanksUptoRow : OpenClaim := { program := "ytejpadofecboiaa", sum := "26ed8fd5de7c92973105121e0c8626d843a4b9dbc937ea3267772f76ce4de422", func := "syzygist/syzygistlaw.FieldRanks", spec := "fieldRanks", unfollowed := true, recurses := true, apart := false, narrowed := true }
def FieldRanksUptoSaid : Prop := fieldRanksUptoRow.holds Try.pinned (OpenSpec.upto fieldRanksSpec)

/-- 'syzygistlaw.FieldOps', WHERE WHAT IT READS IS OF BULK AT MOST 1048576: true; the input reads as it did. -/
def fieldOpsUptoRow : OpenClaim := { program := "ytejpadofecboiaa", sum := "26ed8fd5de7c92973105121e0c8626d843a4b9dbc937ea3267772f76ce4de422", func := "syzygist/syzygistlaw.FieldOps", spec := "fieldOps", unfollowed := true, recurses := true, apart := false, narrowed := true }
def FieldOpsUptoSaid : Prop := fieldOpsUptoRow.holds Try.pinned (OpenSpec.upto fieldOpsSpec)

/-- 'syzygistlaw.FieldHolds', WHERE WHAT IT READS IS OF BULK AT MOST 1048576: true; the input reads as it did. -/
def fieldHoldsUptoRow : OpenClaim := { program := "ytejpadofecboiaa", sum := "26ed8fd5de7c92973105121e0c8626d843a4b9dbc937ea3267772f76ce4de422", func := "syzygist/syzygistlaw.FieldHolds", spec := "fieldHolds", unfollowed := true, recurses := true, apart := false, narrowed := true }
def FieldHoldsUptoSaid : Prop := fieldHoldsUptoRow.holds Try.pinned (OpenSpec.upto fieldHoldsSpec)

/-- 'syzygistlaw.MonoOrders', WHERE WHAT IT READS IS OF BULK AT MOST 1048576: true; the input reads as it did. -/
def monoOrdersUptoRow : OpenClaim := { program := "ytejpadofecboiaa", sum := "26ed8fd5de7c92973105121e0c8626d843a4b9dbc937ea3267772f76ce4de422", func := "syzygist/syzygistlaw.MonoOrders", spec := "monoOrders", unfollowed := true, recurses := true, apart := false, narrowed := true }
def MonoOrdersUptoSaid : Prop := monoOrdersUptoRow.holds Try.pinned (OpenSpec.upto monoOrdersSpec)

/-- 'syzygistlaw.MonoOps', WHERE WHAT IT READS IS OF BULK AT MOST 1048576: true; the input reads as it did. -/
def monoOpsUptoRow : OpenClaim := { program := "ytejpadofecboiaa", sum := "26ed8fd5de7c92973105121e0c8626d843a4b9dbc937ea3267772f76ce4de422", func := "syzygist/syzygistlaw.MonoOps", spec := "monoOps", unfollowed := true, recurses := true, apart := false, narrowed := true }
def MonoOpsUptoSaid : Prop := monoOpsUptoRow.holds Try.pinned (OpenSpec.upto monoOpsSpec)

end Rows
end Go.Proofs.Ytejpadofecboiaa
