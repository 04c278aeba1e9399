/-
  No cell of these rows narrows 'for every input' (looked for: loops, veiled, ifaces, maps, wideKeys, modest, calm, conditions, laid).
  DERIVED. THE GIVEN ROWS OF THIS SEAT. 4 by the template 'for every input the law returns true; each argument reads behind the call as it read before'; 0 by the template 'total and deterministic' (their statements: YtblileclefbklaaTotals.lean).
  GIVEN WITH THE SEED: the statements are not yours to turn. If you find one false, say at which input.
  Laid BY PROGRAM, IN A SANDBOX (cutbox-rows.mjs): the forced cells as the released guide's own fill.sh prints them over the translation 3f02ba15406fb399… (all of the seat's roots in one cut). By AI agents, Wed Nov 11 2026. No macro, syntax, notation, axiom, sorry.
-/
import Derived.Test.YtblileclefbklaaChecked
import GoSem.Claim
import GoSem.ClaimJoined
import GoSem.ClaimMapViews
import Derived.JoinedTies
import Derived.KernelRfl
namespace Go.Proofs.Ytblileclefbklaa
/- THE CELL 'sum', in the pinned program and in every row, IS THE sha256 OF THE DUMP (.gsa) THAT YtblileclefbklaaProg.lean LOADS. Nothing in Lean hashes anything: it is a label: what it is worth is what the hold of that sum in a sandbox is worth. -/
noncomputable def Try.pinned : Pinned := { name := "ytblileclefbklaa", sum := "3f02ba15406fb399d33a4c42f1f67cb5205eebbeaa251dcd95357bdea1f4e47e", checked := Try.checked }
namespace Rows
def none {H : Type} : Left H := { results := [], args := [] }

/-- 'syzygistlaw.DivideDivides': WHATEVER THE INPUT: true; the input reads as it did. -/
def divideDividesSpec : ChangeSpec := { name := "divideDivides", fn := fun _ => fun
  | [d1, d2, d3, d4] => { results := [.lit (.bool true)], args := [d1, d2, d3, d4] }
  | _ => none }
def divideDividesRow : OpenClaim := { program := "ytblileclefbklaa", sum := "3f02ba15406fb399d33a4c42f1f67cb5205eebbeaa251dcd95357bdea1f4e47e", func := "syzygist/syzygistlaw.DivideDivides", spec := "divideDivides", unfollowed := true, recurses := true, apart := false }
def DivideDividesSaid : Prop := divideDividesRow.holds Try.pinned (OpenSpec.ofChange divideDividesSpec)

/-- ITS FALSE NEIGHBOUR: 'it returns false'. Refute it at one input. -/
def divideDividesWrong : ChangeSpec := { name := "divideDivides", fn := fun _ => fun
  | [d1, d2, d3, d4] => { results := [.lit (.bool false)], args := [d1, d2, d3, d4] }
  | _ => none }
def DivideDividesWrongFalsely : Prop := divideDividesRow.holds Try.pinned (OpenSpec.ofChange divideDividesWrong)

/-- 'syzygistlaw.VectorOps': WHATEVER THE INPUT: true; the input reads as it did. -/
def vectorOpsSpec : ChangeSpec := { name := "vectorOps", fn := fun _ => fun
  | [d1, d2, d3, d4, d5] => { results := [.lit (.bool true)], args := [d1, d2, d3, d4, d5] }
  | _ => none }
def vectorOpsRow : OpenClaim := { program := "ytblileclefbklaa", sum := "3f02ba15406fb399d33a4c42f1f67cb5205eebbeaa251dcd95357bdea1f4e47e", func := "syzygist/syzygistlaw.VectorOps", spec := "vectorOps", unfollowed := true, recurses := true, apart := false }
def VectorOpsSaid : Prop := vectorOpsRow.holds Try.pinned (OpenSpec.ofChange vectorOpsSpec)

/-- ITS FALSE NEIGHBOUR: 'it returns false'. Refute it at one input. -/
def vectorOpsWrong : ChangeSpec := { name := "vectorOps", fn := fun _ => fun
  | [d1, d2, d3, d4, d5] => { results := [.lit (.bool false)], args := [d1, d2, d3, d4, d5] }
  | _ => none }
def VectorOpsWrongFalsely : Prop := vectorOpsRow.holds Try.pinned (OpenSpec.ofChange vectorOpsWrong)

/-- 'syzygistlaw.VectorCombines': WHATEVER THE INPUT: true; the input reads as it did. -/
def vectorCombinesSpec : ChangeSpec := { name := "vectorCombines", fn := fun _ => fun
  | [d1, d2, d3, d4, d5] => { results := [.lit (.bool true)], args := [d1, d2, d3, d4, d5] }
  | _ => none }
def vectorCombinesRow : OpenClaim := { program := "ytblileclefbklaa", sum := "3f02ba15406fb399d33a4c42f1f67cb5205eebbeaa251dcd95357bdea1f4e47e", func := "syzygist/syzygistlaw.VectorCombines", spec := "vectorCombines", unfollowed := true, recurses := true, apart := false }
def VectorCombinesSaid : Prop := vectorCombinesRow.holds Try.pinned (OpenSpec.ofChange vectorCombinesSpec)

/-- ITS FALSE NEIGHBOUR: 'it returns false'. Refute it at one input. -/
def vectorCombinesWrong : ChangeSpec := { name := "vectorCombines", fn := fun _ => fun
  | [d1, d2, d3, d4, d5] => { results := [.lit (.bool false)], args := [d1, d2, d3, d4, d5] }
  | _ => none }
def VectorCombinesWrongFalsely : Prop := vectorCombinesRow.holds Try.pinned (OpenSpec.ofChange vectorCombinesWrong)

/-- 'syzygistlaw.DivideHangs': WHATEVER THE INPUT: true; the input reads as it did. -/
def divideHangsSpec : ChangeSpec := { name := "divideHangs", fn := fun _ => fun
  | [d1, d2, d3, d4] => { results := [.lit (.bool true)], args := [d1, d2, d3, d4] }
  | _ => none }
def divideHangsRow : OpenClaim := { program := "ytblileclefbklaa", sum := "3f02ba15406fb399d33a4c42f1f67cb5205eebbeaa251dcd95357bdea1f4e47e", func := "syzygist/syzygistlaw.DivideHangs", spec := "divideHangs", unfollowed := true, recurses := true, apart := false }
def DivideHangsSaid : Prop := divideHangsRow.holds Try.pinned (OpenSpec.ofChange divideHangsSpec)

/-- ITS FALSE NEIGHBOUR: 'it returns false'. Refute it at one input. -/
def divideHangsWrong : ChangeSpec := { name := "divideHangs", fn := fun _ => fun
  | [d1, d2, d3, d4] => { results := [.lit (.bool false)], args := [d1, d2, d3, d4] }
  | _ => none }
def DivideHangsWrongFalsely : Prop := divideHangsRow.holds Try.pinned (OpenSpec.ofChange divideHangsWrong)

/- THE SECOND FORM. 'bulk': how many values and letters a reading holds, each counted each time it is reached (what is shared counts as often as it is met; a slice's spare places count too). A statement '..UptoSaid' is the law's where the arguments, and the package variables that the reading takes, are together of bulk at most 1048576: NARROWER than '..Said'. Prove '..Said' where nothing that the law and all that it calls make is longer than what came in: it says more and counts as full. Else prove '..UptoSaid'. A law counts once. -/
mutual
def uptoBulk {H : Type} : DataW H → Nat
  | .lit (.string bytes) => bytes.length + 1
  | .lit _ => 1
  | .nil => 1
  | .ptr d => uptoBulk d + 1
  | .slice elems spare => uptoBulkAll elems + uptoBulkAll spare + 1
  | .agg parts => uptoBulkAll parts + 1
  | .iface _ d => uptoBulk d + 1
  | .map entries => uptoBulkEntries entries + 1
  | .held _ => 1
def uptoBulkAll {H : Type} : List (DataW H) → Nat
  | [] => 0
  | d :: r => uptoBulk d + uptoBulkAll r
def uptoBulkEntries {H : Type} : List (Lit × DataW H) → Nat
  | [] => 0
  | x :: r => uptoBulkEntry x + uptoBulkEntries r
def uptoBulkEntry {H : Type} : Lit × DataW H → Nat
  | (.string bytes, d) => bytes.length + uptoBulk d + 1
  | (_, d) => uptoBulk d + 1
 end
def uptoSmall : (H : Type) → List (DataW H) → Bool := fun _ ds => decide (uptoBulkAll ds ≤ 1048576)
def OpenSpec.upto (s : _root_.Go.ChangeSpec) : _root_.Go.OpenSpec := { _root_.Go.OpenSpec.ofChange s with cond := some uptoSmall }

/-- 'syzygistlaw.DivideDivides', WHERE WHAT IT READS IS OF BULK AT MOST 1048576: true; the input reads as it did. -/
def divideDividesUptoRow : OpenClaim := { program := "ytblileclefbklaa", sum := "3f02ba15406fb399d33a4c42f1f67cb5205eebbeaa251dcd95357bdea1f4e47e", func := "syzygist/syzygistlaw.DivideDivides", spec := "divideDivides", unfollowed := true, recurses := true, apart := false, narrowed := true }
def DivideDividesUptoSaid : Prop := divideDividesUptoRow.holds Try.pinned (OpenSpec.upto divideDividesSpec)

/-- 'syzygistlaw.VectorOps', WHERE WHAT IT READS IS OF BULK AT MOST 1048576: true; the input reads as it did. -/
def vectorOpsUptoRow : OpenClaim := { program := "ytblileclefbklaa", sum := "3f02ba15406fb399d33a4c42f1f67cb5205eebbeaa251dcd95357bdea1f4e47e", func := "syzygist/syzygistlaw.VectorOps", spec := "vectorOps", unfollowed := true, recurses := true, apart := false, narrowed := true }
def VectorOpsUptoSaid : Prop := vectorOpsUptoRow.holds Try.pinned (OpenSpec.upto vectorOpsSpec)

/-- 'syzygistlaw.VectorCombines', WHERE WHAT IT READS IS OF BULK AT MOST 1048576: true; the input reads as it did. -/
def vectorCombinesUptoRow : OpenClaim := { program := "ytblileclefbklaa", sum := "3f02ba15406fb399d33a4c42f1f67cb5205eebbeaa251dcd95357bdea1f4e47e", func := "syzygist/syzygistlaw.VectorCombines", spec := "vectorCombines", unfollowed := true, recurses := true, apart := false, narrowed := true }
def VectorCombinesUptoSaid : Prop := vectorCombinesUptoRow.holds Try.pinned (OpenSpec.upto vectorCombinesSpec)

/-- 'syzygistlaw.DivideHangs', WHERE WHAT IT READS IS OF BULK AT MOST 1048576: true; the input reads as it did. -/
def divideHangsUptoRow : OpenClaim := { program := "ytblileclefbklaa", sum := "3f02ba15406fb399d33a4c42f1f67cb5205eebbeaa251dcd95357bdea1f4e47e", func := "syzygist/syzygistlaw.DivideHangs", spec := "divideHangs", unfollowed := true, recurses := true, apart := false, narrowed := true }
def DivideHangsUptoSaid : Prop := divideHangsUptoRow.holds Try.pinned (OpenSpec.upto divideHangsSpec)

end Rows
end Go.Proofs.Ytblileclefbklaa
