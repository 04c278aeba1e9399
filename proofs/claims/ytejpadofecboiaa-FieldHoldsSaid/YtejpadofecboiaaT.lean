/-
  The facts on the program's types, as instances. No condition.
-/
import Derived.Test.YtejpadofecboiaaE13
import Derived.Test.YtejpadofecboiaaRows
namespace Go.Proofs.Ytejpadofecboiaa
open Go.RowKit


instance : BoolT Try.prog 4 := ⟨Try.underlying4⟩
instance : CellT Try.prog 3 := ⟨⟨_, Try.underlying3, rfl⟩⟩
instance : CellT Try.prog 4 := ⟨⟨_, Try.underlying4, rfl⟩⟩
instance : CellT Try.prog 36 := ⟨⟨_, Try.underlying36, rfl⟩⟩
instance : CellT Try.prog 23 := ⟨⟨_, Try.underlying23, rfl⟩⟩
instance : CellT Try.prog 22 := ⟨⟨_, Try.underlying22, rfl⟩⟩
instance : SizeT Try.prog 3 1 := .of (by kernel_rfl)
instance : SizeT Try.prog 36 1 := .of (by kernel_rfl)
instance : AggT Try.prog 39 4 := .of Try.underlying39 rfl (by kernel_rfl)
instance : FieldT Try.prog 39 0 0 := ⟨by kernel_rfl⟩
instance : FieldT Try.prog 39 1 1 := ⟨by kernel_rfl⟩
instance : FieldT Try.prog 39 2 2 := ⟨by kernel_rfl⟩
instance : FieldT Try.prog 39 3 3 := ⟨by kernel_rfl⟩
instance : SliceT Try.prog 36 3 := ⟨Try.underlying36⟩
instance : SliceT Try.prog 22 36 := ⟨Try.underlying22⟩
instance : ElT Try.prog 3 1 [I 0] 8 := .of (z := .int .i64 0) (by kernel_rfl) rfl rfl rfl (by decide)
instance : ElT Try.prog 36 1 [.nil] 24 := .of (z := .slice none 0 0) (by kernel_rfl) rfl rfl rfl (by decide)
instance : ElT Try.prog 39 4 [I 0, I 0, I 0, I 0] 32 := .of (z := .agg #[.int .i64 0, .int .i64 0, .int .i64 0, .int .i64 0]) (by kernel_rfl) rfl rfl rfl (by decide)

theorem Try.mixed : Try.prog.follows .mixedOrders = true := by kernel_rfl

end Go.Proofs.Ytejpadofecboiaa
