/-
  From a law's arguments to data: one argument after the other. No condition.
-/
import Derived.Test.YtejpadofecboiaaE14
import Derived.Test.YtejpadofecboiaaT
namespace Go.Proofs.Ytejpadofecboiaa
open Go.RowKit Go.ChangeShapes Go.WideShapes Go.ChangeAt
set_option linter.unusedVariables false
set_option linter.unusedSimpArgs false

theorem Try.ownK : ownKnob Try.prog.godebug = none := by kernel_rfl
theorem Try.laidOutK : laidOutB Try.prog = true := by kernel_rfl

/-- An argument that is one cell. -/
theorem arg_cell {α : Type} {P : Program} {t : TypeId} {f : α → D} {Q : α → Prop} (ho : Opens P t 1 f Q) (hf : ∀ a, cellsOf (f a) = [f a]) {H : Type} {enc : TypeId × Value → H} {W : World} {v : Value} {d : DataW H} {p : List MemPlace} (hv : v.cells = #[v])
    (h : DataW.Trod enc P W 0 (fun _ => true) true t v d p) (hw : (d.weights P t).all (· ≤ reachBytes) = true) : ∃ a, Rep W noHeap v (f a) ∧ Q a := by
  obtain ⟨fuel, hf'⟩ := h
  obtain ⟨a, _, hr, hq⟩ := ho H enc W fuel _ d p hf' hw
  rw [hv, hf] at hr
  obtain ⟨u, hu, hrep⟩ := hr.2 0 (f a) rfl
  simp at hu
  subst hu
  exact ⟨a, hrep, hq⟩

/-- An argument that is a struct. -/
theorem arg_agg {α : Type} {P : Program} {t : TypeId} {k : Nat} {f : α → D} {Q : α → Prop} (ho : Opens P t k f Q) (hf : ∀ a, f a = .agg (cellsOf (f a))) {H : Type} {enc : TypeId × Value → H} {W : World} {cs : Array Value} {d : DataW H} {p : List MemPlace}
    (h : DataW.Trod enc P W 0 (fun _ => true) true t (.agg cs) d p) (hw : (d.weights P t).all (· ≤ reachBytes) = true) : ∃ a, Rep W noHeap (.agg cs) (f a) ∧ Q a := by
  obtain ⟨fuel, hf'⟩ := h
  obtain ⟨a, _, hr, hq⟩ := ho H enc W fuel _ d p hf' hw
  refine ⟨a, ?_, hq⟩
  rw [hf a]
  have : (Value.agg cs).cells.toList.toArray = cs := by simp [Value.cells]
  rw [this] at hr
  exact hr.agg

theorem slice_cells (a : Option Addr) (n c : Nat) : (Value.slice a n c).cells = #[.slice a n c] := rfl
theorem int_cells (k : IntKind) (n : Int) : (Value.int k n).cells = #[.int k n] := rfl

/-- The arguments, one after the other. -/
inductive ArgsAre (W : World) : List Value → List D → Prop
  | nil : ArgsAre W [] []
  | cons {v : Value} {d : D} {vs : List Value} {ds : List D} (h : Rep W noHeap v d) (r : ArgsAre W vs ds) : ArgsAre W (v :: vs) (d :: ds)

theorem ArgsAre.reps {W : World} : ∀ {vs : List Value} {ds : List D}, ArgsAre W vs ds → RepsA W noHeap vs.toArray ds
  | _, _, .nil => ⟨rfl, fun j x h => by simp at h⟩
  | _, _, .cons h r => by
    have ih := r.reps
    refine ⟨by simpa using ih.1, fun j x hx => ?_⟩
    cases j with
    | zero => simp at hx; subst hx; exact ⟨_, by simp, h⟩
    | succ j =>
      obtain ⟨u, hu, hr⟩ := ih.2 j x (by simpa using hx)
      exact ⟨u, by simpa using hu, hr⟩

theorem weights_head {H : Type} {P : Program} {t : TypeId} {ts : List TypeId} {d : DataW H} {ds : List (DataW H)} (h : (DataW.weightsEach P (t :: ts) (d :: ds)).all (· ≤ reachBytes) = true) : (d.weights P t).all (· ≤ reachBytes) = true ∧ (DataW.weightsEach P ts ds).all (· ≤ reachBytes) = true := by
  simpa only [DataW.weightsEach, List.all_append, Bool.and_eq_true] using h

theorem Try.opensInt : Opens Try.prog 3 1 I fitsInt := opens_int Try.underlying3
theorem Try.opensInts : Opens Try.prog 36 1 intsD (fun l => (∀ a ∈ l, fitsInt a) ∧ l.length * Try.prog.bytesOf 3 ≤ reachBytes) := opens_slice Try.underlying36 (by kernel_rfl) (by decide) (fun _ => rfl) (opens_int Try.underlying3)
theorem Try.opensRows : Opens Try.prog 22 1 intssD (fun l => (∀ a ∈ l, (∀ x ∈ a, fitsInt x) ∧ a.length * Try.prog.bytesOf 3 ≤ reachBytes) ∧ l.length * Try.prog.bytesOf 36 ≤ reachBytes) := opens_slice Try.underlying22 (by kernel_rfl) (by decide) (fun _ => rfl) Try.opensInts
theorem Try.opensRing : Opens Try.prog 39 4 rgD (fun r => fitsInt r.p ∧ fitsInt r.n ∧ fitsInt r.order ∧ fitsInt r.over) := opens_ring Try.underlying39 (by kernel_rfl) Try.underlying3 (by kernel_rfl) ⟨rfl, rfl⟩ ⟨rfl, rfl⟩ ⟨rfl, rfl⟩ ⟨rfl, rfl⟩

theorem len_le {n b : Nat} (h : n * b ≤ reachBytes) (hb : 8 ≤ b) : n ≤ 17592186044416 := by
  have h1 : n * 8 ≤ n * b := Nat.mul_le_mul_left _ hb
  unfold reachBytes at h
  omega

theorem Try.bytes_int : 8 ≤ Try.prog.bytesOf 3 := of_decide_eq_true (by kernel_rfl)
theorem Try.bytes_ints : 8 ≤ Try.prog.bytesOf 36 := of_decide_eq_true (by kernel_rfl)

/-- What a pure law that says true comes to. -/
theorem law_calls {P : Program} {f : FuncId} {ds : List D} (hp : Pure P f ds (.bool true)) {W : World} {args : Array Value} (ha : ArgsAre W args.toList ds) : Calls P f args W fun e W' => e = .returned (.bool true) ∧ Below W.heap.size W W' := by
  have hr := ha.reps
  rw [Array.toArray_toList] at hr
  refine ((hp noHeap).calls W args (hok_none W) hr).mono fun e W' ⟨v, he, hv, _, hx⟩ => ⟨?_, ext_below hx⟩
  rw [he, rep_bool hv]

end Go.Proofs.Ytejpadofecboiaa
