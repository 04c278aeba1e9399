/-
  make, slice literals, append and calls at the data level. No condition.
-/
import Derived.Test.YtejpadofecboiaaE5
import Derived.Great.BuildSlice
namespace Go.Proofs.Ytejpadofecboiaa
open Go.RowKit
set_option linter.unusedVariables false
set_option linter.unusedSimpArgs false

section
variable {P : Program} {H : Heap} {e : Env} {dst : Option Tmp} {ty : TypeId} {pos : String} {af : Array Edge} {gd : Option (Nat × Bool)}

theorem bytes_int {a b : Nat} (h : a * b ≤ 281474976710656) : (a : Int) * (b : Int) ≤ 281474976710656 := by
  rw [← Int.natCast_mul]
  omega

/-- An element of zeros. -/
def zeroEl (agg : Bool) (zd : List D) : D := if agg then .agg zd else zd.getD 0 .nil

theorem made_reps {t : TypeId} {k : Nat} {zd : List D} (hz : ZeroOf P t k zd) (hk : 0 < k) (w : World) (H : Heap) (n m : Nat) (hnm : n ≤ m) :
    ∀ (j : Nat) (x : D), ((List.replicate n zd).flatten)[j]? = some x → litOk x = true ∧ ∃ v, (madeCells (zd.map litV).toArray (m * k))[j]? = some v ∧ Rep w H v x := by
  intro j x hx
  have hlen : ((List.replicate n zd).flatten).length = n * k := by simp [hz.len]
  have hj : j < n * k := by rw [← hlen]; exact (List.getElem?_eq_some_iff.1 hx).1
  have hmod : j % k < zd.length := by rw [hz.len]; exact Nat.mod_lt _ hk
  have hx' : zd[j % k]? = some x := by
    rw [← hx]
    have : ∀ (n j : Nat), j < n * k → ((List.replicate n zd).flatten)[j]? = zd[j % k]? := by
      intro n
      induction n with
      | zero => intro j hj; omega
      | succ n ih =>
        intro j hj
        rw [List.replicate_succ, List.flatten_cons]
        by_cases h : j < k
        · rw [List.getElem?_append_left (by rw [hz.len]; exact h), Nat.mod_eq_of_lt h]
        · rw [List.getElem?_append_right (by rw [hz.len]; omega), hz.len, ih (j - k) (by rw [Nat.add_mul] at hj; omega)]
          congr 1
          rw [← Nat.mod_eq_sub_mod (by omega)]
    exact (this n j hj).symm
  have hmk : j < m * k := Nat.lt_of_lt_of_le hj (Nat.mul_le_mul_right k hnm)
  refine ⟨List.all_eq_true.1 hz.lit x (List.mem_of_getElem? hx'), litV x, ?_, rep_lit w H (List.all_eq_true.1 hz.lit x (List.mem_of_getElem? hx'))⟩
  simp only [madeCells]
  rw [Array.getElem?_map, Array.getElem?_range]
  rw [if_pos hmk]
  simp only [Option.map_some]
  congr 1
  have hsz : ((zd.map litV).toArray).size = k := by simp [hz.len]
  rw [hsz]
  have : ((zd.map litV).toArray)[j % k]? = some (litV x) := by simp [hx']
  rw [getElem!_def, this]

/-- A new slice that will be written. -/
theorem opD_make {t E : TypeId} {x y : Operand} {k n c : Nat} {zd : List D} {K : D → Heap → Prop} (hu : P.underlying t = some (.slice E)) (hz : ZeroOf P E k zd) (hk : 0 < k) (hx : e.ev x = some (I n)) (hy : e.ev y = some (I c)) (hnc : n ≤ c)
    (hbytes : ∀ inf, P.info? E = some inf → inf.bytes * c ≤ 281474976710656) (hc : c ≤ 4611686018427387904) (hK : ∀ b, H b = none → K (.ref b 0 n k) (H.set b (E, (List.replicate n zd).flatten))) :
    OpD P H e ⟨dst, .makeSlice t x y, ty, pos, af, gd⟩ K := .mk fun ρ w ha ho => by
  have h1 := rep_int (ha x _ hx)
  have h2 := rep_int (ha y _ hy)
  obtain ⟨inf, z, hi, hz1, hz2, hz3⟩ := hz.is
  have hb := hbytes inf hi
  have hr := run_make (P := P) w t E inf z hu hi hz1 .i64 .i64 (n : Int) (c : Int) (by omega) (by omega) (bytes_int hb) (by omega)
  have hrun : (execOp ρ ⟨dst, .makeSlice t x y, ty, pos, af, gd⟩).run P w = .ok (.value (.slice (some ⟨w.heap.size, 0, none⟩) n c)) (w.alloc (.cells (madeCells z.cells (c * inf.size)) E)) := by
    simp only [execOp, h1, h2, Sem.run_bind, hr, Result.andThen_ok, Sem.run_pure, Int.toNat_natCast]
  simp only [OpTo, hrun]
  have hm := made_reps hz hk w H n c hnc
  refine ⟨_, _, hK w.heap.size ho.fresh, ?_, ?_, Ext.allocMut w H _ _⟩
  · refine .ref (heap_alloc_new w _) ?_ hnc (by unfold maxLen; omega)
    rw [size_madeCells, hz2]; omega
  · rw [hz3, hz2]
    refine ho.allocMut E _ _ ?_ fun j x hx => ⟨litOk_cell (hm j x hx).1, (hm j x hx).2⟩
    rw [size_madeCells]
    simp only [List.length_flatten, List.map_replicate, List.sum_replicate_nat, hz.len]
    exact Nat.mul_le_mul_right k hnc

/-- A slice of zeros that is never written. -/
theorem sta_make {t E : TypeId} {x y : Operand} {k n : Nat} {zd : List D} {el : D} (hu : P.underlying t = some (.slice E)) (hz : ZeroOf P E k zd) (hk : 0 < k) (hel : cellsOf el = zd) (hx : e.ev x = some (I n)) (hy : e.ev y = some (I n))
    (hbytes : ∀ inf, P.info? E = some inf → inf.bytes * n ≤ 281474976710656) (hc : n ≤ 4611686018427387904) :
    Sta P H e ⟨dst, .makeSlice t x y, ty, pos, af, gd⟩ (.list k (List.replicate n el)) := .mk fun ρ w ha ho => by
  have h1 := rep_int (ha x _ hx)
  have h2 := rep_int (ha y _ hy)
  obtain ⟨inf, z, hi, hz1, hz2, hz3⟩ := hz.is
  have hb := hbytes inf hi
  have hr := run_make (P := P) w t E inf z hu hi hz1 .i64 .i64 (n : Int) (n : Int) (by omega) (by omega) (bytes_int hb) (by omega)
  have hrun : (execOp ρ ⟨dst, .makeSlice t x y, ty, pos, af, gd⟩).run P w = .ok (.value (.slice (some ⟨w.heap.size, 0, none⟩) n n)) (w.alloc (.cells (madeCells z.cells (n * inf.size)) E)) := by
    simp only [execOp, h1, h2, Sem.run_bind, hr, Result.andThen_ok, Sem.run_pure, Int.toNat_natCast]
  simp only [OpTo, hrun]
  have hm := made_reps hz hk w H n n (Nat.le_refl _)
  have hflat : (List.replicate n el).flatMap cellsOf = (List.replicate n zd).flatten := by
    rw [List.flatMap_def, List.map_replicate, hel]
  refine ⟨?_, ho.alloc _, Ext.alloc w H _⟩
  have := rep_row (w := w.alloc (.cells (madeCells z.cells (n * inf.size)) E)) (H := H) (l := List.replicate n el) (k := k) (cap := n) (heap_alloc_new w _) ho.fresh (fun i d hd => by
      have := List.mem_of_getElem? hd
      rw [List.mem_replicate] at this
      rw [this.2, hel, hz.len]) (fun j x hx => by
      rw [hflat] at hx
      obtain ⟨_, v, hv, hrep⟩ := hm j x hx
      exact ⟨v, by rw [hz3, hz2]; exact hv, hrep.ext (Ext.alloc w H _)⟩) (by simp) (by unfold maxLen; omega)
  simpa using this

/-- A slice literal. -/
theorem sta_buildSlice {t E : TypeId} {n k : Nat} {parts : Array (Nat × Operand)} {zd : List D} {pd : List (Nat × D)} {ds : List D} (hu : P.underlying t = some (.slice E)) (hz : ZeroOf P E k zd) (hk : 0 < k) (hn : n * k ≤ 16777216) (hn0 : 0 < n)
    (hp : evParts e parts.toList = some pd) (hds : ds.length = n) (huni : ∀ d ∈ ds, (cellsOf d).length = k) (hf : fillD (fun i => some (i * k, k)) (List.replicate n zd).flatten pd = some (ds.flatMap cellsOf)) :
    Sta P H e ⟨dst, .buildSlice t n parts, ty, pos, af, gd⟩ (.list k ds) := .mk fun ρ w ha ho => by
  obtain ⟨inf, z, hi, hz1, hz2, hz3⟩ := hz.is
  have hm := made_reps hz hk w H n n (Nat.le_refl _)
  have hbase : RepsA w H (madeCells z.cells (n * inf.size)) (List.replicate n zd).flatten := by
    refine ⟨by rw [size_madeCells, hz2]; simp [hz.len], fun j x hx => ?_⟩
    rw [hz3, hz2]
    exact (hm j x hx).2
  obtain ⟨vs, hfill, hr⟩ := fill_rep (w := w) (H := H) (fun i => some (i * k, k)) (parts_of ha parts.toList pd hp) _ _ _ hbase hf
  have hrun : (Instr.buildSlice t n (parts.map fun x => (x.1, ρ x.2))).run P w = .ok (.slice (some ⟨w.heap.size, 0, none⟩) n n) (w.alloc (.cells vs E)) := by
    have hnot : ¬ (n * inf.size > 2 ^ 24) := by rw [hz2]; omega
    have hpos : ¬ n * inf.size = 0 := by
      rw [hz2]
      have := Nat.mul_pos hn0 hk
      omega
    refine run_buildSlice w t E n _ vs inf z hu hi hz1 hnot hpos ?_
    rw [← hfill, ← hz2]
    simp [madeCells]
  simp only [OpTo, execOp, Sem.run_bind]
  simp only [hrun, Result.andThen_ok, Sem.run_pure]
  refine ⟨?_, ho.alloc _, Ext.alloc w H _⟩
  have hnm : n ≤ 16777216 := Nat.le_trans (Nat.le_mul_of_pos_right n hk) hn
  have := rep_row (w := w.alloc (.cells vs E)) (H := H) (l := ds) (k := k) (cap := n) (heap_alloc_new w _) ho.fresh (fun i d hd => huni d (List.mem_of_getElem? hd)) (fun j x hx => by
      obtain ⟨v, hv, hrep⟩ := hr.2 j x hx
      exact ⟨v, hv, hrep.ext (Ext.alloc w H _)⟩) (by omega) (by unfold maxLen; omega)
  rw [hds] at this
  exact this

/-- A slice literal without elements: as good as nil. -/
theorem sta_buildEmpty {t E : TypeId} {k : Nat} {zd : List D} (hu : P.underlying t = some (.slice E)) (hz : ZeroOf P E k zd) : Sta P H e ⟨dst, .buildSlice t 0 #[], ty, pos, af, gd⟩ .nil := .mk fun ρ w ha ho => by
  obtain ⟨inf, z, hi, hz1, hz2, hz3⟩ := hz.is
  have hrun : (Instr.buildSlice t 0 #[]).run P w = .ok (.slice (some ⟨w.heap.size, 0, none⟩) 0 0) (w.alloc (.cells #[] E)) := by
    simp [Instr.buildSlice, run_underlying hu, run_sizeOf hi, Instr.fill, newRow, newObj, Sem.run, Array.range_zero']
  simp only [OpTo, execOp, Sem.run_bind]
  simp [hrun]
  exact ⟨.nil _, ho.alloc _, Ext.alloc w H _⟩

end
end Go.Proofs.Ytejpadofecboiaa
