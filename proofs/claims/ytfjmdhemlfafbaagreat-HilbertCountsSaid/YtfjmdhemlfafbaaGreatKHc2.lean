/-
  The logic at the data level: code, by what its slots and the mutable blocks hold. No condition.
-/
import Derived.Test.YtfjmdhemlfafbaaGreatKHc1
import Derived.Great.BuildSlice
import Derived.ArgAppend
import Derived.RangeFuncLeaves
import Derived.RangeFuncRecord
set_option linter.unusedVariables false
set_option linter.unusedSimpArgs false

namespace Go.Proofs.YtfjmdhemlfafbaaGreat
section
open Go.RowKit

def Uni (k : Nat) (l : List D) : Prop := ∀ d ∈ l, (cellsOf d).length = k ∧ ∀ x ∈ cellsOf d, x.isCell = true

theorem Uni.nil (k : Nat) : Uni k [] := fun d h => by cases h
theorem Uni.append {k : Nat} {l m : List D} (h : Uni k l) (g : Uni k m) : Uni k (l ++ m) := fun d hd => by
 rcases List.mem_append.1 hd with x | x
 ·exact h d x
 ·exact g d x
theorem Uni.single {k : Nat} {d : D} (h : (cellsOf d).length = k) (g : ∀ x ∈ cellsOf d, x.isCell = true) : Uni k [d] := fun x hx => by
 simp at hx; subst hx; exact ⟨h, g⟩

theorem Uni.length {k : Nat} : ∀ {l : List D}, Uni k l → (l.flatMap cellsOf).length = l.length * k
 | [], _ => by simp
 | d :: l, h => by
  have h1 := (h d (by simp)).1
  have h2 := Uni.length (l := l) fun x hx => h x (by simp [hx])
  simp only [List.flatMap_cons, List.length_append, List.length_cons, h1, h2, Nat.add_mul]
  omega

theorem flat_cell {k : Nat} : ∀ {l : List D}, (∀ (i : Nat) (d : D), l[i]? = some d → (cellsOf d).length = k) → ∀ (i j : Nat), j < k → (l.flatMap cellsOf)[i * k + j]? = cellAt l i j
 | [], _, i, j, _ => by simp [cellAt]
 | d :: l, h, i, j, hj => by
  have hd : (cellsOf d).length = k := h 0 d rfl
  cases i with
  | zero =>
   simp only [List.flatMap_cons, Nat.zero_mul, Nat.zero_add]
   rw [List.getElem?_append_left (by omega)]
   simp [cellAt]
  | succ i =>
   simp only [List.flatMap_cons]
   rw [List.getElem?_append_right (by rw [hd, Nat.add_mul]; omega)]
   have := flat_cell (l := l) (fun i d h' => h (i + 1) d (by simpa using h')) i j hj
   rw [show (i + 1) * k + j - (cellsOf d).length = i * k + j by rw [hd, Nat.add_mul]; omega, this]
   simp [cellAt]

theorem list_news {w : World} {H : Heap} {v : Value} {k : Nat} {xs : List D} (h : Rep w H v (.list k xs)) (hu : Uni k xs) (hk : 0 < k) (hne : xs ≠ []) :
  ∃ (a : Addr) (c : Nat) (news : List Value), v = .slice (some a) xs.length c ∧ news.length = xs.length * k ∧ (∀ (j : Nat) (u : Value), news[j]? = some u → w.cell? (a.add j) = some u) ∧ (∀ u ∈ news, u.oneCell' = true) ∧
   ∀ (j : Nat) (x : D), (xs.flatMap cellsOf)[j]? = some x → ∃ u, news[j]? = some u ∧ Rep w H u x := by
 cases h with
 | list vals hc hm h1 h2 h3 =>
  rename_i a c
  have hcell : ∀ q, q < xs.length * k → ∃ x, cellAt xs (q / k) (q % k) = some x ∧ x.isCell = true := fun q hq => by
   have h1' : q / k < xs.length := (Nat.div_lt_iff_lt_mul hk).2 hq
   have hmod : q % k < k := Nat.mod_lt _ hk
   have hd := hu xs[q / k] (List.getElem_mem _)
   have hlt : q % k < (cellsOf xs[q / k]).length := by rw [hd.1]; exact hmod
   exact ⟨(cellsOf xs[q / k])[q % k], by simp [cellAt, h1', hlt], hd.2 _ (List.getElem_mem _)⟩
  have hpos : 0 < xs.length * k := Nat.mul_pos (by cases xs with | nil => exact absurd rfl hne | cons => simp) hk
  obtain ⟨x0, hx0, _⟩ := hcell 0 hpos
  obtain ⟨b, off, ha, _, _⟩ := h2 _ _ _ hx0
  subst ha
  refine ⟨⟨b, off, none⟩, c, (List.range (xs.length * k)).map fun q => vals (q / k) (q % k), rfl, by simp, fun j u hj => ?_, fun u hu' => ?_, fun j x hx => ?_⟩
  ·simp only [List.getElem?_map, Option.map_eq_some_iff] at hj
   obtain ⟨j', hj', rfl⟩ := hj
   have hlt : j < xs.length * k := by simpa using (List.getElem?_eq_some_iff.1 hj').1
   rw [List.getElem?_range hlt] at hj'
   cases hj'
   obtain ⟨x, hx, _⟩ := hcell j hlt
   obtain ⟨b', off', ha', _, hw⟩ := h2 _ _ _ hx
   cases ha'
   rw [addr_add, ← hw]
   congr 2
   rw [Nat.add_assoc, Nat.mul_comm, Nat.div_add_mod]
  ·simp only [List.mem_map, List.mem_range] at hu'
   obtain ⟨q, hq, rfl⟩ := hu'
   obtain ⟨x, hx, hxc⟩ := hcell q hq
   exact (h3 _ _ _ hx).oneCell hxc
  ·have hlt : j < xs.length * k := by
    have := (List.getElem?_eq_some_iff.1 hx).1
    rwa [hu.length] at this
   have hjk : (j / k) * k + j % k = j := by rw [Nat.mul_comm, Nat.div_add_mod]
   have hx' : cellAt xs (j / k) (j % k) = some x := by
    rw [← flat_cell (k := k) (fun i d hd => h1 i d hd) _ _ (Nat.mod_lt _ hk), hjk]; exact hx
   exact ⟨vals (j / k) (j % k), by simp [hlt], h3 _ _ _ hx'⟩

section
variable {P : Program} {H : Heap} {e : Env} {dst : Option Tmp} {ty : TypeId} {pos : String} {af : Array Edge} {gd : Option (Nat × Bool)}

structure ZeroOf (P : Program) (t : TypeId) (k : Nat) (zd : List D) : Prop where
 is : ∃ inf z, P.info? t = some inf ∧ inf.zero = some z ∧ inf.size = k ∧ z.cells = (zd.map litV).toArray
 lit : zd.all litOk = true
 len : zd.length = k

theorem ZeroOf.reps {t : TypeId} {k : Nat} {zd : List D} (h : ZeroOf P t k zd) (w : World) (H : Heap) : RepsA w H (zd.map litV).toArray zd :=
 ⟨by simp, fun j x hx => ⟨litV x, by simp [hx], rep_lit w H (List.all_eq_true.1 h.lit x (List.mem_of_getElem? hx))⟩⟩

theorem litOk_cell {d : D} (h : litOk d = true) : d.isCell = true := by cases d <;> simp_all [litOk, D.isCell]

theorem opD_alloc {t : TypeId} {k : Nat} {zd : List D} {K : D → Heap → Prop} (hz : ZeroOf P t k zd) (hK : ∀ b, H b = none → K (.ptr b 0) (H.set b (t, zd))) : OpD P H e ⟨dst, .alloc t, ty, pos, af, gd⟩ K := .mk fun ρ w ha ho => by
 obtain ⟨inf, z, hi, hz1, hz2, hz3⟩ := hz.is
 simp [OpTo, execOp, Instr.alloc, run_zeroValue hi hz1, newVar, newRow, newObj, Sem.run]
 refine ⟨_, _, hK w.heap.size ho.fresh, .ptr _ _, ?_, Ext.allocMut w H _ _⟩
 have hr := hz.reps w H
 rw [hz3]
 exact ho.allocMut t _ zd (by simp) fun j x hx => ⟨litOk_cell (List.all_eq_true.1 hz.lit x (List.mem_of_getElem? hx)), hr.2 j x hx⟩

theorem opD_box {t : TypeId} {x : Operand} {d : D} {K : D → Heap → Prop} (hx : e.ev x = some d) (hc : ∀ y ∈ cellsOf d, y.isCell = true) (hK : ∀ b, H b = none → K (.ptr b 0) (H.set b (t, cellsOf d))) :
  OpD P H e ⟨dst, .box t x, ty, pos, af, gd⟩ K := .mk fun ρ w ha ho => by
 have hr := rep_cells (ha x d hx)
 simp [OpTo, execOp, Instr.box, newVar, newRow, newObj, Sem.run]
 refine ⟨_, _, hK w.heap.size ho.fresh, .ptr _ _, ?_, Ext.allocMut w H _ _⟩
 exact ho.allocMut t _ (cellsOf d) (by rw [hr.1]; exact Nat.le_refl _) fun j y hy => ⟨hc y (List.mem_of_getElem? hy), hr.2 j y hy⟩

theorem ext_setCells {w : World} {b : Nat} {T : TypeId} {cs cs' : Array Value} {cells cells' : List D} (ho : HOK w H) (hH : H b = some (T, cells)) (hb : w.heap[b]? = some (.cells cs T (0, 0))) (hs : cs'.size = cs.size)
  (hl : cells'.length ≤ cs'.size) (hr : ∀ (j : Nat) (x : D), cells'[j]? = some x → x.isCell = true ∧ ∃ v, cs'[j]? = some v ∧ Rep w H v x) :
  HOK (w.setRow b cs') (H.set b (T, cells')) ∧ Ext w H (w.setRow b cs') (H.set b (T, cells')) := by
 have hheap : ∀ c, c ≠ b → (w.setRow b cs').heap[c]? = w.heap[c]? := fun c hc => by
  simp only [World.setRow, Array.getElem?_modify]
  rw [if_neg (by omega)]
 have hself : (w.setRow b cs').heap[b]? = some (.cells cs' T (0, 0)) := setRow_heap w b cs cs' T (0, 0) hb
 have he : Ext w H (w.setRow b cs') (H.set b (T, cells')) := by
  refine ⟨rfl, rfl, rfl, by simp [World.setRow], .of_le (Nat.le_refl _), fun c hc hHc => ?_, fun c cs2 T2 hc => ?_⟩
  ·have hne : c ≠ b := fun x => by subst x; rw [hH] at hHc; cases hHc
   exact ⟨by simp [Heap.set, hne, hHc], hheap c hne⟩
  ·by_cases hcb : c = b
   ·subst hcb
    rw [hb] at hc
    cases hc
    exact ⟨cs', hself, hs⟩
   ·exact ⟨cs2, by rw [hheap c hcb]; exact hc, rfl⟩
 refine ⟨⟨fun c T2 cells2 hc => ?_, ho.inv.ext he⟩, he⟩
 simp only [Heap.set] at hc
 split at hc
 ·rename_i hcb
  subst hcb
  cases hc
  refine ⟨cs', hself, hl, fun j x hx => ?_⟩
  obtain ⟨h1, v, hv, hrep⟩ := hr j x hx
  exact ⟨h1, v, hv, hrep.ext he⟩
 ·rename_i hcb
  obtain ⟨cs2, h1, h2, h3⟩ := ho c T2 cells2 hc
  refine ⟨cs2, by rw [hheap c hcb]; exact h1, h2, fun j x hx => ?_⟩
  obtain ⟨h4, v, hv, hrep⟩ := h3 j x hx
  exact ⟨h4, v, hv, hrep.ext he⟩

theorem opD_store {t T0 : TypeId} {inf : TypeInfo} {x y : Operand} {b off : Nat} {d : D} {cells : List D} {K : D → Heap → Prop} (hi : P.info? t = some inf) (hs : inf.size = (cellsOf d).length) (hx : e.ev x = some (.ptr b off)) (hy : e.ev y = some d)
  (hH : H b = some (T0, cells)) (hl : off + (cellsOf d).length ≤ cells.length) (hc : ∀ z ∈ cellsOf d, z.isCell = true) (hK : K (.tup []) (H.set b (T0, setMany cells off (cellsOf d)))) :
  OpD P H e ⟨dst, .store t x y, ty, pos, af, gd⟩ K := .mk fun ρ w ha ho => by
 have hp := rep_ptr (ha x _ hx)
 have hr := rep_cells (ha y d hy)
 obtain ⟨cs, hb, hlen, hcs⟩ := ho b T0 cells hH
 have hone : ∀ v ∈ (ρ y).cells.toList, v.oneCell' = true := fun v hv => by
  obtain ⟨j, hj, rfl⟩ := List.mem_iff_getElem.1 hv
  have hj' : j < (cellsOf d).length := by rw [← hr.1]; simpa using hj
  obtain ⟨u, hu, hrep⟩ := hr.2 j (cellsOf d)[j] (by simp [hj'])
  have : (ρ y).cells.toList[j] = u := by
   have h2 : (ρ y).cells[j]? = some ((ρ y).cells.toList[j]) := by simp at hj; simp [hj]
   rw [h2] at hu
   exact Option.some.inj hu
  rw [this]
  exact hrep.oneCell (hc _ (List.getElem_mem _))
 have hfit : off + 0 + (ρ y).cells.toList.length ≤ cs.size := by
  have : (ρ y).cells.toList.length = (cellsOf d).length := by simp [hr.1]
  omega
 have hst := run_storeCells_at P b off T0 (ρ y).cells.toList 0 cs w hb hfit hone
 have hsz : ¬ (ρ y).cells.size ≠ inf.size := by rw [hr.1, hs]; exact fun h => h rfl
 simp only [Nat.add_zero] at hst
 simp [OpTo, execOp, Instr.storeAt, Instr.sureAddr, hp, storeVar, run_sizeOf hi, hr.1, hs, hst]
 refine ⟨_, _, hK, RepsA.tup (vs := #[]) (ds := []) ⟨rfl, fun j x h => by simp at h⟩, ?_⟩
 rw [← List.append_assoc]
 refine ext_setCells ho hH hb (by simp; omega) (by rw [setMany_length hl]; simp; omega) fun j z hz => ?_
 rw [setMany_get hl] at hz
 have hlv : (ρ y).cells.size = (cellsOf d).length := hr.1
 by_cases h1 : off ≤ j ∧ j < off + (cellsOf d).length
 ·rw [if_pos h1] at hz
  obtain ⟨u, hu, hrep⟩ := hr.2 _ z hz
  refine ⟨hc z (List.mem_of_getElem? hz), u, ?_, hrep⟩
  rw [List.getElem?_toArray, List.append_assoc, List.getElem?_append_right (by simp; omega), List.getElem?_append_left (by simp; omega), ← hu]
  simp
  congr 1
  omega
 ·rw [if_neg h1] at hz
  obtain ⟨h2, u, hu, hrep⟩ := hcs j z hz
  refine ⟨h2, u, ?_, hrep⟩
  rw [← hu, List.getElem?_toArray]
  by_cases h3 : j < off
  ·rw [List.append_assoc, List.getElem?_append_left (by simp; omega), List.getElem?_take, if_pos h3]
   simp
  ·rw [List.getElem?_append_right (by simp; omega), List.getElem?_drop]
   simp
   congr 1
   omega

end
end
section
open Go.RowKit

section
variable {P : Program} {H : Heap} {e : Env} {dst : Option Tmp} {ty : TypeId} {pos : String} {af : Array Edge} {gd : Option (Nat × Bool)}

theorem bytes_int {a b : Nat} (h : a * b ≤ 281474976710656) : (a : Int) * (b : Int) ≤ 281474976710656 := by
 rw [← Int.natCast_mul]
 omega

theorem made_reps {t : TypeId} {k : Nat} {zd : List D} (hz : ZeroOf P t k zd) (hk : 0 < k) (w : World) (H : Heap) (n m : Nat) (hnm : n ≤ m) :
  ∀ (j : Nat) (x : D), ((List.replicate n zd).flatten)[j]? = some x → litOk x = true ∧ ∃ v, (madeCells (zd.map litV).toArray (m * k))[j]? = some v ∧ Rep w H v x := by
 intro j x hx
 have hlen : ((List.replicate n zd).flatten).length = n * k := by simp [hz.len]
 have hj : j < n * k := by rw [← hlen]; exact (List.getElem?_eq_some_iff.1 hx).1
 have hmod : j % k < zd.length := by rw [hz.len]; exact Nat.mod_lt _ hk
 have hx' : zd[j % k]? = some x := by
  rw [← hx]
  have : ∀ (n j : Nat), j < n * k → ((List.replicate n zd).flatten)[j]? = zd[j % k]? := by
   intro n
   induction n with
   | zero => intro j hj; omega
   | succ n ih =>
    intro j hj
    rw [List.replicate_succ, List.flatten_cons]
    by_cases h : j < k
    ·rw [List.getElem?_append_left (by rw [hz.len]; exact h), Nat.mod_eq_of_lt h]
    ·rw [List.getElem?_append_right (by rw [hz.len]; omega), hz.len, ih (j - k) (by rw [Nat.add_mul] at hj; omega)]
     congr 1
     rw [← Nat.mod_eq_sub_mod (by omega)]
  exact (this n j hj).symm
 have hmk : j < m * k := Nat.lt_of_lt_of_le hj (Nat.mul_le_mul_right k hnm)
 refine ⟨List.all_eq_true.1 hz.lit x (List.mem_of_getElem? hx'), litV x, ?_, rep_lit w H (List.all_eq_true.1 hz.lit x (List.mem_of_getElem? hx'))⟩
 simp only [madeCells]
 rw [Array.getElem?_map, Array.getElem?_range]
 rw [if_pos hmk]
 simp only [Option.map_some]
 congr 1
 have hsz : ((zd.map litV).toArray).size = k := by simp [hz.len]
 rw [hsz]
 have : ((zd.map litV).toArray)[j % k]? = some (litV x) := by simp [hx']
 rw [getElem!_def, this]

theorem opD_make {t E : TypeId} {x y : Operand} {k n c : Nat} {zd : List D} {K : D → Heap → Prop} (hu : P.underlying t = some (.slice E)) (hz : ZeroOf P E k zd) (hk : 0 < k) (hx : e.ev x = some (I n)) (hy : e.ev y = some (I c)) (hnc : n ≤ c)
  (hbytes : ∀ inf, P.info? E = some inf → inf.bytes * c ≤ 281474976710656) (hc : c ≤ 4611686018427387904) (hK : ∀ b, H b = none → K (.ref b 0 n k) (H.set b (E, (List.replicate n zd).flatten))) :
  OpD P H e ⟨dst, .makeSlice t x y, ty, pos, af, gd⟩ K := .mk fun ρ w ha ho => by
 have h1 := rep_int (ha x _ hx)
 have h2 := rep_int (ha y _ hy)
 obtain ⟨inf, z, hi, hz1, hz2, hz3⟩ := hz.is
 have hb := hbytes inf hi
 have hr := run_make (P := P) w t E inf z hu hi hz1 .i64 .i64 (n : Int) (c : Int) (by omega) (by omega) (bytes_int hb) (by omega)
 have hrun : (execOp ρ ⟨dst, .makeSlice t x y, ty, pos, af, gd⟩).run P w = .ok (.value (.slice (some ⟨w.heap.size, 0, none⟩) n c)) (w.alloc (.cells (madeCells z.cells (c * inf.size)) E)) := by
  simp only [execOp, h1, h2, Sem.run_bind, hr, Result.andThen_ok, Sem.run_pure, Int.toNat_natCast]
 simp only [OpTo, hrun]
 have hm := made_reps hz hk w H n c hnc
 refine ⟨_, _, hK w.heap.size ho.fresh, ?_, ?_, Ext.allocMut w H _ _⟩
 ·refine .ref (heap_alloc_new w _) ?_ hnc (by unfold maxLen; omega)
  rw [size_madeCells, hz2]; omega
 ·rw [hz3, hz2]
  refine ho.allocMut E _ _ ?_ fun j x hx => ⟨litOk_cell (hm j x hx).1, (hm j x hx).2⟩
  rw [size_madeCells]
  simp only [List.length_flatten, List.map_replicate, List.sum_replicate_nat, hz.len]
  exact Nat.mul_le_mul_right k hnc

theorem sta_make {t E : TypeId} {x y : Operand} {k n : Nat} {zd : List D} {el : D} (hu : P.underlying t = some (.slice E)) (hz : ZeroOf P E k zd) (hk : 0 < k) (hel : cellsOf el = zd) (hx : e.ev x = some (I n)) (hy : e.ev y = some (I n))
  (hbytes : ∀ inf, P.info? E = some inf → inf.bytes * n ≤ 281474976710656) (hc : n ≤ 4611686018427387904) :
  Sta P H e ⟨dst, .makeSlice t x y, ty, pos, af, gd⟩ (.list k (List.replicate n el)) := .mk fun ρ w ha ho => by
 have h1 := rep_int (ha x _ hx)
 have h2 := rep_int (ha y _ hy)
 obtain ⟨inf, z, hi, hz1, hz2, hz3⟩ := hz.is
 have hb := hbytes inf hi
 have hr := run_make (P := P) w t E inf z hu hi hz1 .i64 .i64 (n : Int) (n : Int) (by omega) (by omega) (bytes_int hb) (by omega)
 have hrun : (execOp ρ ⟨dst, .makeSlice t x y, ty, pos, af, gd⟩).run P w = .ok (.value (.slice (some ⟨w.heap.size, 0, none⟩) n n)) (w.alloc (.cells (madeCells z.cells (n * inf.size)) E)) := by
  simp only [execOp, h1, h2, Sem.run_bind, hr, Result.andThen_ok, Sem.run_pure, Int.toNat_natCast]
 simp only [OpTo, hrun]
 have hm := made_reps hz hk w H n n (Nat.le_refl _)
 have hflat : (List.replicate n el).flatMap cellsOf = (List.replicate n zd).flatten := by
  rw [List.flatMap_def, List.map_replicate, hel]
 refine ⟨?_, ho.alloc _, Ext.alloc w H _⟩
 have := rep_row (w := w.alloc (.cells (madeCells z.cells (n * inf.size)) E)) (H := H) (l := List.replicate n el) (k := k) (cap := n) (heap_alloc_new w _) ho.fresh (fun i d hd => by
   have := List.mem_of_getElem? hd
   rw [List.mem_replicate] at this
   rw [this.2, hel, hz.len]) (fun j x hx => by
   rw [hflat] at hx
   obtain ⟨_, v, hv, hrep⟩ := hm j x hx
   exact ⟨v, by rw [hz3, hz2]; exact hv, hrep.ext (Ext.alloc w H _)⟩) (by simp) (by unfold maxLen; omega)
 simpa using this

theorem sta_buildSlice {t E : TypeId} {n k : Nat} {parts : Array (Nat × Operand)} {zd : List D} {pd : List (Nat × D)} {ds : List D} (hu : P.underlying t = some (.slice E)) (hz : ZeroOf P E k zd) (hk : 0 < k) (hn : n * k ≤ 16777216) (hn0 : 0 < n)
  (hp : evParts e parts.toList = some pd) (hds : ds.length = n) (huni : ∀ d ∈ ds, (cellsOf d).length = k) (hf : fillD (fun i => some (i * k, k)) (List.replicate n zd).flatten pd = some (ds.flatMap cellsOf)) :
  Sta P H e ⟨dst, .buildSlice t n parts, ty, pos, af, gd⟩ (.list k ds) := .mk fun ρ w ha ho => by
 obtain ⟨inf, z, hi, hz1, hz2, hz3⟩ := hz.is
 have hm := made_reps hz hk w H n n (Nat.le_refl _)
 have hbase : RepsA w H (madeCells z.cells (n * inf.size)) (List.replicate n zd).flatten := by
  refine ⟨by rw [size_madeCells, hz2]; simp [hz.len], fun j x hx => ?_⟩
  rw [hz3, hz2]
  exact (hm j x hx).2
 obtain ⟨vs, hfill, hr⟩ := fill_rep (w := w) (H := H) (fun i => some (i * k, k)) (parts_of ha parts.toList pd hp) _ _ _ hbase hf
 have hrun : (Instr.buildSlice t n (parts.map fun x => (x.1, ρ x.2))).run P w = .ok (.slice (some ⟨w.heap.size, 0, none⟩) n n) (w.alloc (.cells vs E)) := by
  have hnot : ¬ (n * inf.size > 2 ^ 24) := by rw [hz2]; omega
  have hpos : ¬ n * inf.size = 0 := by
   rw [hz2]
   have := Nat.mul_pos hn0 hk
   omega
  refine run_buildSlice w t E n _ vs inf z hu hi hz1 hnot hpos ?_
  rw [← hfill, ← hz2]
  simp [madeCells]
 simp only [OpTo, execOp, Sem.run_bind]
 simp only [hrun, Result.andThen_ok, Sem.run_pure]
 refine ⟨?_, ho.alloc _, Ext.alloc w H _⟩
 have hnm : n ≤ 16777216 := Nat.le_trans (Nat.le_mul_of_pos_right n hk) hn
 have := rep_row (w := w.alloc (.cells vs E)) (H := H) (l := ds) (k := k) (cap := n) (heap_alloc_new w _) ho.fresh (fun i d hd => huni d (List.mem_of_getElem? hd)) (fun j x hx => by
   obtain ⟨v, hv, hrep⟩ := hr.2 j x hx
   exact ⟨v, hv, hrep.ext (Ext.alloc w H _)⟩) (by omega) (by unfold maxLen; omega)
 rw [hds] at this
 exact this

theorem sta_buildEmpty {t E : TypeId} {k : Nat} {zd : List D} (hu : P.underlying t = some (.slice E)) (hz : ZeroOf P E k zd) : Sta P H e ⟨dst, .buildSlice t 0 #[], ty, pos, af, gd⟩ .nil := .mk fun ρ w ha ho => by
 obtain ⟨inf, z, hi, hz1, hz2, hz3⟩ := hz.is
 have hrun : (Instr.buildSlice t 0 #[]).run P w = .ok (.slice (some ⟨w.heap.size, 0, none⟩) 0 0) (w.alloc (.cells #[] E)) := by
  simp [Instr.buildSlice, run_underlying hu, run_sizeOf hi, Instr.fill, newRow, newObj, Sem.run, Array.range_zero']
 simp only [OpTo, execOp, Sem.run_bind]
 simp [hrun]
 exact ⟨.nil _, ho.alloc _, Ext.alloc w H _⟩

end
end
section
open Go.RowKit

def D.blk : D → Option Nat
 | .ref b _ _ _ => some b
 | _ => none

structure Acc (H0 H : Heap) (d : D) (k : Nat) (T : TypeId) (l : List D) : Prop where
 uni : Uni k l
 is : (d = .nil ∧ l = []) ∨ ∃ b, H0 b = none ∧ d = .ref b 0 l.length k ∧ H b = some (T, l.flatMap cellsOf)

def Over (H0 H : Heap) : Prop := ∀ b x, H0 b = some x → H b = some x

theorem Over.refl (H : Heap) : Over H H := fun _ _ h => h
theorem Over.set {H0 H : Heap} (h : Over H0 H) {b : Nat} {x : TypeId × List D} (hb : H0 b = none) : Over H0 (H.set b x) := fun c y hc => by
 have hne : c ≠ b := fun e => by subst e; rw [hb] at hc; cases hc
 simp [Heap.set, hne, h c y hc]
theorem Over.del {H0 H : Heap} (h : Over H0 H) {b : Nat} (hb : H0 b = none) : Over H0 (H.del b) := fun c y hc => by
 have hne : c ≠ b := fun e => by subst e; rw [hb] at hc; cases hc
 simp [Heap.del, hne, h c y hc]
theorem Over.none {H0 H : Heap} (h : Over H0 H) {b : Nat} (hb : H b = none) : H0 b = none := by
 cases hx : H0 b with
 | none => rfl
 | some x => rw [h b x hx] at hb; cases hb

theorem Acc.nil (H0 H : Heap) (k : Nat) (T : TypeId) : Acc H0 H .nil k T [] := ⟨Uni.nil k, .inl ⟨rfl, rfl⟩⟩

section
variable {P : Program} {H : Heap} {e : Env} {dst : Option Tmp} {ty : TypeId} {pos : String} {af : Array Edge} {gd : Option (Nat × Bool)}

def Grn (w w' : World) : Prop := w.grownBy w' none ∧ Tick w w'

inductive Appended (P : Program) (w : World) (H : Heap) (v : Value) (d : D) (k : Nat) (E : TypeId) (l xs : List D) : Value → World → Prop
 | same (hx : xs = []) : Appended P w H v d k E l xs v w
 | room {b cap : Nat} {cs cs' : Array Value} (hd : d = .ref b 0 l.length k) (hv : v = .slice (some ⟨b, 0, none⟩) l.length cap) (hb : w.heap[b]? = some (.cells cs E (0, 0))) (hs : cs.size = cap * k) (hm : cap ≤ maxLen)
   (hl : l.length + xs.length ≤ cap) (hs' : cs'.size = cs.size)
   (hr : ∀ (j : Nat) (x : D), ((l ++ xs).flatMap cellsOf)[j]? = some x → x.isCell = true ∧ ∃ u, cs'[j]? = some u ∧ Rep w H u x) :
   Appended P w H v d k E l xs (.slice (some ⟨b, 0, none⟩) (l.length + xs.length) cap) (w.setRow b cs')
 | grown {g cap : Nat} {w' : World} {cur : Array Value} (hg : w.heap.size ≤ g) (hw : Grn w w') (hb : w'.heap[g]? = some (.cells cur E (0, 0))) (hs : cur.size = cap * k) (hm : cap ≤ maxLen) (hl : l.length + xs.length ≤ cap)
   (hr : ∀ (j : Nat) (x : D), ((l ++ xs).flatMap cellsOf)[j]? = some x → x.isCell = true ∧ ∃ u, cur[j]? = some u ∧ Rep w H u x) :
   Appended P w H v d k E l xs (.slice (some ⟨g, 0, none⟩) (l.length + xs.length) cap) w'

def BaseIs (H : Heap) (d : D) (k : Nat) (E : TypeId) (l : List D) : Prop := (d = .nil ∧ l = []) ∨ ∃ b, d = .ref b 0 l.length k ∧ H b = some (E, l.flatMap cellsOf)

theorem reps_flat_append {w : World} {k : Nat} {l xs : List D} {olds news : List Value} (hl : Uni k l) (hx : Uni k xs) (ho : olds.length = l.length * k)
  (h1 : ∀ (j : Nat) (x : D), (l.flatMap cellsOf)[j]? = some x → ∃ u, olds[j]? = some u ∧ Rep w H u x) (h2 : ∀ (j : Nat) (x : D), (xs.flatMap cellsOf)[j]? = some x → ∃ u, news[j]? = some u ∧ Rep w H u x) :
  ∀ (j : Nat) (x : D), ((l ++ xs).flatMap cellsOf)[j]? = some x → x.isCell = true ∧ ∃ u, (olds ++ news)[j]? = some u ∧ Rep w H u x := by
 intro j x hj
 refine ⟨?_, ?_⟩
 ·have := List.mem_of_getElem? hj
  rw [List.mem_flatMap] at this
  obtain ⟨d, hd, hxd⟩ := this
  exact ((hl.append hx) d hd).2 x hxd
 ·rw [List.flatMap_append] at hj
  by_cases h : j < l.length * k
  ·rw [List.getElem?_append_left (by rw [hl.length]; exact h)] at hj
   obtain ⟨u, hu, hr⟩ := h1 j x hj
   exact ⟨u, by rw [List.getElem?_append_left (by omega)]; exact hu, hr⟩
  ·rw [List.getElem?_append_right (by rw [hl.length]; omega), hl.length] at hj
   obtain ⟨u, hu, hr⟩ := h2 _ x hj
   exact ⟨u, by rw [List.getElem?_append_right (by omega), ho]; exact hu, hr⟩

theorem run_append {t E : TypeId} {k : Nat} {zd : List D} {w : World} {v v1 : Value} {d dy : D} {l xs : List D} (hu : P.underlying t = some (.slice E)) (hz : ZeroOf P E k zd) (hk : 0 < k) (ho : HOK w H) (hbase : BaseIs H d k E l) (hl : Uni k l) (hv : Rep w H v d)
  (hv1 : Rep w H v1 dy) (hsrc : dy = .list k xs ∨ (dy = .nil ∧ xs = [])) (hxs : Uni k xs) (hbytes : ∀ inf, P.info? E = some inf → (l.length + xs.length) * inf.bytes ≤ 140737488355328) (hlen : l.length + xs.length ≤ 4611686018427387904) :
  ∃ v' w', (Builtin.append_ #[t, t] ty #[v, v1]).run P w = .ok v' w' ∧ Appended P w H v d k E l xs v' w' := by
 obtain ⟨inf, z, hi, hz1, hz2, hz3⟩ := hz.is
 have hzs : z.cells.size = k := by rw [hz3]; simp [hz.len]
 have hb := hbytes inf hi
 have h63 : l.length + xs.length ≤ maxLen := by unfold maxLen; omega
 by_cases hne : xs = []
 ·subst hne
  obtain ⟨a, c, rfl⟩ : ∃ a c, v1 = .slice a 0 c := by
   rcases hsrc with rfl | ⟨rfl, _⟩
   ·cases hv1 with
    | list vals hc hm h1 h2 h3 => exact ⟨_, _, rfl⟩
   ·cases hv1 with
    | nil a => exact ⟨_, _, rfl⟩
  obtain ⟨b, n, cap, rfl, hnc⟩ : ∃ b n cap, v = .slice b n cap ∧ n ≤ cap := by
   rcases hbase with ⟨rfl, _⟩ | ⟨b, rfl, _⟩
   ·cases hv with
    | nil a => exact ⟨_, _, _, rfl, Nat.le_refl _⟩
   ·cases hv with
    | ref hb hs hl' hm => exact ⟨_, _, _, rfl, hl'⟩
  refine ⟨_, _, ?_, .same rfl⟩
  cases a <;> cases b <;> simp [Builtin.append_, run_underlying hu, run_sizeOf hi, Builtin.lenOf, hnc, Builtin.firstCells, loadCells, loadCellsFrom, storeCells]
 ·have hlist : dy = .list k xs := by
   rcases hsrc with h | ⟨_, h⟩
   ·exact h
   ·exact absurd h hne
  subst hlist
  obtain ⟨a, c, news, rfl, hnl, hnw, hn1, hnr⟩ := list_news hv1 hxs hk hne
  have hm0 : 0 < xs.length := by cases xs with | nil => exact absurd rfl hne | cons => simp
  rcases hbase with ⟨rfl, rfl⟩ | ⟨b, rfl, hH⟩
  ·have hflat := reps_flat_append (w := w) (H := H) (l := []) (xs := xs) (olds := []) (news := news) hl hxs (by simp) (fun j x h => by simp at h) hnr
   cases hv with
   | nil ao =>
    simp only [List.length_nil, Nat.zero_add] at hb h63
    have fin : ∀ v' w', w'.ownsRow w.heap.size E k v' (0 + xs.length) ([] ++ news) → Grn w w' → v' ≠ .slice none 0 0 → Appended P w H (.slice ao 0 0) .nil k E [] xs v' w' := by
     intro v' w' hown hgr hne'
     rcases hown.2 with ⟨h, _⟩ | ⟨g, cap, cur, rfl, hg, hgb, hle, hcm, hcs, htake⟩
     ·exact absurd h hne'
     ·refine .grown (w := w) (H := H) (l := []) (xs := xs) hg hgr hgb hcs hcm (by simpa using hle) fun j x hx => ?_
      obtain ⟨h1, u, hu', hr⟩ := hflat j x hx
      refine ⟨h1, u, ?_, hr⟩
      rw [← htake] at hu'
      rw [List.getElem?_take] at hu'
      split at hu'
      ·simpa using hu'
      ·cases hu'
    cases ao with
    | none =>
     obtain ⟨v', w', hrun, hown, hgr, hiff⟩ := run_append_own (P := P) w w.heap.size t ty E inf z k inf.bytes hu hi hz1 hz2 rfl hzs hk (.slice none 0 0) 0 [] (World.ownsRow_nil w _ _ _) a xs.length c news (by simpa using hnl) hnw hn1 (by simpa using h63) (by simpa using hb) (Nat.le_refl _)
     exact ⟨v', w', hrun, fin v' w' hown ⟨hgr, .run hrun⟩ fun h => by have := hiff.1 h; omega⟩
    | some ao =>
     obtain ⟨v', w', hrun, hown, hgr⟩ := run_append_arg_grows (P := P) w t ty E inf z k inf.bytes hu hi hz1 hz2 rfl hzs hk ao 0 0 [] (by simp) (fun j u h => by simp at h) a xs.length c news (by simpa using hnl) hnw (by omega) (by simpa using h63) (by simpa using hb)
     refine ⟨v', w', hrun, fin v' w' hown ⟨hgr, .run hrun⟩ fun h => ?_⟩
     subst h
     rcases hown.2 with ⟨_, h⟩ | ⟨g, cap, cur, h, _⟩
     ·omega
     ·cases h
  ·obtain ⟨cs, hcb, hcl, hcr⟩ := ho b E _ hH
   cases hv with
   | ref hb' hs hl' hm =>
    rename_i cap cs0 T0
    rw [hcb] at hb'
    cases hb'
    simp only [Nat.zero_add] at hs
    have hfl : (l.flatMap cellsOf).length = l.length * k := hl.length
    have holds : ∀ (j : Nat) (x : D), (l.flatMap cellsOf)[j]? = some x → ∃ u, (cs.toList.take (l.length * k))[j]? = some u ∧ Rep w H u x := fun j x hx => by
     obtain ⟨_, u, hu', hr⟩ := hcr j x hx
     have hj : j < l.length * k := by rw [← hfl]; exact (List.getElem?_eq_some_iff.1 hx).1
     exact ⟨u, by rw [List.getElem?_take, if_pos hj]; simpa using hu', hr⟩
    have htl : (cs.toList.take (l.length * k)).length = l.length * k := by
     rw [List.length_take]; simp; omega
    have hflat := reps_flat_append (w := w) (H := H) (l := l) (xs := xs) (olds := cs.toList.take (l.length * k)) (news := news) hl hxs htl holds hnr
    by_cases hroom : l.length + xs.length ≤ cap
    ·have hfit : l.length * inf.size + news.length ≤ cs.size := by
      rw [hz2, hnl, ← hs, ← Nat.add_mul]
      exact Nat.mul_le_mul_right k hroom
     have hrun := run_append_room (P := P) w t ty E inf hu hi b l.length cap cs hcb a xs.length c news (by rw [hz2]; exact hnl) hnw hn1 hroom hfit
     refine ⟨_, _, hrun, .room rfl rfl hcb hs.symm hm hroom ?_ fun j x hx => ?_⟩
     ·rw [hz2] at hfit ⊢
      simp
      omega
     ·obtain ⟨h1, u, hu', hr⟩ := hflat j x hx
      refine ⟨h1, u, ?_, hr⟩
      rw [hz2, List.getElem?_toArray, List.getElem?_append_left (List.getElem?_eq_some_iff.1 hu').1]
      exact hu'
    ·obtain ⟨v', w', hrun, hown, hgr⟩ := run_append_arg_grows (P := P) w t ty E inf z k inf.bytes hu hi hz1 hz2 rfl hzs hk ⟨b, 0, none⟩ l.length cap (cs.toList.take (l.length * k)) htl (fun j u hj => by
      rw [addr_add, Nat.zero_add, cell_of_row w b j cs E (0, 0) hcb]
      rw [List.getElem?_take] at hj
      split at hj
      ·simpa using hj
      ·cases hj) a xs.length c news hnl hnw (by omega) h63 hb
     refine ⟨v', w', hrun, ?_⟩
     rcases hown.2 with ⟨_, h⟩ | ⟨g, cap', cur, rfl, hg, hgb, hle, hcm, hcs, htake⟩
     ·omega
     ·refine .grown hg ⟨hgr, .run hrun⟩ hgb hcs hcm hle fun j x hx => ?_
      obtain ⟨h1, u, hu', hr⟩ := hflat j x hx
      refine ⟨h1, u, ?_, hr⟩
      rw [← htake] at hu'
      rw [List.getElem?_take] at hu'
      split at hu'
      ·simpa using hu'
      ·cases hu'

end
end
section
open Go.RowKit

theorem Ext.grownBy {w w' : World} (H : Heap) (h : Grn w w') : Ext w H w' H :=
 ⟨h.1.os, h.1.tape, h.1.output, h.1.size, h.2, fun b hb hH => ⟨hH, h.1.block b hb (by simp)⟩, fun b cs T hc => ⟨cs, by rw [h.1.block b (lt_of_block hc) (by simp)]; exact hc, rfl⟩⟩

theorem HOK.grownBy {w w' : World} {H : Heap} (ho : HOK w H) (h : Grn w w') : HOK w' H :=
 ho.ext (Ext.grownBy H h) fun b x hb => h.1.block b (ho.lt hb) (by simp)

theorem HOK.adopt {w w' : World} {H : Heap} (ho : HOK w H) (h : Grn w w') {g : Nat} (hg : w.heap.size ≤ g) {E : TypeId} {cur : Array Value} {cells : List D} (hb : w'.heap[g]? = some (.cells cur E (0, 0))) (hl : cells.length ≤ cur.size)
  (hr : ∀ (j : Nat) (x : D), cells[j]? = some x → x.isCell = true ∧ ∃ u, cur[j]? = some u ∧ Rep w H u x) : HOK w' (H.set g (E, cells)) ∧ Ext w H w' (H.set g (E, cells)) := by
 have he : Ext w H w' (H.set g (E, cells)) := by
  refine ⟨h.1.os, h.1.tape, h.1.output, h.1.size, h.2, fun b hb' hH => ⟨?_, h.1.block b hb' (by simp)⟩, (Ext.grownBy H h).shape⟩
  simp only [Heap.set]
  rw [if_neg (by omega)]
  exact hH
 refine ⟨⟨fun b T cells2 hc => ?_, ho.inv.ext he⟩, he⟩
 simp only [Heap.set] at hc
 split at hc
 ·rename_i hbg
  subst hbg
  cases hc
  exact ⟨cur, hb, hl, fun j x hx => let ⟨h1, u, hu, hrep⟩ := hr j x hx; ⟨h1, u, hu, hrep.ext he⟩⟩
 ·obtain ⟨cs, h1, h2, h3⟩ := ho b T cells2 hc
  exact ⟨cs, by rw [h.1.block b (ho.lt hc) (by simp)]; exact h1, h2, fun j x hx => let ⟨h4, u, hu, hrep⟩ := h3 j x hx; ⟨h4, u, hu, hrep.ext he⟩⟩

theorem Acc.base {H0 H : Heap} {d : D} {k : Nat} {T : TypeId} {l : List D} (h : Acc H0 H d k T l) : BaseIs H d k T l := by
 rcases h.is with h | ⟨b, _, h1, h2⟩
 ·exact .inl h
 ·exact .inr ⟨b, h1, h2⟩

inductive Frz (H H' : Heap) : D → D → Prop
 | same (d : D) : Frz H H' d d
 | nil (k : Nat) : Frz H H' .nil (.list k [])
 | ref {b k : Nat} {l : List D} {T : TypeId} {cells : List D} (hH : H b = some (T, cells)) (hn : H' b = none) (h1 : ∀ (i : Nat) (d : D), l[i]? = some d → (cellsOf d).length = k)
   (hl : (l.flatMap cellsOf).length = cells.length) (h : ∀ (j : Nat) (x y : D), cells[j]? = some x → (l.flatMap cellsOf)[j]? = some y → Frz H H' x y) : Frz H H' (.ref b 0 l.length k) (.list k l)
 | agg {l l' : List D} (hl : l'.length = l.length) (h : ∀ (j : Nat) (x y : D), l[j]? = some x → l'[j]? = some y → Frz H H' x y) : Frz H H' (.agg l) (.agg l')
 | tup {l l' : List D} (hl : l'.length = l.length) (h : ∀ (j : Nat) (x y : D), l[j]? = some x → l'[j]? = some y → Frz H H' x y) : Frz H H' (.tup l) (.tup l')

theorem Rep.frz {w : World} {H H' : Heap} (ho : HOK w H) (hs : H'.sub H) {d d' : D} (hf : Frz H H' d d') : ∀ {v : Value}, Rep w H v d → Rep w H' v d' := by
 induction hf with
 | same d => exact fun hv => hv.kept (.sub hs)
 | nil k => exact fun hv => (hv.kept (.sub hs)).nil_list k
 | @ref b k l T cells hH hn h1 hl h ih =>
  intro v hv
  cases hv with
  | ref hb hsz hle hm =>
   obtain ⟨cs, hcb, hcl, hcr⟩ := ho _ _ _ hH
   refine rep_row hcb hn h1 (fun j y hy => ?_) hle hm
   have hj : j < cells.length := by rw [← hl]; exact (List.getElem?_eq_some_iff.1 hy).1
   have hx : cells[j]? = some cells[j] := by simp [hj]
   obtain ⟨_, u, hu, hrep⟩ := hcr j _ hx
   exact ⟨u, hu, ih j _ y hx hy hrep⟩
 | agg hl h ih =>
  intro v hv
  obtain ⟨vs, rfl, hr⟩ := rep_agg hv
  refine RepsA.agg ⟨by rw [hr.1, hl], fun j y hy => ?_⟩
  rename_i l l'
  have hj : j < l.length := by rw [← hl]; exact (List.getElem?_eq_some_iff.1 hy).1
  have hx : l[j]? = some l[j] := by simp [hj]
  obtain ⟨u, hu, hrep⟩ := hr.2 j _ hx
  exact ⟨u, hu, ih j _ y hx hy hrep⟩
 | tup hl h ih =>
  intro v hv
  obtain ⟨vs, rfl, hr⟩ := rep_tup hv
  refine RepsA.tup ⟨by rw [hr.1, hl], fun j y hy => ?_⟩
  rename_i l l'
  have hj : j < l.length := by rw [← hl]; exact (List.getElem?_eq_some_iff.1 hy).1
  have hx : l[j]? = some l[j] := by simp [hj]
  obtain ⟨u, hu, hrep⟩ := hr.2 j _ hx
  exact ⟨u, hu, ih j _ y hx hy hrep⟩

theorem Frz.list {H H' : Heap} {b k n : Nat} {l : List D} {T : TypeId} (hH : H b = some (T, l.flatMap cellsOf)) (hn : H' b = none) (hu : Uni k l) (hl : n = l.length) : Frz H H' (.ref b 0 n k) (.list k l) := by
 subst hl
 refine .ref hH hn (fun i d hd => (hu d (List.mem_of_getElem? hd)).1) rfl fun j x y hx hy => ?_
 rw [hx] at hy
 cases hy
 exact .same x

theorem Acc.frz {H0 H H' : Heap} {d : D} {k : Nat} {T : TypeId} {l : List D} (h : Acc H0 H d k T l) (hn : ∀ b, d.blk = some b → H' b = none) : Frz H H' d (.list k l) := by
 rcases h.is with ⟨rfl, rfl⟩ | ⟨b, _, rfl, h2⟩
 ·exact .nil k
 ·exact Frz.list h2 (hn b rfl) h.uni rfl

section
variable {P : Program} {H : Heap} {e : Env} {dst : Option Tmp} {ty : TypeId} {pos : String} {af : Array Edge} {gd : Option (Nat × Bool)}

theorem run_exec_append {ρ : Operand → Value} {w : World} {x y : Operand} {t : TypeId} {v' : Value} {w' : World} (h : (Builtin.append_ #[t, t] ty #[ρ x, ρ y]).run P w = .ok v' w') :
  (execOp ρ ⟨dst, .call ⟨.builtin .append, #[x, y], #[t, t]⟩, ty, pos, af, gd⟩).run P w = .ok (.value v') w' := by
 have : execOp ρ ⟨dst, .call ⟨.builtin .append, #[x, y], #[t, t]⟩, ty, pos, af, gd⟩ = (do pure (.value (← Builtin.append_ #[t, t] ty #[ρ x, ρ y]))) := by
  simp only [BigFrame.execOp_builtin, BigFrame.builtin_append, List.map_toArray, List.map_cons, List.map_nil]
 rw [this, Sem.run_bind, h]
 rfl

theorem opD_append {H0 : Heap} {t E : TypeId} {x y : Operand} {k : Nat} {zd : List D} {d dy : D} {l xs : List D} {K : D → Heap → Prop} (hu : P.underlying t = some (.slice E)) (hz : ZeroOf P E k zd) (hk : 0 < k) (hx : e.ev x = some d) (hacc : Acc H0 H d k E l) (hover : Over H0 H)
  (hy : e.ev y = some dy) (hsrc : dy = .list k xs ∨ (dy = .nil ∧ xs = [])) (hxs : Uni k xs) (hbytes : ∀ inf, P.info? E = some inf → (l.length + xs.length) * inf.bytes ≤ 140737488355328) (hlen : l.length + xs.length ≤ 4611686018427387904)
  (hK : ∀ d' H', Acc H0 H' d' k E (l ++ xs) → Over H0 H' → (∀ c z, H c = some z → d.blk ≠ some c → H' c = some z) → K d' H') :
  OpD P H e ⟨dst, .call ⟨.builtin .append, #[x, y], #[t, t]⟩, ty, pos, af, gd⟩ K := .mk fun ρ w ha ho => by
 obtain ⟨v', w', hrun, happ⟩ := run_append (P := P) (ty := ty) hu hz hk ho hacc.base hacc.uni (ha x d hx) (ha y dy hy) hsrc hxs hbytes hlen
 simp only [OpTo, run_exec_append hrun]
 have huni := hacc.uni.append hxs
 cases happ with
 | same h =>
  subst h
  refine ⟨d, H, hK d H (by rw [List.append_nil]; exact hacc) hover fun c z hc _ => hc, ha x d hx, ho, .refl _ _⟩
 | room hd hv hb hs hm hl hs' hr =>
  rename_i b cap cs cs'
  subst hd
  obtain ⟨hb0, hHb⟩ : H0 b = none ∧ H b = some (E, l.flatMap cellsOf) := by
   rcases hacc.is with ⟨h, _⟩ | ⟨b', h1, h2, h3⟩
   ·cases h
   ·cases h2; exact ⟨h1, h3⟩
  have hfl : ((l ++ xs).flatMap cellsOf).length ≤ cs'.size := by
   rw [huni.length, List.length_append, hs', hs]
   exact Nat.mul_le_mul_right k hl
  obtain ⟨ho', he'⟩ := ext_setCells ho hHb hb hs' hfl hr
  refine ⟨.ref b 0 (l.length + xs.length) k, _, hK _ _ ⟨huni, .inr ⟨b, hb0, by rw [List.length_append], by simp [Heap.set]⟩⟩ (hover.set hb0) fun c z hc hne => ?_, ?_, ho', he'⟩
  ·have : c ≠ b := fun h => hne (by simp [D.blk, h])
   simp [Heap.set, this, hc]
  ·exact .ref (setRow_heap w b cs cs' E (0, 0) hb) (by rw [hs', hs]; omega) hl hm
 | grown hg hw hb hs hm hl hr =>
  rename_i g cap cur
  have hfl : ((l ++ xs).flatMap cellsOf).length ≤ cur.size := by
   rw [huni.length, List.length_append, hs]
   exact Nat.mul_le_mul_right k hl
  obtain ⟨ho', he'⟩ := ho.adopt hw hg hb hfl hr
  have hHg : H g = none := by
   cases hx : H g with
   | none => rfl
   | some x => have := ho.lt hx; omega
  refine ⟨.ref g 0 (l.length + xs.length) k, _, hK _ _ ⟨huni, .inr ⟨g, hover.none hHg, by rw [List.length_append], by simp [Heap.set]⟩⟩ (hover.set (hover.none hHg)) fun c z hc hne => ?_, ?_, ho', he'⟩
  ·have : c ≠ g := fun h => by subst h; rw [hHg] at hc; cases hc
   simp [Heap.set, this, hc]
  ·exact .ref hb (by rw [hs]; omega) hl hm

theorem sta_append_nil {t E : TypeId} {x y : Operand} {k : Nat} {zd : List D} {dy : D} {xs : List D} (hu : P.underlying t = some (.slice E)) (hz : ZeroOf P E k zd) (hk : 0 < k) (hx : e.ev x = some .nil) (hy : e.ev y = some dy)
  (hsrc : dy = .list k xs ∨ (dy = .nil ∧ xs = [])) (hxs : Uni k xs) (hbytes : ∀ inf, P.info? E = some inf → xs.length * inf.bytes ≤ 140737488355328) (hlen : xs.length ≤ 4611686018427387904) :
  Sta P H e ⟨dst, .call ⟨.builtin .append, #[x, y], #[t, t]⟩, ty, pos, af, gd⟩ (.list k xs) := .mk fun ρ w ha ho => by
 obtain ⟨v', w', hrun, happ⟩ := run_append (P := P) (ty := ty) (l := []) hu hz hk ho (.inl ⟨rfl, rfl⟩) (Uni.nil k) (ha x _ hx) (ha y dy hy) hsrc hxs (by simpa using hbytes) (by simpa using hlen)
 simp only [OpTo, run_exec_append hrun]
 cases happ with
 | same h => subst h; exact ⟨(ha x _ hx).nil_list k, ho, .refl _ _⟩
 | room hd => cases hd
 | grown hg hw hb hs hm hl hr =>
  rename_i g cap cur
  have hHg : H g = none := by
   cases hx : H g with
   | none => rfl
   | some x => have := ho.lt hx; omega
  refine ⟨?_, ho.grownBy hw, Ext.grownBy H hw⟩
  have := rep_row (w := w') (H := H) (l := xs) (k := k) (cap := cap) hb hHg (fun i d hd => (hxs d (List.mem_of_getElem? hd)).1) (fun j y hy => by
   obtain ⟨_, u, hu', hrep⟩ := hr j y (by simpa using hy)
   exact ⟨u, hu', hrep.ext (Ext.grownBy H hw)⟩) (by simpa using hl) hm
  simpa using this

def goBody (P : Program) (f : FuncId) : Prop := ∃ fn, P.funcs[f]? = some fn ∧ (fn.name == "runtime.NumGoroutine") = false ∧ fn.body.isNone = false

theorem run_callFunc {f : FuncId} (h : goBody P f) (args : Array Value) (w : World) : (callFunc f args).run P w = .ok (.enter f args) w := by
 obtain ⟨fn, hf, hn, hb⟩ := h
 have hn' : ¬ fn.name = "runtime.NumGoroutine" := by simpa using hn
 have hb' : ¬ fn.body = none := by intro h; rw [h] at hb; cases hb
 simp [callFunc, hf, hn', hb']

structure PureH (P : Program) (H : Heap) (f : FuncId) (ds : List D) (d : D) : Prop where
 body : goBody P f
 calls : ∀ (w : World) (args : Array Value), HOK w H → RepsA w H args ds → Calls P f args w fun en w' => ∃ v, en = .returned v ∧ Rep w' H v d ∧ HOK w' H ∧ Ext w H w' H

def Pure (P : Program) (f : FuncId) (ds : List D) (d : D) : Prop := ∀ H, PureH P H f ds d

structure CallD (P : Program) (H : Heap) (f : FuncId) (ds : List D) (K : D → Heap → Prop) : Prop where
 body : goBody P f
 calls : ∀ (w : World) (args : Array Value), HOK w H → RepsA w H args ds → Calls P f args w fun en w' => ∃ v d H', en = .returned v ∧ K d H' ∧ Rep w' H' v d ∧ HOK w' H' ∧ Ext w H w' H'

def evList (e : Env) : List Operand → Option (List D)
 | [] => some []
 | x :: r => (e.ev x).bind fun d => (evList e r).map fun ds => d :: ds

theorem reps_list {w : World} {ρ : Operand → Value} (ha : Agree ρ w H e) : ∀ (l : List Operand) (ds : List D), evList e l = some ds → RepsA w H (l.map ρ).toArray ds
 | [], ds, h => by simp [evList] at h; subst h; exact ⟨rfl, fun j x hx => by simp at hx⟩
 | x :: r, ds, h => by
  simp only [evList] at h
  cases hx : e.ev x with
  | none => simp [hx] at h
  | some d =>
   cases hr : evList e r with
   | none => simp [hx, hr] at h
   | some ds' =>
    simp [hx, hr] at h
    subst h
    have ih := reps_list ha r ds' hr
    refine ⟨by simpa using ih.1, fun j y hy => ?_⟩
    cases j with
    | zero => simp at hy; subst hy; exact ⟨ρ x, by simp, ha x d hx⟩
    | succ j =>
     obtain ⟨u, hu, hrep⟩ := ih.2 j y (by simpa using hy)
     exact ⟨u, by simpa using hu, hrep⟩

theorem RepsA.append {w : World} {vs us : Array Value} {ds es : List D} (h : RepsA w H vs ds) (g : RepsA w H us es) : RepsA w H (vs ++ us) (ds ++ es) := by
 refine ⟨by simp [h.1, g.1], fun j x hx => ?_⟩
 by_cases hj : j < ds.length
 ·rw [List.getElem?_append_left hj] at hx
  obtain ⟨u, hu, hr⟩ := h.2 j x hx
  exact ⟨u, by rw [Array.getElem?_append_left (by rw [h.1]; exact hj)]; exact hu, hr⟩
 ·rw [List.getElem?_append_right (by omega)] at hx
  obtain ⟨u, hu, hr⟩ := g.2 _ x hx
  exact ⟨u, by rw [Array.getElem?_append_right (by rw [h.1]; omega), h.1]; exact hu, hr⟩

theorem run_exec_call {ρ : Operand → Value} {w : World} {g : Operand} {xs : Array Operand} {ats : Array TypeId} {f : FuncId} {vs : Array Value} (hb : goBody P f) (hg : ρ g = .func (.func f) #[] vs) :
  (execOp ρ ⟨dst, .call ⟨.value g, xs, ats⟩, ty, pos, af, gd⟩).run P w = .ok (.enter f (xs.map ρ ++ vs)) w := by
 simp only [execOp, Sem.run_bind, resolve, Deferred.ofValue, hg]
 simp [invoke, run_callFunc hb]

theorem sta_call {g : Operand} {xs : Array Operand} {ats : Array TypeId} {f : FuncId} {caps ds : List D} {d : D} (hg : e.ev g = some (.fn f caps)) (hx : evList e xs.toList = some ds) (hp : PureH P H f (ds ++ caps) d) :
  Sta P H e ⟨dst, .call ⟨.value g, xs, ats⟩, ty, pos, af, gd⟩ d := .mk fun ρ w ha ho => by
 obtain ⟨vs, hv, hr⟩ := rep_fn (ha g _ hg)
 simp only [OpTo, run_exec_call hp.body hv]
 have hargs : RepsA w H (xs.map ρ ++ vs) (ds ++ caps) := by
  have := (reps_list (H := H) ha xs.toList ds hx).append hr
  have he : (xs.toList.map ρ).toArray = xs.map ρ := by apply Array.ext'; simp
  rwa [he] at this
 exact (hp.calls w _ ho hargs).mono fun en w' ⟨v, h1, h2, h3, h4⟩ => ⟨v, h1, h2, h3, h4⟩

theorem opD_call {g : Operand} {xs : Array Operand} {ats : Array TypeId} {f : FuncId} {caps ds : List D} {K : D → Heap → Prop} (hg : e.ev g = some (.fn f caps)) (hx : evList e xs.toList = some ds) (hp : CallD P H f (ds ++ caps) K) :
  OpD P H e ⟨dst, .call ⟨.value g, xs, ats⟩, ty, pos, af, gd⟩ K := .mk fun ρ w ha ho => by
 obtain ⟨vs, hv, hr⟩ := rep_fn (ha g _ hg)
 simp only [OpTo, run_exec_call hp.body hv]
 have hargs : RepsA w H (xs.map ρ ++ vs) (ds ++ caps) := by
  have := (reps_list (H := H) ha xs.toList ds hx).append hr
  have he : (xs.toList.map ρ).toArray = xs.map ρ := by apply Array.ext'; simp
  rwa [he] at this
 exact (hp.calls w _ ho hargs).mono fun en w' ⟨v, d, H', h1, h2, h3, h4, h5⟩ => ⟨v, h1, d, H', h2, h3, h4, h5⟩

end
end
section
open Go.RowKit

def Env.putO (e : Env) : Option Tmp → D → Env
 | some t, d => (t, d) :: e
 | none, _ => e

structure Ctx where
 P : Program
 N : Nat
 w0 : World
 H0 : Heap

def Marks (w0 : World) : List Deferred → World → Prop
 | [], _ => True
 | d :: ds, w => (∃ D, d = { target := .collected D, args := #[] } ∧ w0.heap.size ≤ D ∧ w.heap[D]? = some (.deferred (some [])) ∧ ∀ x ∈ ds, x.target ≠ .collected D) ∧ Marks w0 ds w

theorem Marks.heap {w0 : World} : ∀ {ds : List Deferred} {w w' : World}, Marks w0 ds w → (∀ D, w.heap[D]? = some (.deferred (some [])) → ({ target := .collected D, args := #[] } : Deferred) ∈ ds → w'.heap[D]? = some (.deferred (some []))) → Marks w0 ds w'
 | [], _, _, _, _ => trivial
 | d :: ds, w, w', ⟨⟨D, h1, h2, h3, h4⟩, h5⟩, hk => ⟨⟨D, h1, h2, hk D h3 (by rw [h1]; simp), h4⟩, h5.heap fun D' g1 g2 => hk D' g1 (List.mem_cons_of_mem _ g2)⟩

theorem Marks.ext {w0 w w' : World} {ds : List Deferred} {H H' : Heap} (h : Marks w0 ds w) (ho : HOK w H) (he : Ext w H w' H') : Marks w0 ds w' := h.heap fun D hD _ => by
 have hn : H D = none := by
  cases hx : H D with
  | none => rfl
  | some x =>
   obtain ⟨T, cells⟩ := x
   obtain ⟨cs, hc, _⟩ := ho.at' D T cells hx
   rw [hc] at hD
   cases hD
 rw [(he.old D (lt_of_block hD) hn).2]
 exact hD

structure MShut (w0 w w' : World) : Prop where
 os : w'.os = w.os
 tape : w'.tape = w.tape
 output : w'.output = w.output
 drawn : w'.drawn = w.drawn
 size : w'.heap.size = w.heap.size
 old : ∀ b, b < w0.heap.size → w'.heap[b]? = w.heap[b]?
 cells : ∀ (b : Nat) (cs : Array Value) (T : TypeId) (fr : Nat × Nat), w.heap[b]? = some (.cells cs T fr) → w'.heap[b]? = some (.cells cs T fr)

theorem MShut.refl (w0 w : World) : MShut w0 w w := ⟨rfl, rfl, rfl, rfl, rfl, fun _ _ => rfl, fun _ _ _ _ h => h⟩

theorem MShut.put {w0 w w' : World} {D : Nat} {o : Obj} (hD : w0.heap.size ≤ D) (hd : w.heap[D]? = some (.deferred (some []))) (h : MShut w0 (w.putObj D o) w') : MShut w0 w w' :=
 ⟨h.os, h.tape, h.output, h.drawn, h.size.trans World.putObj_size, fun b hb => (h.old b hb).trans (World.putObj_heap_other (by omega)), fun b cs T fr hb => h.cells b cs T fr (by
  rw [World.putObj_heap_other (fun e => by rw [e, hd] at hb; cases hb)]; exact hb)⟩

theorem leaves_marks {P : Program} {fn : Func} {tmps : Array Value} {R : Ending → World → Prop} {w0 : World} {n : Nat} : ∀ (ds : List Deferred) (w : World), Marks w0 ds w →
  (∀ w', MShut w0 w w' → ∃ v, (results fn tmps).run P w' = .ok v w' ∧ R (.returned v) w') → LeavesInM Fence.wide n P fn tmps R ds .returning w
 | [], w, _, h => h w (.refl _ _)
 | d :: ds, w, ⟨⟨D, h1, h2, h3, h4⟩, h5⟩, h => by
  refine ⟨fun h => (by cases h), .inl ⟨D, w.putObj D (.deferred none), by rw [h1], run_takeDeferred h3, ?_⟩⟩
  refine leaves_marks ds _ (h5.heap fun D' g1 g2 => ?_) fun w' hw => h w' (hw.put h2 h3)
  rw [World.putObj_heap_other (fun e => h4 _ g2 (by rw [e]))]
  exact g1

theorem calls_of_marks {P : Program} {f : FuncId} {fn : Func} {c : Code} {args : Array Value} {w : World} {R : Ending → World → Prop} (hf : P.funcs[f]? = some fn) (hb : fn.body = some c)
  (h : c.wp P (fun x a' w' => (x = .ret ∨ x = .normal) ∧ Marks w a'.defers w' ∧ ∀ w2, MShut w w' w2 → ∃ v, (results fn a'.tmps).run P w2 = .ok v w2 ∧ R (.returned v) w2) { tmps := args ++ Array.replicate (fn.ntmps - args.size) undef, defers := [] } w) : Calls P f args w R := by
 have key : CallsIn Fence.wide 0 P f args w R := by
  refine callsIn_of_wp_marks hf hb trivial (wpIn_wide.2 (wp_mono h fun x a' w' hx => ?_))
  obtain ⟨hx, hm, hr⟩ := hx
  rcases hx with rfl | rfl
  ·exact leaves_marks _ _ hm hr
  ·exact leaves_marks _ _ hm hr
 exact callsIn_wide.1 key

structure St (C : Ctx) (a : Act) (w : World) (e : Env) (H : Heap) : Prop where
 size : a.tmps.size = C.N
 defers : Marks C.w0 a.defers w
 env : ∀ (t : Nat) (d : D), e.get t = some d → ∃ v, a.tmps[t]? = some v ∧ Rep w H v d
 heap : HOK w H
 ext : Ext C.w0 C.H0 w H

theorem MShut.kept {w0 w w' : World} {H : Heap} (h : MShut w0 w w') : Kept w H w' H := by
 refine ⟨fun b off v hH hw => ⟨hH, ?_⟩, fun b cs T hb => ⟨cs, h.cells b cs T _ hb, rfl⟩⟩
 have hx : ∃ cs T fr, w.heap[b]? = some (.cells cs T fr) := by
  unfold World.cell? at hw
  dsimp only at hw
  split at hw
  ·rename_i c T fr hc
   exact ⟨c, T, fr, hc⟩
  ·cases hw
 obtain ⟨cs, T, fr, hc⟩ := hx
 exact (World.cell?_of_block (a := ⟨b, off, none⟩) ((h.cells b cs T fr hc).trans hc.symm)).trans hw

theorem St.shut {C : Ctx} {a : Act} {w w' : World} {e : Env} {H : Heap} (s : St C a w e H) (h : MShut C.w0 w w') : St C { a with defers := [] } w' e H := by
 have hk := h.kept (H := H)
 refine ⟨s.size, trivial, fun t d hd => ?_, ⟨fun b T cells hb => ?_, fun g cs hg => ?_⟩, ⟨h.os.trans s.ext.os, h.tape.trans s.ext.tape, h.output.trans s.ext.output, by rw [h.size]; exact s.ext.size, s.ext.tick.trans (.of_le (by rw [h.drawn]; exact Nat.le_refl _)), fun b hb hH => ?_, fun b cs T hb => ?_⟩⟩
 ·obtain ⟨v, hv, hr⟩ := s.env t d hd
  exact ⟨v, hv, hr.kept hk⟩
 ·obtain ⟨cs, h1, h2, h3⟩ := s.heap.at' b T cells hb
  refine ⟨cs, h.cells b cs T _ h1, h2, fun j x hj => ?_⟩
  obtain ⟨g1, v, g2, g3⟩ := h3 j x hj
  exact ⟨g1, v, g2, g3.kept hk⟩
 ·obtain ⟨h1, T, h2⟩ := s.heap.inv g cs hg
  exact ⟨h1, T, h.cells g cs T _ h2⟩
 ·obtain ⟨h1, h2⟩ := s.ext.old b hb hH
  exact ⟨h1, (h.old b hb).trans h2⟩
 ·obtain ⟨cs', h1, h2⟩ := s.ext.shape b cs T hb
  exact ⟨cs', h.cells b cs' T _ h1, h2⟩

abbrev Post := Exit → Env → Heap → Prop

def lift (C : Ctx) (Q : Post) (x : Exit) (a : Act) (w : World) : Prop := ∃ e H, Q x e H ∧ St C a w e H

structure DW (C : Ctx) (c : Code) (e : Env) (H : Heap) (Q : Post) : Prop where
 go : ∀ a w, St C a w e H → c.wp C.P (lift C Q) a w

theorem St.agree {C : Ctx} {a : Act} {w : World} {e : Env} {H : Heap} (h : St C a w e H) : Agree a.eval w H e := by
 refine ⟨fun x d hx => ?_, fun v => rfl⟩
 cases x with
 | tmp t =>
  obtain ⟨v, hv, hr⟩ := h.env t d hx
  simpa [Act.eval, Array.getD_eq_getD_getElem?, hv] using hr
 | const v => exact rep_const hx
 | global g => simp [Env.ev] at hx
 | func f =>
  simp only [Env.ev, Option.some.injEq] at hx
  subst hx
  exact RepsA.fn f ⟨rfl, fun j x hx => by simp at hx⟩

def dstOk (N : Nat) : Option Tmp → Bool
 | none => true
 | some t => Nat.blt t N

theorem Env.get_cons (e : Env) (t t' : Nat) (d : D) : Env.get ((t, d) :: e) t' = if t = t' then some d else e.get t' := by
 simp only [Env.get]
 by_cases h : t = t'
 ·subst h; simp
 ·have : Nat.beq t t' = false := by
   cases hb : Nat.beq t t' with
   | false => rfl
   | true => exact absurd (Nat.eq_of_beq_eq_true hb) h
  simp [this, h]

theorem St.put {C : Ctx} {a : Act} {w w' : World} {e : Env} {H H' : Heap} (h : St C a w e H) {dst : Option Tmp} (hd : dstOk C.N dst = true) {v : Value} {d : D} (hv : Rep w' H' v d) (ho : HOK w' H') (he : Ext w H w' H') : St C (a.put dst v) w' (e.putO dst d) H' := by
 cases dst with
 | none => exact ⟨h.size, h.defers.ext h.heap he, fun t x hx => let ⟨u, hu, hr⟩ := h.env t x hx; ⟨u, hu, hr.ext he⟩, ho, h.ext.trans he⟩
 | some s =>
  have hs : s < C.N := by simpa [dstOk, Nat.blt_eq] using hd
  refine ⟨by simp [Act.put, h.size], h.defers.ext h.heap he, fun t x hx => ?_, ho, h.ext.trans he⟩
  simp only [Env.putO, Env.get_cons] at hx
  simp only [Act.put]
  rw [Array.getElem?_setIfInBounds]
  split at hx
  ·rename_i hst
   subst hst
   cases hx
   exact ⟨v, by simp [h.size, hs], hv⟩
  ·rename_i hst
   rw [if_neg hst]
   obtain ⟨u, hu, hr⟩ := h.env t x hx
   exact ⟨u, hu, hr.ext he⟩

section
variable {C : Ctx} {e : Env} {H : Heap} {Q : Post}

theorem DW.mono {c : Code} {Q' : Post} (h : DW C c e H Q) (hq : ∀ x e' H', Q x e' H' → Q' x e' H') : DW C c e H Q' :=
 .mk fun a w hs => wp_mono (h.go a w hs) fun x a' w' ⟨e', H', q, s⟩ => ⟨e', H', hq _ _ _ q, s⟩

theorem St.weaken {a : Act} {w : World} {e e' : Env} (h : St C a w e H) (hs : ∀ t d, e'.get t = some d → e.get t = some d) : St C a w e' H :=
 ⟨h.size, h.defers, fun t d hd => h.env t d (hs t d hd), h.heap, h.ext⟩

theorem DW.weaken {c : Code} {e' : Env} (hs : ∀ t d, e'.get t = some d → e.get t = some d) (h : DW C c e' H Q) : DW C c e H Q :=
 .mk fun a w hst => h.go a w (hst.weaken hs)

def Env.only (e : Env) : List Nat → Env
 | [] => []
 | t :: ts => match e.get t with
  | some d => (t, d) :: Env.only e ts
  | none => Env.only e ts

theorem Env.only_get (e : Env) : ∀ (ts : List Nat) (t : Nat) (d : D), (e.only ts).get t = some d → e.get t = some d
 | [], t, d, h => by simp [Env.only, Env.get] at h
 | s :: ts, t, d, h => by
  simp only [Env.only] at h
  split at h
  ·rename_i x hx
   rw [Env.get_cons] at h
   split at h
   ·rename_i hst; subst hst; rw [hx]; exact h
   ·exact Env.only_get e ts t d h
  ·exact Env.only_get e ts t d h

theorem DW.change {c : Code} {e' : Env} {H' : Heap} (hH : H'.sub H) (hs : ∀ t d', e'.get t = some d' → ∃ d, e.get t = some d ∧ Frz H H' d d') (h : DW C c e' H' Q) : DW C c e H Q :=
 .mk fun a w hst => h.go a w ⟨hst.size, hst.defers, fun t d' hd' => by
  obtain ⟨d, hd, hf⟩ := hs t d' hd'
  obtain ⟨v, hv, hr⟩ := hst.env t d hd
  exact ⟨v, hv, Rep.frz hst.heap hH hf hr⟩, hst.heap.sub hH, hst.ext.sub hH⟩

theorem DW.skip (h : Q .normal e H) : DW C .skip e H Q := .mk fun a w hs => wp_skip ⟨e, H, h, hs⟩
theorem DW.exit {id : Nat} (h : Q (.exit id) e H) : DW C (.exit id) e H Q := .mk fun a w hs => wp_exit ⟨e, H, h, hs⟩
theorem DW.ret (h : Q .ret e H) : DW C .ret e H Q := .mk fun a w hs => wp_ret ⟨e, H, h, hs⟩

def thenQ (C : Ctx) (y : Code) (Q : Post) : Post
 | .normal, e, H => DW C y e H Q
 | x, e, H => Q x e H

theorem DW.seq {x y : Code} (h : DW C x e H (thenQ C y Q)) : DW C (.seq x y) e H Q := .mk fun a w hs => wp_seq (wp_mono (h.go a w hs) fun z a' w' hz => by
 obtain ⟨e', H', q, s⟩ := hz
 cases z with
 | normal => exact q.go a' w' s
 | exit id => exact ⟨e', H', q, s⟩
 | goto l => exact ⟨e', H', q, s⟩
 | ret => exact ⟨e', H', q, s⟩
 | panic c => exact ⟨e', H', q, s⟩
 | outgrown => exact ⟨e', H', q, s⟩)

theorem DW.cond {c : Operand} {x y : Code} {t : Bool} (hc : e.ev c = some (.bool t)) (h1 : t = true → DW C x e H Q) (h2 : t = false → DW C y e H Q) : DW C (.cond c x y) e H Q := .mk fun a w hs =>
 wp_cond_split (rep_bool (hs.agree c _ hc)) (fun h => (h1 h).go a w hs) (fun h => (h2 h).go a w hs)

def blockQ (id : Nat) (Q : Post) : Post
 | .exit id', e, H => bif Nat.beq id' id then Q .normal e H else Q (.exit id') e H
 | x, e, H => Q x e H

theorem DW.block {id : Nat} {c : Code} (h : DW C c e H (blockQ id Q)) : DW C (.block id c) e H Q := .mk fun a w hs => wp_block (wp_mono (h.go a w hs) fun z a' w' hz => by
 obtain ⟨e', H', q, s⟩ := hz
 cases z with
 | exit id' =>
  simp only [Exit.inBlock]
  simp only [blockQ] at q
  by_cases hi : id' = id
  ·subst hi
   rw [if_pos rfl]
   rw [show Nat.beq id' id' = true from Nat.beq_refl id'] at q
   exact ⟨e', H', q, s⟩
  ·rw [if_neg hi]
   have : Nat.beq id' id = false := by
    cases hb : Nat.beq id' id with
    | false => rfl
    | true => exact absurd (Nat.eq_of_beq_eq_true hb) hi
   rw [this] at q
   exact ⟨e', H', q, s⟩
 | normal => exact ⟨e', H', q, s⟩
 | goto l => exact ⟨e', H', q, s⟩
 | ret => exact ⟨e', H', q, s⟩
 | panic c => exact ⟨e', H', q, s⟩
 | outgrown => exact ⟨e', H', q, s⟩)

def loopQ (I : Nat → Env → Heap → Prop) (n : Nat) (Q : Post) : Post
 | .normal, e, H => ∃ m, m < n ∧ I m e H
 | x, e, H => Q x e H

theorem exists_least (p : Nat → Prop) (h : ∃ n, p n) : ∃ n, p n ∧ ∀ m, p m → n ≤ m := by
 obtain ⟨n, hn⟩ := h
 induction n using Nat.strongRecOn with
 | _ n ih =>
  by_cases hx : ∃ m, m < n ∧ p m
  ·obtain ⟨m, hm, hp⟩ := hx
   exact ih m hm hp
  ·refine ⟨n, hn, fun m hm => ?_⟩
   by_cases hlt : m < n
   ·exact absurd ⟨m, hlt, hm⟩ hx
   ·omega

theorem DW.loop {c : Code} (I : Nat → Env → Heap → Prop) (n : Nat) (h0 : I n e H) (hr : ∀ n e H, I n e H → DW C c e H (loopQ I n Q)) : DW C (.loop c) e H Q := by
 classical
 refine .mk fun a w hs => ?_
 let J : Act → World → Nat → Prop := fun a w n => ∃ e H, I n e H ∧ St C a w e H
 have hJ : ∃ n, J a w n := ⟨n, e, H, h0, hs⟩
 let least : (a : Act) → (w : World) → Nat := fun a w => if h : ∃ n, J a w n then Classical.choose (exists_least _ h) else 0
 have hleast : ∀ a w, (∃ n, J a w n) → J a w (least a w) ∧ ∀ m, J a w m → least a w ≤ m := fun a w h => by
  have : least a w = Classical.choose (exists_least _ h) := dif_pos h
  rw [this]
  exact Classical.choose_spec (exists_least _ h)
 refine wp_loop (fun a w => ∃ n, J a w n) least hJ fun a w hj => ?_
 obtain ⟨e', H', hI, hst⟩ := (hleast a w hj).1
 refine wp_mono ((hr _ e' H' hI).go a w hst) fun z a' w' hz => ?_
 obtain ⟨e2, H2, q, s⟩ := hz
 cases z with
 | normal =>
  obtain ⟨m, hm, hIm⟩ := q
  have hj' : ∃ n, J a' w' n := ⟨m, e2, H2, hIm, s⟩
  exact ⟨hj', Nat.lt_of_le_of_lt ((hleast a' w' hj').2 m ⟨e2, H2, hIm, s⟩) hm⟩
 | exit id => exact ⟨e2, H2, q, s⟩
 | goto l => exact ⟨e2, H2, q, s⟩
 | ret => exact ⟨e2, H2, q, s⟩
 | panic c => exact ⟨e2, H2, q, s⟩
 | outgrown => exact ⟨e2, H2, q, s⟩

end
end
end Go.Proofs.YtfjmdhemlfafbaaGreat
