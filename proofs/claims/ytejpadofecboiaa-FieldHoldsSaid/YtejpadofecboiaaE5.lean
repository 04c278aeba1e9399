/-
  Operations that make or write mutable blocks, at the data level: alloc, store, make, append; slice literals; calls. No condition.
-/
import Derived.Test.YtejpadofecboiaaE4
namespace Go.Proofs.Ytejpadofecboiaa
open Go.RowKit
set_option linter.unusedVariables false
set_option linter.unusedSimpArgs false

/-- Elements of k cells each. -/
def Uni (k : Nat) (l : List D) : Prop := ∀ d ∈ l, (cellsOf d).length = k ∧ ∀ x ∈ cellsOf d, x.isCell = true

theorem Uni.nil (k : Nat) : Uni k [] := fun d h => by cases h
theorem Uni.append {k : Nat} {l m : List D} (h : Uni k l) (g : Uni k m) : Uni k (l ++ m) := fun d hd => by
  rcases List.mem_append.1 hd with x | x
  · exact h d x
  · exact g d x
theorem Uni.single {k : Nat} {d : D} (h : (cellsOf d).length = k) (g : ∀ x ∈ cellsOf d, x.isCell = true) : Uni k [d] := fun x hx => by
  simp at hx; subst hx; exact ⟨h, g⟩

theorem Uni.length {k : Nat} : ∀ {l : List D}, Uni k l → (l.flatMap cellsOf).length = l.length * k
  | [], _ => by simp
  | d :: l, h => by
    have h1 := (h d (by simp)).1
    have h2 := Uni.length (l := l) fun x hx => h x (by simp [hx])
    simp only [List.flatMap_cons, List.length_append, List.length_cons, h1, h2, Nat.add_mul]
    omega

theorem flat_cell {k : Nat} : ∀ {l : List D}, (∀ (i : Nat) (d : D), l[i]? = some d → (cellsOf d).length = k) → ∀ (i j : Nat), j < k → (l.flatMap cellsOf)[i * k + j]? = cellAt l i j
  | [], _, i, j, _ => by simp [cellAt]
  | d :: l, h, i, j, hj => by
    have hd : (cellsOf d).length = k := h 0 d rfl
    cases i with
    | zero =>
      simp only [List.flatMap_cons, Nat.zero_mul, Nat.zero_add]
      rw [List.getElem?_append_left (by omega)]
      simp [cellAt]
    | succ i =>
      simp only [List.flatMap_cons]
      rw [List.getElem?_append_right (by rw [hd, Nat.add_mul]; omega)]
      have := flat_cell (l := l) (fun i d h' => h (i + 1) d (by simpa using h')) i j hj
      rw [show (i + 1) * k + j - (cellsOf d).length = i * k + j by rw [hd, Nat.add_mul]; omega, this]
      simp [cellAt]

/-- What a list's cells are, as a row of values. -/
theorem list_news {w : World} {H : Heap} {v : Value} {k : Nat} {xs : List D} (h : Rep w H v (.list k xs)) (hu : Uni k xs) (hk : 0 < k) (hne : xs ≠ []) :
    ∃ (a : Addr) (c : Nat) (news : List Value), v = .slice (some a) xs.length c ∧ news.length = xs.length * k ∧ (∀ (j : Nat) (u : Value), news[j]? = some u → w.cell? (a.add j) = some u) ∧ (∀ u ∈ news, u.oneCell' = true) ∧
      ∀ (j : Nat) (x : D), (xs.flatMap cellsOf)[j]? = some x → ∃ u, news[j]? = some u ∧ Rep w H u x := by
  cases h with
  | list vals hc hm h1 h2 h3 =>
    rename_i a c
    have hcell : ∀ q, q < xs.length * k → ∃ x, cellAt xs (q / k) (q % k) = some x ∧ x.isCell = true := fun q hq => by
      have h1' : q / k < xs.length := (Nat.div_lt_iff_lt_mul hk).2 hq
      have hmod : q % k < k := Nat.mod_lt _ hk
      have hd := hu xs[q / k] (List.getElem_mem _)
      have hlt : q % k < (cellsOf xs[q / k]).length := by rw [hd.1]; exact hmod
      exact ⟨(cellsOf xs[q / k])[q % k], by simp [cellAt, h1', hlt], hd.2 _ (List.getElem_mem _)⟩
    have hpos : 0 < xs.length * k := Nat.mul_pos (by cases xs with | nil => exact absurd rfl hne | cons => simp) hk
    obtain ⟨x0, hx0, _⟩ := hcell 0 hpos
    obtain ⟨b, off, ha, _, _⟩ := h2 _ _ _ hx0
    subst ha
    refine ⟨⟨b, off, none⟩, c, (List.range (xs.length * k)).map fun q => vals (q / k) (q % k), rfl, by simp, fun j u hj => ?_, fun u hu' => ?_, fun j x hx => ?_⟩
    · simp only [List.getElem?_map, Option.map_eq_some_iff] at hj
      obtain ⟨j', hj', rfl⟩ := hj
      have hlt : j < xs.length * k := by simpa using (List.getElem?_eq_some_iff.1 hj').1
      rw [List.getElem?_range hlt] at hj'
      cases hj'
      obtain ⟨x, hx, _⟩ := hcell j hlt
      obtain ⟨b', off', ha', _, hw⟩ := h2 _ _ _ hx
      cases ha'
      rw [addr_add, ← hw]
      congr 2
      rw [Nat.add_assoc, Nat.mul_comm, Nat.div_add_mod]
    · simp only [List.mem_map, List.mem_range] at hu'
      obtain ⟨q, hq, rfl⟩ := hu'
      obtain ⟨x, hx, hxc⟩ := hcell q hq
      exact (h3 _ _ _ hx).oneCell hxc
    · have hlt : j < xs.length * k := by
        have := (List.getElem?_eq_some_iff.1 hx).1
        rwa [hu.length] at this
      have hjk : (j / k) * k + j % k = j := by rw [Nat.mul_comm, Nat.div_add_mod]
      have hx' : cellAt xs (j / k) (j % k) = some x := by
        rw [← flat_cell (k := k) (fun i d hd => h1 i d hd) _ _ (Nat.mod_lt _ hk), hjk]; exact hx
      exact ⟨vals (j / k) (j % k), by simp [hlt], h3 _ _ _ hx'⟩

section
variable {P : Program} {H : Heap} {e : Env} {dst : Option Tmp} {ty : TypeId} {pos : String} {af : Array Edge} {gd : Option (Nat × Bool)}

/-- What lies in new memory of a type. -/
structure ZeroOf (P : Program) (t : TypeId) (k : Nat) (zd : List D) : Prop where
  is : ∃ inf z, P.info? t = some inf ∧ inf.zero = some z ∧ inf.size = k ∧ z.cells = (zd.map litV).toArray
  lit : zd.all litOk = true
  len : zd.length = k

theorem ZeroOf.reps {t : TypeId} {k : Nat} {zd : List D} (h : ZeroOf P t k zd) (w : World) (H : Heap) : RepsA w H (zd.map litV).toArray zd :=
  ⟨by simp, fun j x hx => ⟨litV x, by simp [hx], rep_lit w H (List.all_eq_true.1 h.lit x (List.mem_of_getElem? hx))⟩⟩

theorem litOk_cell {d : D} (h : litOk d = true) : d.isCell = true := by cases d <;> simp_all [litOk, D.isCell]

/-- A variable of its own, that will be written. -/
theorem opD_alloc {t : TypeId} {k : Nat} {zd : List D} {K : D → Heap → Prop} (hz : ZeroOf P t k zd) (hK : ∀ b, H b = none → K (.ptr b 0) (H.set b (t, zd))) : OpD P H e ⟨dst, .alloc t, ty, pos, af, gd⟩ K := .mk fun ρ w ha ho => by
  obtain ⟨inf, z, hi, hz1, hz2, hz3⟩ := hz.is
  simp [OpTo, execOp, Instr.alloc, run_zeroValue hi hz1, newVar, newRow, newObj, Sem.run]
  refine ⟨_, _, hK w.heap.size ho.fresh, .ptr _ _, ?_, Ext.allocMut w H _ _⟩
  have hr := hz.reps w H
  rw [hz3]
  exact ho.allocMut t _ zd (by simp) fun j x hx => ⟨litOk_cell (List.all_eq_true.1 hz.lit x (List.mem_of_getElem? hx)), hr.2 j x hx⟩

/-- A variable of its own with a value, that will be written. -/
theorem opD_box {t : TypeId} {x : Operand} {d : D} {K : D → Heap → Prop} (hx : e.ev x = some d) (hc : ∀ y ∈ cellsOf d, y.isCell = true) (hK : ∀ b, H b = none → K (.ptr b 0) (H.set b (t, cellsOf d))) :
    OpD P H e ⟨dst, .box t x, ty, pos, af, gd⟩ K := .mk fun ρ w ha ho => by
  have hr := rep_cells (ha x d hx)
  simp [OpTo, execOp, Instr.box, newVar, newRow, newObj, Sem.run]
  refine ⟨_, _, hK w.heap.size ho.fresh, .ptr _ _, ?_, Ext.allocMut w H _ _⟩
  exact ho.allocMut t _ (cellsOf d) (by rw [hr.1]; exact Nat.le_refl _) fun j y hy => ⟨hc y (List.mem_of_getElem? hy), hr.2 j y hy⟩

/-- A store into a mutable block. -/
theorem ext_setCells {w : World} {b : Nat} {T : TypeId} {cs cs' : Array Value} {cells cells' : List D} (ho : HOK w H) (hH : H b = some (T, cells)) (hb : w.heap[b]? = some (.cells cs T (0, 0))) (hs : cs'.size = cs.size)
    (hl : cells'.length ≤ cs'.size) (hr : ∀ (j : Nat) (x : D), cells'[j]? = some x → x.isCell = true ∧ ∃ v, cs'[j]? = some v ∧ Rep w H v x) :
    HOK (w.setRow b cs') (H.set b (T, cells')) ∧ Ext w H (w.setRow b cs') (H.set b (T, cells')) := by
  have hheap : ∀ c, c ≠ b → (w.setRow b cs').heap[c]? = w.heap[c]? := fun c hc => by
    simp only [World.setRow, Array.getElem?_modify]
    rw [if_neg (by omega)]
  have hself : (w.setRow b cs').heap[b]? = some (.cells cs' T (0, 0)) := setRow_heap w b cs cs' T (0, 0) hb
  have he : Ext w H (w.setRow b cs') (H.set b (T, cells')) := by
    refine ⟨rfl, rfl, rfl, by simp [World.setRow], fun c hc hHc => ?_, fun c cs2 T2 hc => ?_⟩
    · have hne : c ≠ b := fun x => by subst x; rw [hH] at hHc; cases hHc
      exact ⟨by simp [Heap.set, hne, hHc], hheap c hne⟩
    · by_cases hcb : c = b
      · subst hcb
        rw [hb] at hc
        cases hc
        exact ⟨cs', hself, hs⟩
      · exact ⟨cs2, by rw [hheap c hcb]; exact hc, rfl⟩
  refine ⟨fun c T2 cells2 hc => ?_, he⟩
  simp only [Heap.set] at hc
  split at hc
  · rename_i hcb
    subst hcb
    cases hc
    refine ⟨cs', hself, hl, fun j x hx => ?_⟩
    obtain ⟨h1, v, hv, hrep⟩ := hr j x hx
    exact ⟨h1, v, hv, hrep.ext he⟩
  · rename_i hcb
    obtain ⟨cs2, h1, h2, h3⟩ := ho c T2 cells2 hc
    refine ⟨cs2, by rw [hheap c hcb]; exact h1, h2, fun j x hx => ?_⟩
    obtain ⟨h4, v, hv, hrep⟩ := h3 j x hx
    exact ⟨h4, v, hv, hrep.ext he⟩

theorem opD_store {t T0 : TypeId} {inf : TypeInfo} {x y : Operand} {b off : Nat} {d : D} {cells : List D} {K : D → Heap → Prop} (hi : P.info? t = some inf) (hs : inf.size = (cellsOf d).length) (hx : e.ev x = some (.ptr b off)) (hy : e.ev y = some d)
    (hH : H b = some (T0, cells)) (hl : off + (cellsOf d).length ≤ cells.length) (hc : ∀ z ∈ cellsOf d, z.isCell = true) (hK : K (.tup []) (H.set b (T0, setMany cells off (cellsOf d)))) :
    OpD P H e ⟨dst, .store t x y, ty, pos, af, gd⟩ K := .mk fun ρ w ha ho => by
  have hp := rep_ptr (ha x _ hx)
  have hr := rep_cells (ha y d hy)
  obtain ⟨cs, hb, hlen, hcs⟩ := ho b T0 cells hH
  have hone : ∀ v ∈ (ρ y).cells.toList, v.oneCell' = true := fun v hv => by
    obtain ⟨j, hj, rfl⟩ := List.mem_iff_getElem.1 hv
    have hj' : j < (cellsOf d).length := by rw [← hr.1]; simpa using hj
    obtain ⟨u, hu, hrep⟩ := hr.2 j (cellsOf d)[j] (by simp [hj'])
    have : (ρ y).cells.toList[j] = u := by
      have h2 : (ρ y).cells[j]? = some ((ρ y).cells.toList[j]) := by simp at hj; simp [hj]
      rw [h2] at hu
      exact Option.some.inj hu
    rw [this]
    exact hrep.oneCell (hc _ (List.getElem_mem _))
  have hfit : off + 0 + (ρ y).cells.toList.length ≤ cs.size := by
    have : (ρ y).cells.toList.length = (cellsOf d).length := by simp [hr.1]
    omega
  have hst := run_storeCells_at P b off T0 (ρ y).cells.toList 0 cs w hb hfit hone
  have hsz : ¬ (ρ y).cells.size ≠ inf.size := by rw [hr.1, hs]; exact fun h => h rfl
  simp only [Nat.add_zero] at hst
  simp [OpTo, execOp, Instr.storeAt, Instr.sureAddr, hp, storeVar, run_sizeOf hi, hr.1, hs, hst]
  refine ⟨_, _, hK, RepsA.tup (vs := #[]) (ds := []) ⟨rfl, fun j x h => by simp at h⟩, ?_⟩
  rw [← List.append_assoc]
  refine ext_setCells ho hH hb (by simp; omega) (by rw [setMany_length hl]; simp; omega) fun j z hz => ?_
  rw [setMany_get hl] at hz
  have hlv : (ρ y).cells.size = (cellsOf d).length := hr.1
  by_cases h1 : off ≤ j ∧ j < off + (cellsOf d).length
  · rw [if_pos h1] at hz
    obtain ⟨u, hu, hrep⟩ := hr.2 _ z hz
    refine ⟨hc z (List.mem_of_getElem? hz), u, ?_, hrep⟩
    rw [List.getElem?_toArray, List.append_assoc, List.getElem?_append_right (by simp; omega), List.getElem?_append_left (by simp; omega), ← hu]
    simp
    congr 1
    omega
  · rw [if_neg h1] at hz
    obtain ⟨h2, u, hu, hrep⟩ := hcs j z hz
    refine ⟨h2, u, ?_, hrep⟩
    rw [← hu, List.getElem?_toArray]
    by_cases h3 : j < off
    · rw [List.append_assoc, List.getElem?_append_left (by simp; omega), List.getElem?_take, if_pos h3]
      simp
    · rw [List.getElem?_append_right (by simp; omega), List.getElem?_drop]
      simp
      congr 1
      omega

end
end Go.Proofs.Ytejpadofecboiaa
