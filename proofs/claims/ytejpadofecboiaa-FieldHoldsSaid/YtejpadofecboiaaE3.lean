/-
  More operations of one step at the data level: memory that is read, structs, literals. No condition.
-/
import Derived.Test.YtejpadofecboiaaE2
namespace Go.Proofs.Ytejpadofecboiaa
open Go.RowKit
set_option linter.unusedVariables false
set_option linter.unusedSimpArgs false

/-- Values stand for data, one by one. -/
def RepsA (w : World) (H : Heap) (vs : Array Value) (ds : List D) : Prop := vs.size = ds.length ∧ ∀ (j : Nat) (x : D), ds[j]? = some x → ∃ v, vs[j]? = some v ∧ Rep w H v x

theorem RepsA.agg {w : World} {H : Heap} {vs : Array Value} {ds : List D} (h : RepsA w H vs ds) : Rep w H (.agg vs) (.agg ds) := by
  refine .agg (fun j => vs.getD j undef) h.1 (fun j x hx => ?_) (fun j x hx => ?_)
  · obtain ⟨v, hv, _⟩ := h.2 j x hx
    simp [Array.getD_eq_getD_getElem?, hv]
  · obtain ⟨v, hv, hr⟩ := h.2 j x hx
    simpa [Array.getD_eq_getD_getElem?, hv] using hr

theorem RepsA.tup {w : World} {H : Heap} {vs : Array Value} {ds : List D} (h : RepsA w H vs ds) : Rep w H (.tuple vs) (.tup ds) := by
  refine .tup (fun j => vs.getD j undef) h.1 (fun j x hx => ?_) (fun j x hx => ?_)
  · obtain ⟨v, hv, _⟩ := h.2 j x hx
    simp [Array.getD_eq_getD_getElem?, hv]
  · obtain ⟨v, hv, hr⟩ := h.2 j x hx
    simpa [Array.getD_eq_getD_getElem?, hv] using hr

theorem RepsA.fn {w : World} {H : Heap} {vs : Array Value} {ds : List D} (f : FuncId) (h : RepsA w H vs ds) : Rep w H (.func (.func f) #[] vs) (.fn f ds) := by
  refine .fn f (fun j => vs.getD j undef) h.1 (fun j x hx => ?_) (fun j x hx => ?_)
  · obtain ⟨v, hv, _⟩ := h.2 j x hx
    simp [Array.getD_eq_getD_getElem?, hv]
  · obtain ⟨v, hv, hr⟩ := h.2 j x hx
    simpa [Array.getD_eq_getD_getElem?, hv] using hr

theorem rep_agg {w : World} {H : Heap} {v : Value} {ds : List D} (h : Rep w H v (.agg ds)) : ∃ vs, v = .agg vs ∧ RepsA w H vs ds := by
  cases h with
  | agg vals hs h2 h3 => exact ⟨_, rfl, hs, fun j x hx => ⟨_, h2 j x hx, h3 j x hx⟩⟩

theorem rep_tup {w : World} {H : Heap} {v : Value} {ds : List D} (h : Rep w H v (.tup ds)) : ∃ vs, v = .tuple vs ∧ RepsA w H vs ds := by
  cases h with
  | tup vals hs h2 h3 => exact ⟨_, rfl, hs, fun j x hx => ⟨_, h2 j x hx, h3 j x hx⟩⟩

theorem rep_fn {w : World} {H : Heap} {v : Value} {f : FuncId} {ds : List D} (h : Rep w H v (.fn f ds)) : ∃ vs, v = .func (.func f) #[] vs ∧ RepsA w H vs ds := by
  cases h with
  | fn f vals hs h2 h3 => exact ⟨_, rfl, hs, fun j x hx => ⟨_, h2 j x hx, h3 j x hx⟩⟩

theorem RepsA.kept {w w' : World} {H H' : Heap} (hk : Kept w H w' H') {vs : Array Value} {ds : List D} (h : RepsA w H vs ds) : RepsA w' H' vs ds :=
  ⟨h.1, fun j x hx => let ⟨v, hv, hr⟩ := h.2 j x hx; ⟨v, hv, hr.kept hk⟩⟩

theorem rep_cells {w : World} {H : Heap} {v : Value} {d : D} (h : Rep w H v d) : RepsA w H v.cells (cellsOf d) := by
  have one : ∀ u : Value, Rep w H u d → u.cells = #[u] → cellsOf d = [d] → RepsA w H u.cells (cellsOf d) := fun u hu hc hd => by
    rw [hc, hd]
    exact ⟨rfl, fun j x hx => by cases j with | zero => simp at hx; subst hx; exact ⟨u, rfl, hu⟩ | succ j => simp at hx⟩
  cases h with
  | agg vals hs h2 h3 => exact ⟨hs, fun j x hx => ⟨_, h2 j x hx, h3 j x hx⟩⟩
  | int k n => exact one _ (.int k n) rfl rfl
  | bool b => exact one _ (.bool b) rfl rfl
  | str s => exact one _ (.str s) rfl rfl
  | nil a => exact one _ (.nil a) rfl rfl
  | list vals hc hm h1 h2 h3 => exact one _ (.list vals hc hm h1 h2 h3) rfl rfl
  | ref hb hs hl hm => exact one _ (.ref hb hs hl hm) rfl rfl
  | ptr b off => exact one _ (.ptr b off) rfl rfl
  | ipt vals h1 h2 h3 => exact one _ (.ipt vals h1 h2 h3) rfl rfl
  | fn f vals hs h2 h3 => exact one _ (.fn f vals hs h2 h3) rfl rfl
  | tup vals hs h2 h3 => exact one _ (.tup vals hs h2 h3) rfl rfl

/-- Put many cells in. -/
def setMany (cells : List D) (off : Nat) (ds : List D) : List D := cells.take off ++ ds ++ cells.drop (off + ds.length)

theorem setMany_length {cells ds : List D} {off : Nat} (h : off + ds.length ≤ cells.length) : (setMany cells off ds).length = cells.length := by
  simp [setMany]; omega

theorem setMany_get {cells ds : List D} {off : Nat} (h : off + ds.length ≤ cells.length) (j : Nat) :
    (setMany cells off ds)[j]? = if off ≤ j ∧ j < off + ds.length then ds[j - off]? else cells[j]? := by
  simp only [setMany]
  by_cases h1 : j < off
  · rw [List.append_assoc, List.getElem?_append_left (by simp; omega), if_neg (by omega), List.getElem?_take, if_pos h1]
  · by_cases h2 : j < off + ds.length
    · rw [List.append_assoc, List.getElem?_append_right (by simp; omega), List.getElem?_append_left (by simp; omega), if_pos (by omega)]
      congr 1; simp; omega
    · rw [List.getElem?_append_right (by simp; omega), if_neg (by omega), List.getElem?_drop]
      congr 1; simp; omega

theorem foldl_set (off : Nat) : ∀ (l : List Value) (i : Nat) (base : Array Value) (j : Nat), off + i + l.length ≤ base.size →
    ((l.zipIdx i).foldl (fun cs p => cs.setIfInBounds (off + p.2) p.1) base)[j]? = if off + i ≤ j ∧ j < off + i + l.length then l[j - (off + i)]? else base[j]?
  | [], i, base, j, _ => by simp; omega
  | v :: l, i, base, j, h => by
    simp only [List.zipIdx_cons, List.foldl_cons, List.length_cons] at *
    rw [foldl_set off l (i + 1) _ j (by simp; omega)]
    by_cases h1 : j = off + i
    · subst h1
      rw [if_neg (by omega), if_pos (by omega)]
      simp [Array.getElem?_setIfInBounds]
      omega
    · by_cases h2 : off + i ≤ j ∧ j < off + i + (l.length + 1)
      · rw [if_pos (by omega), if_pos h2]
        have : j - (off + i) = (j - (off + (i + 1))) + 1 := by omega
        rw [this, List.getElem?_cons_succ]
      · rw [if_neg (by omega), if_neg h2]
        rw [Array.getElem?_setIfInBounds, if_neg (by omega)]

theorem foldl_set_size (off : Nat) : ∀ (l : List (Value × Nat)) (base : Array Value), (l.foldl (fun cs p => cs.setIfInBounds (off + p.2) p.1) base).size = base.size
  | [], base => rfl
  | p :: l, base => by simp only [List.foldl_cons]; rw [foldl_set_size off l]; simp

/-- Parts put into a row of cells. -/
def fillD (place : Nat → Option (Nat × Nat)) (cells : List D) : List (Nat × D) → Option (List D)
  | [] => some cells
  | (i, d) :: rest =>
    match place i with
    | none => none
    | some (off, size) => if (cellsOf d).length = size ∧ off + size ≤ cells.length then fillD place (setMany cells off (cellsOf d)) rest else none

/-- Parts, evaluated. -/
inductive Parts (w : World) (H : Heap) : List (Nat × Value) → List (Nat × D) → Prop
  | nil : Parts w H [] []
  | cons {i : Nat} {v : Value} {d : D} {vs : List (Nat × Value)} {ds : List (Nat × D)} (h : Rep w H v d) (r : Parts w H vs ds) : Parts w H ((i, v) :: vs) ((i, d) :: ds)

theorem fill_rep {w : World} {H : Heap} (place : Nat → Option (Nat × Nat)) {parts : List (Nat × Value)} {pd : List (Nat × D)} (hp : Parts w H parts pd) :
    ∀ (cells : Array Value) (cd out : List D), RepsA w H cells cd → fillD place cd pd = some out → ∃ vs, Instr.fill place cells parts = some vs ∧ RepsA w H vs out := by
  induction hp with
  | nil =>
    intro cells cd out hc ho
    simp only [fillD, Option.some.injEq] at ho
    subst ho
    exact ⟨cells, rfl, hc⟩
  | cons h r ih =>
    rename_i i v d vs ds
    intro cells cd out hc ho
    simp only [fillD] at ho
    simp only [Instr.fill]
    cases hpl : place i with
    | none => simp [hpl] at ho
    | some os =>
      obtain ⟨off, size⟩ := os
      simp only [hpl] at ho ⊢
      split at ho
      · rename_i hcond
        have hv := rep_cells h
        have hs : v.cells.size = size := by rw [hv.1]; exact hcond.1
        have hfit : ¬ (v.cells.size ≠ size ∨ off + v.cells.size > cells.size) := by
          rw [hs, hc.1]; omega
        have hcond' : (decide (v.cells.size ≠ size) || decide (off + v.cells.size > cells.size)) = false := by
          simp only [Bool.or_eq_false_iff, decide_eq_false_iff_not]
          exact ⟨fun x => hfit (.inl x), fun x => hfit (.inr x)⟩
        rw [if_neg (by simp only [Bool.not_eq_true]; simpa using hcond')]
        refine ih _ _ out ?_ ho
        have hlen : off + (cellsOf d).length ≤ cd.length := by omega
        have hfold : ∀ base : Array Value, (v.cells.zipIdx.foldl (fun cs (x : Value × Nat) => match x with | (c, j) => cs.setIfInBounds (off + j) c) base) = (v.cells.toList.zipIdx.foldl (fun cs p => cs.setIfInBounds (off + p.2) p.1) base) := fun base => by
          rw [← Array.foldl_toList, Array.toList_zipIdx]
        rw [hfold]
        refine ⟨by rw [foldl_set_size, setMany_length hlen]; exact hc.1, fun j x hx => ?_⟩
        rw [setMany_get hlen] at hx
        have hg := foldl_set off v.cells.toList 0 cells j (by simp; rw [hs, hc.1]; omega)
        simp only [Nat.add_zero] at hg
        rw [hg]
        have hl2 : v.cells.toList.length = (cellsOf d).length := by simp [hv.1]
        rw [hl2]
        split at hx
        · rename_i hin
          rw [if_pos hin]
          obtain ⟨u, hu, hr⟩ := hv.2 _ x hx
          exact ⟨u, by simpa using hu, hr⟩
        · rename_i hout
          rw [if_neg hout]
          exact hc.2 j x hx
      · cases ho

section
variable {P : Program} {H : Heap} {e : Env} {dst : Option Tmp} {ty : TypeId} {pos : String} {af : Array Edge} {gd : Option (Nat × Bool)}

/-- A struct's fields: where each lies, how great it is. -/
def placesOf (P : Program) (fs : Array Field) : Option (Array (Nat × Nat)) := fs.mapM fun f => (P.info? f.type).map fun i => (f.offset, i.size)

theorem run_sizeOf {t : TypeId} {i : TypeInfo} (h : P.info? t = some i) (w : World) : (sizeOf t).run P w = .ok i.size w := by simp [sizeOf, typeInfo, h]
theorem run_typeInfo {t : TypeId} {i : TypeInfo} (h : P.info? t = some i) (w : World) : (typeInfo t).run P w = .ok i w := by simp [typeInfo, h]
theorem run_zeroValue {t : TypeId} {i : TypeInfo} {z : Value} (h : P.info? t = some i) (hz : i.zero = some z) (w : World) : (zeroValue t).run P w = .ok z w := by simp [zeroValue, typeInfo, h, hz]

theorem run_places (w : World) : ∀ (fs : List Field) (pl : List (Nat × Nat)), (fs.mapM fun f => (P.info? f.type).map fun i => (f.offset, i.size)) = some pl →
    (fs.mapM fun f => (do pure (f.offset, ← sizeOf f.type) : Sem (Nat × Nat))).run P w = .ok pl w
  | [], pl, h => by simp at h; subst h; simp
  | f :: fs, pl, h => by
    rw [List.mapM_cons] at h
    cases hi : P.info? f.type with
    | none => simp [hi] at h
    | some i =>
      simp only [hi, Option.map_some, Option.bind_eq_bind, Option.bind_some] at h
      cases hr : (fs.mapM fun f => (P.info? f.type).map fun i => (f.offset, i.size)) with
      | none => simp [hr] at h
      | some pl' =>
        simp [hr] at h
        subst h
        rw [List.mapM_cons]
        simp only [Sem.run_bind, run_sizeOf hi, Result.andThen_ok, Sem.run_pure, run_places w fs pl' hr]

def evParts (e : Env) : List (Nat × Operand) → Option (List (Nat × D))
  | [] => some []
  | (i, x) :: r => (e.ev x).bind fun d => (evParts e r).map fun ds => (i, d) :: ds

theorem parts_of {w : World} {ρ : Operand → Value} (ha : Agree ρ w H e) : ∀ (ps : List (Nat × Operand)) (pd : List (Nat × D)), evParts e ps = some pd → Parts w H (ps.map fun x => (x.1, ρ x.2)) pd
  | [], pd, h => by simp [evParts] at h; subst h; exact .nil
  | (i, x) :: r, pd, h => by
    simp only [evParts] at h
    cases hx : e.ev x with
    | none => simp [hx] at h
    | some d =>
      cases hr : evParts e r with
      | none => simp [hx, hr] at h
      | some ds =>
        simp [hx, hr] at h
        subst h
        exact .cons (ha x d hx) (parts_of ha r ds hr)

/-- Data that are literals. -/
def litV : D → Value
  | .int k n => .int k n
  | .bool b => .bool b
  | _ => .slice none 0 0
def litOk : D → Bool
  | .int _ _ | .bool _ | .nil => true
  | _ => false

theorem rep_lit (w : World) (H : Heap) {d : D} (h : litOk d = true) : Rep w H (litV d) d := by
  cases d <;> simp [litOk] at h <;> constructor

/-- A struct literal. -/
theorem sta_build {t : TypeId} {parts : Array (Nat × Operand)} {inf : TypeInfo} {fs : Array Field} {z : Value} {pl : Array (Nat × Nat)} {pd : List (Nat × D)} {zd out : List D}
    (hi : P.info? t = some inf) (hz : inf.zero = some z) (hu : P.underlying t = some (.struct fs)) (hpl : placesOf P fs = some pl) (hzd : z = .agg (zd.map litV).toArray)
    (hzc : zd.all litOk = true) (hp : evParts e parts.toList = some pd) (ho : fillD (pl[·]?) zd pd = some out) :
    Sta P H e ⟨dst, .build t parts, ty, pos, af, gd⟩ (.agg out) := .mk fun ρ w ha hok => by
  have hz2 : RepsA w H z.cells zd := by
    subst hzd
    refine ⟨by simp [Value.cells], fun j x hx => ?_⟩
    exact ⟨litV x, by simp [Value.cells, hx], rep_lit w H (List.all_eq_true.1 hzc x (List.mem_of_getElem? hx))⟩
  obtain ⟨vs, hf, hr⟩ := fill_rep (w := w) (H := H) (pl[·]?) (parts_of ha parts.toList pd hp) z.cells zd out hz2 ho
  have hpl' : (fs.mapM fun f => (do pure (f.offset, ← sizeOf f.type) : Sem (Nat × Nat))).run P w = .ok pl w := by
    have h1 : (fs.toList.mapM fun f => (P.info? f.type).map fun i => (f.offset, i.size)) = some pl.toList := by
      have := hpl
      unfold placesOf at this
      rw [← Array.toList_mapM, this]
      rfl
    have h2 := run_places (P := P) w fs.toList pl.toList h1
    rw [← Array.toArray_toList (xs := fs), List.mapM_toArray, Sem.run_map, h2]
    rfl
  simp only [OpTo, execOp, Instr.build, Sem.run_bind, run_zeroValue hi hz, run_underlying hu, Result.andThen_ok, hpl']
  have hmap : (Array.map (fun x => (x.1, ρ x.2)) parts).toList = parts.toList.map fun x => (x.1, ρ x.2) := by simp
  first
    | rw [hf]
    | (simp only [← hmap] at hf; rw [hf])
  simp
  exact ⟨hr.agg, hok, .refl _ _⟩

end
end Go.Proofs.Ytejpadofecboiaa
