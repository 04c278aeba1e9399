/-
  More static operations: memory that is read, slices, boxes that are never written again, calls of functions that are pure. No condition.
-/
import Derived.Test.YtejpadofecboiaaE3
namespace Go.Proofs.Ytejpadofecboiaa
open Go.RowKit
set_option linter.unusedVariables false
set_option linter.unusedSimpArgs false

theorem addr_add (b o j : Nat) : (⟨b, o, none⟩ : Addr).add j = ⟨b, o + j, none⟩ := by unfold Addr.add; split <;> simp_all

/-- Is a type's value a row of cells? -/
def aggD : TypeDesc → Bool
  | .struct _ => true
  | .array _ _ => true
  | _ => false

section
variable {P : Program} {H : Heap} {e : Env} {dst : Option Tmp} {ty : TypeId} {pos : String} {af : Array Edge} {gd : Option (Nat × Bool)}

theorem run_isAgg {t : TypeId} {d : TypeDesc} (h : P.underlying t = some d) (w : World) : (isAgg t).run P w = .ok (aggD d) w := by
  unfold isAgg
  rw [Sem.run_bind, run_underlying h]
  cases d <;> simp [aggD]

theorem run_load_cell {t : TypeId} {d : TypeDesc} (h : P.underlying t = some d) (hd : aggD d = false) (w : World) {a : Addr} {v : Value} (hc : w.cell? a = some v) :
    (Instr.loadAt t (.pointer (some a))).run P w = .ok v w := by
  simp [Instr.loadAt, Instr.sureAddr, loadVar, run_isAgg h, hd, load, Sem.run, hc]

theorem run_load_agg {t : TypeId} {d : TypeDesc} {inf : TypeInfo} (h : P.underlying t = some d) (hd : aggD d = true) (hi : P.info? t = some inf) (w : World) {a : Addr} {vs : List Value} (hl : vs.length = inf.size)
    (hc : ∀ (j : Nat) (v : Value), vs[j]? = some v → w.cell? (a.add j) = some v) : (Instr.loadAt t (.pointer (some a))).run P w = .ok (.agg vs.toArray) w := by
  have := run_loadCells_list (P := P) w a vs hc
  simp [Instr.loadAt, Instr.sureAddr, loadVar, run_isAgg h, hd, run_sizeOf hi, ← hl, this]

/-- A cell of an element of an immutable list. -/
theorem sta_load_cell {t : TypeId} {td : TypeDesc} {x : Operand} {k i j : Nat} {l : List D} {d : D} (hu : P.underlying t = some td) (hd : aggD td = false) (hx : e.ev x = some (.ipt k l i j)) (hc : cellAt l i j = some d) :
    Sta P H e ⟨dst, .load t x, ty, pos, af, gd⟩ d := .mk fun ρ w ha ho => by
  have h := ha x _ hx
  generalize hv : ρ x = v at h
  cases h with
  | ipt vals h1 h2 h3 =>
    simp [OpTo, execOp, hv, run_load_cell hu hd w (h2 i j d hc).2]
    exact ⟨h3 i j d hc, ho, .refl _ _⟩

/-- A struct within an element of an immutable list. -/
theorem sta_load_agg {t : TypeId} {td : TypeDesc} {inf : TypeInfo} {x : Operand} {k i j : Nat} {l : List D} {el : D} {ds : List D} (hu : P.underlying t = some td) (hd : aggD td = true) (hi : P.info? t = some inf)
    (hx : e.ev x = some (.ipt k l i j)) (hl : l[i]? = some el) (hds : ((cellsOf el).drop j).take inf.size = ds) (hn : ds.length = inf.size) :
    Sta P H e ⟨dst, .load t x, ty, pos, af, gd⟩ (.agg ds) := .mk fun ρ w ha ho => by
  have h := ha x _ hx
  generalize hv : ρ x = v at h
  cases h with
  | ipt vals h1 h2 h3 =>
    rename_i b off
    have hcell : ∀ (m : Nat) (y : D), ds[m]? = some y → cellAt l i (j + m) = some y := fun m y hy => by
      subst hds
      rw [List.getElem?_take] at hy
      split at hy
      · rw [List.getElem?_drop] at hy
        simp [cellAt, hl, hy]
      · cases hy
    have hvs : ∀ (m : Nat) (v : Value), ((List.range inf.size).map fun m => vals i (j + m))[m]? = some v → w.cell? ((⟨b, off + i * k + j, none⟩ : Addr).add m) = some v := fun m v hm => by
      simp only [List.getElem?_map, Option.map_eq_some_iff] at hm
      obtain ⟨m', hm', rfl⟩ := hm
      have hlt : m < inf.size := by
        have := (List.getElem?_eq_some_iff.1 hm').1
        simpa using this
      rw [List.getElem?_range hlt] at hm'
      cases hm'
      have hy : ds[m]? = some ds[m] := by simp [hn, hlt]
      have := (h2 i (j + m) _ (hcell m _ hy)).2
      rw [addr_add, Nat.add_assoc, this]
    rw [show (OpTo P ρ ⟨dst, .load t x, ty, pos, af, gd⟩ w) = fun K => OpTo P ρ ⟨dst, .load t x, ty, pos, af, gd⟩ w K from rfl]
    simp [OpTo, execOp, hv, run_load_agg hu hd hi w (by simp) hvs]
    refine ⟨RepsA.agg ⟨by simp [hn], fun m y hy => ?_⟩, ho, .refl _ _⟩
    have hlt : m < inf.size := by rw [← hn]; exact (List.getElem?_eq_some_iff.1 hy).1
    exact ⟨vals i (j + m), by simp [hlt], h3 i (j + m) y (hcell m y hy)⟩

/-- A whole element. -/
theorem sta_load_el {t : TypeId} {td : TypeDesc} {inf : TypeInfo} {x : Operand} {k i : Nat} {l : List D} {ds : List D} (hu : P.underlying t = some td) (hd : aggD td = true) (hi : P.info? t = some inf) (hs : inf.size = ds.length)
    (hx : e.ev x = some (.ipt k l i 0)) (hl : l[i]? = some (.agg ds)) : Sta P H e ⟨dst, .load t x, ty, pos, af, gd⟩ (.agg ds) :=
  sta_load_agg hu hd hi hx hl (by simp [cellsOf, hs]) hs.symm

/-- A cell of a mutable block. -/
theorem sta_load_mut {t T0 : TypeId} {td : TypeDesc} {x : Operand} {b off : Nat} {cells : List D} {d : D} (hu : P.underlying t = some td) (hd : aggD td = false) (hx : e.ev x = some (.ptr b off)) (hH : H b = some (T0, cells)) (hc : cells[off]? = some d) :
    Sta P H e ⟨dst, .load t x, ty, pos, af, gd⟩ d := .mk fun ρ w ha ho => by
  have h := rep_ptr (ha x _ hx)
  obtain ⟨cs, hb, _, hr⟩ := ho b T0 cells hH
  obtain ⟨_, v, hv, hrep⟩ := hr off d hc
  have hcell : w.cell? ⟨b, off, none⟩ = some v := by rw [cell_of_row w b off cs T0 (0, 0) hb]; exact hv
  simp [OpTo, execOp, h, run_load_cell hu hd w hcell]
  exact ⟨hrep, ho, .refl _ _⟩

/-- A struct in a mutable block. -/
theorem sta_load_mut_agg {t T0 : TypeId} {td : TypeDesc} {inf : TypeInfo} {x : Operand} {b off : Nat} {cells ds : List D} (hu : P.underlying t = some td) (hd : aggD td = true) (hi : P.info? t = some inf)
    (hx : e.ev x = some (.ptr b off)) (hH : H b = some (T0, cells)) (hds : (cells.drop off).take inf.size = ds) (hn : ds.length = inf.size) :
    Sta P H e ⟨dst, .load t x, ty, pos, af, gd⟩ (.agg ds) := .mk fun ρ w ha ho => by
  have h := rep_ptr (ha x _ hx)
  obtain ⟨cs, hb, hlen, hr⟩ := ho b T0 cells hH
  have hcell : ∀ (m : Nat) (y : D), ds[m]? = some y → cells[off + m]? = some y := fun m y hy => by
    subst hds
    rw [List.getElem?_take] at hy
    split at hy
    · rwa [List.getElem?_drop] at hy
    · cases hy
  have hvs : ∀ (m : Nat) (v : Value), ((List.range inf.size).map fun m => cs.getD (off + m) undef)[m]? = some v → w.cell? ((⟨b, off, none⟩ : Addr).add m) = some v := fun m v hm => by
    simp only [List.getElem?_map, Option.map_eq_some_iff] at hm
    obtain ⟨m', hm', rfl⟩ := hm
    have hlt : m < inf.size := by
      have := (List.getElem?_eq_some_iff.1 hm').1
      simpa using this
    rw [List.getElem?_range hlt] at hm'
    cases hm'
    have hy : ds[m]? = some ds[m] := by simp [hn, hlt]
    obtain ⟨_, u, hu', _⟩ := hr (off + m) _ (hcell m _ hy)
    rw [addr_add, cell_of_row w b (off + m) cs T0 (0, 0) hb, hu']
    simp [Array.getD_eq_getD_getElem?, hu']
  simp [OpTo, execOp, h, run_load_agg hu hd hi w (by simp) hvs]
  refine ⟨RepsA.agg ⟨by simp [hn], fun m y hy => ?_⟩, ho, .refl _ _⟩
  have hlt : m < inf.size := by rw [← hn]; exact (List.getElem?_eq_some_iff.1 hy).1
  obtain ⟨_, u, hu', hrep⟩ := hr (off + m) y (hcell m y hy)
  exact ⟨u, by simp [hlt, Array.getD_eq_getD_getElem?, hu'], hrep⟩

theorem run_fieldAt {t : TypeId} {fs : Array Field} {f : Nat} {fl : Field} {inf : TypeInfo} (hu : P.underlying t = some (.struct fs)) (hf : fs[f]? = some fl) (hi : P.info? fl.type = some inf) (hs : inf.size ≠ 0) (w : World) (b o : Nat) :
    (Instr.fieldAt t (.pointer (some ⟨b, o, none⟩)) f).run P w = .ok (.pointer (some ⟨b, o + fl.offset, none⟩)) w := by
  simp [Instr.fieldAt, run_underlying hu, hf, Instr.sureAddr, fieldPlace, run_sizeOf hi, hs, addr_add]

/-- What a type's field is: where it lies. -/
def fieldOff (P : Program) (t : TypeId) (f : Nat) : Option Nat :=
  match P.underlying t with
  | some (.struct fs) => (fs[f]?).bind fun fl => (P.info? fl.type).bind fun i => if i.size = 0 then none else some fl.offset
  | _ => none

theorem run_fieldOff {t : TypeId} {f o : Nat} (h : fieldOff P t f = some o) (w : World) (b off : Nat) :
    (Instr.fieldAt t (.pointer (some ⟨b, off, none⟩)) f).run P w = .ok (.pointer (some ⟨b, off + o, none⟩)) w := by
  unfold fieldOff at h
  split at h
  · rename_i fs hu
    cases hf : fs[f]? with
    | none => simp [hf] at h
    | some fl =>
      cases hi : P.info? fl.type with
      | none => simp [hf, hi] at h
      | some i =>
        simp only [hf, hi, Option.bind_some] at h
        split at h
        · cases h
        · rename_i hs
          cases h
          exact run_fieldAt hu hf hi hs w b off
  · cases h

theorem sta_fieldAddr_ipt {t : TypeId} {x : Operand} {f o k i j : Nat} {l : List D} (hf : fieldOff P t f = some o) (hx : e.ev x = some (.ipt k l i j)) :
    Sta P H e ⟨dst, .fieldAddr t x f, ty, pos, af, gd⟩ (.ipt k l i (j + o)) := .mk fun ρ w ha ho => by
  have h := ha x _ hx
  generalize hv : ρ x = v at h
  cases h with
  | ipt vals h1 h2 h3 =>
    simp [OpTo, execOp, hv, run_fieldOff hf, Nat.add_assoc]
    rw [← Nat.add_assoc]
    exact ⟨.ipt vals h1 h2 h3, ho, .refl _ _⟩

theorem sta_fieldAddr_ptr {t : TypeId} {x : Operand} {f o b off : Nat} (hf : fieldOff P t f = some o) (hx : e.ev x = some (.ptr b off)) :
    Sta P H e ⟨dst, .fieldAddr t x f, ty, pos, af, gd⟩ (.ptr b (off + o)) := .mk fun ρ w ha ho => by
  have h := rep_ptr (ha x _ hx)
  simp [OpTo, execOp, h, run_fieldOff hf]
  exact ⟨.ptr _ _, ho, .refl _ _⟩

theorem sta_indexAddr_ref {x y : Operand} {t E : TypeId} {inf : TypeInfo} {k b off n : Nat} {kd : IntKind} {i : Int} (hu : P.underlying t = some (.slice E)) (hi : P.info? E = some inf)
    (hs : inf.size = k) (hx : e.ev x = some (.ref b off n k)) (hy : e.ev y = some (.int kd i)) (h0 : 0 ≤ i) (hl : i < n) :
    Sta P H e ⟨dst, .indexAddr t x y, ty, pos, af, gd⟩ (.ptr b (off + i.toNat * k)) := .mk fun ρ w ha ho => by
  have h := ha x _ hx
  have h2 := rep_int (ha y _ hy)
  generalize hv : ρ x = v at h
  cases h with
  | ref hb hs' hl' hm =>
    obtain ⟨m, rfl⟩ := Int.eq_ofNat_of_zero_le h0
    have hn : m < n := by omega
    simp [OpTo, execOp, Instr.indexAt, hv, h2, asIntOf, sizeOf, typeInfo, run_underlying hu, hi, hn, addr_add, hs]
    exact ⟨.ptr _ _, ho, .refl _ _⟩

theorem sta_makeFunc {f : FuncId} {caps : Array Operand} {ds : List D} (hc : evParts e (caps.toList.map fun x => (0, x)) = some (ds.map fun d => (0, d))) :
    Sta P H e ⟨dst, .makeFunc (.func f) #[] caps, ty, pos, af, gd⟩ (.fn f ds) := .mk fun ρ w ha ho => by
  have hp := parts_of (H := H) ha _ _ hc
  have key : ∀ (l : List Operand) (ds : List D), Parts w H ((l.map fun x => ((0 : Nat), x)).map fun x => (x.1, ρ x.2)) (ds.map fun d => (0, d)) → RepsA w H (l.map ρ).toArray ds := by
    intro l
    induction l with
    | nil =>
      intro ds h
      cases ds with
      | nil => exact ⟨rfl, fun j x hx => by simp at hx⟩
      | cons d ds => simp at h; cases h
    | cons x l ih =>
      intro ds h
      cases ds with
      | nil => simp at h; cases h
      | cons d ds =>
        simp only [List.map_cons] at h
        cases h with
        | cons h r =>
          have hr := ih ds r
          refine ⟨by simpa using hr.1, fun j y hy => ?_⟩
          cases j with
          | zero => simp at hy; subst hy; exact ⟨ρ x, by simp, h⟩
          | succ j =>
            simp at hy
            obtain ⟨v, hv, hrep⟩ := hr.2 j y hy
            exact ⟨v, by simpa using hv, hrep⟩
  have := (key caps.toList ds hp).fn f
  simp [OpTo, execOp, Instr.makeFunc]
  refine ⟨?_, ho, .refl _ _⟩
  have he : caps.map ρ = (caps.toList.map ρ).toArray := by apply Array.ext'; simp
  rw [he]
  exact this

/-- A slice's bound. -/
def boundD (e : Env) : Option Operand → Nat → Option Nat
  | none, n => some n
  | some x, _ => match e.ev x with
    | some (.int .i64 i) => if 0 ≤ i then some i.toNat else none
    | _ => none

theorem bound_some {ρ : Operand → Value} {w : World} (ha : Agree ρ w H e) {x : Operand} {n m : Nat} (h : boundD e (some x) n = some m) : ρ x = .int .i64 m := by
  simp only [boundD] at h
  split at h
  · rename_i i hx
    split at h
    · rename_i h0
      cases h
      rw [rep_int (ha x _ hx)]
      congr
      omega
    · cases h
  · cases h

theorem run_sliceBounds {ρ : Operand → Value} {w : World} (ha : Agree ρ w H e) {lo hi : Option Operand} {n cap a b : Nat} (hlo : boundD e lo 0 = some a) (hhi : boundD e hi n = some b) (hab : a ≤ b) (hbc : b ≤ cap) :
    (Instr.sliceBounds true n cap (lo.map ρ) (hi.map ρ) none).run P w = .ok (a, b, cap) w := by
  have h1 : ((match hi.map ρ, (none : Option Value) with
    | some v, some _ => Instr.sliceBound v cap .slice3B
    | some v, none => Instr.sliceBound v cap .sliceAcap
    | none, none => pure n
    | none, some _ => stuck "Slice: max without high" : Sem Nat)).run P w = .ok b w := by
    cases hi with
    | none => simp [boundD] at hhi; subst hhi; simp
    | some x =>
      have := bound_some ha hhi
      simp [Instr.sliceBound, this, asIntOf, hbc]
  cases lo with
  | none =>
    simp [boundD] at hlo
    subst hlo
    cases hi with
    | none => simp [boundD] at hhi; subst hhi; simp [Instr.sliceBounds]
    | some x =>
      have := bound_some ha hhi
      simp [Instr.sliceBounds, Instr.sliceBound, this, asIntOf, hbc]
  | some y =>
    have hy := bound_some ha hlo
    cases hi with
    | none => simp [boundD] at hhi; subst hhi; simp [Instr.sliceBounds, Instr.sliceBound, hy, asIntOf, hab]
    | some x =>
      have := bound_some ha hhi
      simp [Instr.sliceBounds, Instr.sliceBound, this, hy, asIntOf, hbc, hab]

theorem cellAt_cut {l : List D} {a b i j : Nat} {x : D} (h : cellAt ((l.take b).drop a) i j = some x) : cellAt l (a + i) j = some x := by
  simp only [cellAt, List.getElem?_drop, List.getElem?_take] at h ⊢
  split at h
  · exact h
  · cases h

theorem sta_slice_list {t E : TypeId} {inf : TypeInfo} {x : Operand} {lo hi : Option Operand} {k a b : Nat} {l : List D} (hu : P.underlying t = some (.slice E)) (hi' : P.info? E = some inf) (hs : inf.size = k)
    (hx : e.ev x = some (.list k l)) (hlo : boundD e lo 0 = some a) (hhi : boundD e hi l.length = some b) (hab : a ≤ b) (hb : b ≤ l.length) :
    Sta P H e ⟨dst, .slice t x lo hi none, ty, pos, af, gd⟩ (.list k ((l.take b).drop a)) := .mk fun ρ w ha ho => by
  have h := ha x _ hx
  generalize hv : ρ x = v at h
  cases h with
  | list vals hc hm h1 h2 h3 =>
    rename_i ao c
    have hbd := run_sliceBounds (P := P) ha hlo hhi hab (Nat.le_trans hb hc)
    have hr : (Instr.sliceAt t (.slice ao l.length c) (lo.map ρ) (hi.map ρ) none).run P w = .ok (.slice (if c = a then ao else ao.map (·.add (a * inf.size))) (b - a) (c - a)) w := by
      simp [Instr.sliceAt, Instr.slice, run_underlying hu, hbd, run_sizeOf hi']
    simp [OpTo, execOp, hv, hr]
    refine ⟨?_, ho, .refl _ _⟩
    have hlen : b - a = ((l.take b).drop a).length := by simp; omega
    rw [hlen]
    refine .list (fun i j => vals (a + i) j) (by rw [← hlen]; omega) (by omega) (fun i d hd => ?_) (fun i j y hy => ?_) (fun i j y hy => h3 _ _ _ (cellAt_cut hy))
    · refine h1 (a + i) d ?_
      simp only [List.getElem?_drop, List.getElem?_take] at hd
      split at hd
      · exact hd
      · cases hd
    · obtain ⟨b', off, ha', hH, hw⟩ := h2 _ _ _ (cellAt_cut hy)
      have hlt : i < b - a := by
        rw [hlen]
        simp only [cellAt] at hy
        cases hq : ((l.take b).drop a)[i]? with
        | none => simp [hq] at hy
        | some q => exact (List.getElem?_eq_some_iff.1 hq).1
      have hne : ¬ c = a := by omega
      subst ha'
      refine ⟨b', off + a * k, ?_, hH, ?_⟩
      · simp [hne, addr_add, hs]
      · rw [← hw]; congr 2; rw [Nat.add_mul]; omega

theorem sta_slice_nil {t E : TypeId} {inf : TypeInfo} {x : Operand} {lo hi : Option Operand} {k : Nat} (hu : P.underlying t = some (.slice E)) (hi' : P.info? E = some inf) (hx : e.ev x = some .nil) (hlo : boundD e lo 0 = some 0) (hhi : boundD e hi 0 = some 0) :
    Sta P H e ⟨dst, .slice t x lo hi none, ty, pos, af, gd⟩ .nil := .mk fun ρ w ha ho => by
  have h := ha x _ hx
  generalize hv : ρ x = v at h
  cases h with
  | nil ao =>
    have hbd := run_sliceBounds (P := P) (n := 0) (cap := 0) ha hlo hhi (Nat.le_refl _) (Nat.le_refl _)
    simp [OpTo, execOp, hv, Instr.sliceAt, Instr.slice, run_underlying hu, hbd, run_sizeOf hi']
    exact ⟨.nil _, ho, .refl _ _⟩

/-- The cells of a list that lie in a row. -/
theorem row_vals {w : World} {H : Heap} {b : Nat} {T : TypeId} {cs : Array Value} {fr : Nat × Nat} {l : List D} {k : Nat} (hb : w.heap[b]? = some (.cells cs T fr)) (h1 : ∀ (i : Nat) (d : D), l[i]? = some d → (cellsOf d).length = k)
    (hr : ∀ (j : Nat) (x : D), (l.flatMap cellsOf)[j]? = some x → ∃ v, cs[j]? = some v ∧ Rep w H v x) :
    ∀ (i j : Nat) (x : D), cellAt l i j = some x → w.cell? ⟨b, 0 + i * k + j, none⟩ = some (cs.getD (i * k + j) undef) ∧ Rep w H (cs.getD (i * k + j) undef) x := by
  have hflat : ∀ (l : List D), (∀ (i : Nat) (d : D), l[i]? = some d → (cellsOf d).length = k) → ∀ (i j : Nat) (x : D), cellAt l i j = some x → (l.flatMap cellsOf)[i * k + j]? = some x := by
    intro l
    induction l with
    | nil => intro _ i j x hx; simp [cellAt] at hx
    | cons d l ih =>
      intro hk i j x hx
      have hd : (cellsOf d).length = k := hk 0 d rfl
      cases i with
      | zero =>
        simp [cellAt] at hx
        simp only [List.flatMap_cons, Nat.zero_mul, Nat.zero_add]
        rw [List.getElem?_append_left (List.getElem?_eq_some_iff.1 hx).1]
        exact hx
      | succ i =>
        simp only [List.flatMap_cons]
        rw [List.getElem?_append_right (by rw [hd, Nat.add_mul]; omega)]
        have := ih (fun i d h => hk (i + 1) d (by simpa using h)) i j x (by simpa [cellAt] using hx)
        rw [← this]
        congr 1
        rw [hd, Nat.add_mul]; omega
  intro i j x hx
  obtain ⟨v, hv, hrep⟩ := hr _ x (hflat l h1 i j x hx)
  rw [Nat.zero_add, cell_of_row w b _ cs T fr hb, hv]
  simp [Array.getD_eq_getD_getElem?, hv, hrep]

/-- A list out of a new row of cells. -/
theorem rep_row {w : World} {H : Heap} {b : Nat} {T : TypeId} {cs : Array Value} {fr : Nat × Nat} {l : List D} {k cap : Nat} (hb : w.heap[b]? = some (.cells cs T fr)) (hH : H b = none) (h1 : ∀ (i : Nat) (d : D), l[i]? = some d → (cellsOf d).length = k)
    (hr : ∀ (j : Nat) (x : D), (l.flatMap cellsOf)[j]? = some x → ∃ v, cs[j]? = some v ∧ Rep w H v x) (hc : l.length ≤ cap) (hm : cap ≤ maxLen) : Rep w H (.slice (some ⟨b, 0, none⟩) l.length cap) (.list k l) :=
  .list (fun i j => cs.getD (i * k + j) undef) hc hm h1 (fun i j x hx => ⟨b, 0, rfl, hH, (row_vals hb h1 hr i j x hx).1⟩) (fun i j x hx => (row_vals hb h1 hr i j x hx).2)

/-- A box that is never written again. -/
theorem sta_box {t : TypeId} {x : Operand} {d : D} {k : Nat} (hx : e.ev x = some d) (hk : (cellsOf d).length = k) : Sta P H e ⟨dst, .box t x, ty, pos, af, gd⟩ (.ipt k [d] 0 0) := .mk fun ρ w ha ho => by
  have h := ha x d hx
  have hc := rep_cells h
  simp [OpTo, execOp, Instr.box, newVar, newRow, newObj, Sem.run]
  refine ⟨?_, ho.alloc _, Ext.alloc w H _⟩
  have hb := heap_alloc_new w (.cells (ρ x).cells t)
  have h1 : ∀ (i : Nat) (y : D), [d][i]? = some y → (cellsOf y).length = k := fun i y hy => by
    cases i with
    | zero => simp at hy; subst hy; exact hk
    | succ i => simp at hy
  have hr : ∀ (j : Nat) (y : D), ([d].flatMap cellsOf)[j]? = some y → ∃ v, (ρ x).cells[j]? = some v ∧ Rep (w.alloc (.cells (ρ x).cells t)) H v y := fun j y hy => by
    simp at hy
    obtain ⟨v, hv, hr⟩ := hc.2 j y hy
    exact ⟨v, hv, hr.ext (Ext.alloc w H _)⟩
  have := Rep.ipt (w := w.alloc (.cells (ρ x).cells t)) (H := H) (k := k) (l := [d]) (b := w.heap.size) (off := 0) (i := 0) (j := 0) _ h1
    (fun i j y hy => ⟨ho.fresh, (row_vals hb h1 hr i j y hy).1⟩) (fun i j y hy => (row_vals hb h1 hr i j y hy).2)
  simpa using this

end
end Go.Proofs.Ytejpadofecboiaa
