/-
  More rules: a slice held against nil, a part of a mutable slice, rows of ints that are written. No condition.
-/
import Derived.Test.YtejpadofecboiaaT
import Derived.Test.YtejpadofecboiaaE16
import Derived.Lib.SliceRun
namespace Go.Proofs.Ytejpadofecboiaa
open Go.RowKit
set_option linter.unusedVariables false
set_option linter.unusedSimpArgs false

section
variable {P : Program} {H : Heap} {e : Env} {dst : Option Tmp} {ty : TypeId} {pos : String} {af : Array Edge} {gd : Option (Nat × Bool)}

/-- A list held against nil: one without elements may be, one with some is not. -/
theorem d_eqNil {t t2 E : TypeId} {x : Operand} {k bytes : Nat} {zd : List D} {l : List D} {K : D → Heap → Prop} [SliceT P t E] [ElT P E k zd bytes] (hx : e.ev x = some (.list k l)) (hK : ∀ b, (l ≠ [] → b = false) → K (.bool b) H) :
    OpD P H e ⟨dst, .binOp .eql t x (.const (.slice none 0 0)) t2, ty, pos, af, gd⟩ K := .mk fun ρ w ha ho => by
  have hk := ElT.pos (P := P) (E := E) (k := k) (zd := zd) (bytes := bytes)
  have h := ha x _ hx
  have hc := ha.const (.slice none 0 0)
  generalize hv : ρ x = v at h
  cases h with
  | list vals hcap hm h1 h2 h3 =>
    rename_i a c
    have hr := Lib.run_eql_slice_nil (P := P) w t E a l.length c 0 0 SliceT.h
    simp only [OpTo, execOp, hv, hc, eqGuard, Sem.run_bind, Sem.run_pure]
    simp [hr]
    refine ⟨_, _, hK a.isNone fun hne => ?_, .bool _, ho, .refl _ _⟩
    obtain ⟨d, l', rfl⟩ := List.exists_cons_of_ne_nil hne
    have hl : (cellsOf d).length = k := h1 0 d rfl
    have hcell : cellAt (d :: l') 0 0 = some ((cellsOf d)[0]'(by omega)) := by simp [cellAt]
    obtain ⟨b, off, ha', _, _⟩ := h2 0 0 _ hcell
    rw [ha']; rfl

/-- A part of a mutable slice. -/
theorem s_fromRef {t E : TypeId} {x y : Operand} {b off n k bytes m : Nat} {zd : List D} [SliceT P t E] [ElT P E k zd bytes] (hx : e.ev x = some (.ref b off n k)) (hy : e.ev y = some (I m)) (hm : m < n) :
    Sta P H e ⟨dst, .slice t x (some y) none none, ty, pos, af, gd⟩ (.ref b (off + m * k) (n - m) k) := .mk fun ρ w ha ho => by
  obtain ⟨inf, z, hi', hz1, hz2, hz3⟩ := (ElT.z (P := P) (E := E) (k := k) (zd := zd) (bytes := bytes)).is
  have h := ha x _ hx
  generalize hv : ρ x = v at h
  cases h with
  | ref hb hs hl hcm =>
    rename_i cap cs T
    have hbd := run_sliceBounds (P := P) (w := w) (n := n) (cap := cap) (a := m) (b := n) ha (lo := some y) (hi := none) (by simp [boundD, hy]) rfl (by omega) hl
    simp only [Option.map_some, Option.map_none] at hbd
    have hr : (Instr.sliceAt t (.slice (some ⟨b, off, none⟩) n cap) ((some y).map ρ) (Option.map ρ none) none).run P w = .ok (.slice (some ⟨b, off + m * k, none⟩) (n - m) (cap - m)) w := by
      have hne : ¬ cap = m := by omega
      simp only [Instr.sliceAt, Instr.slice, Sem.run_bind, run_underlying (SliceT.h (P := P) (t := t) (E := E)), Result.andThen_ok]
      simp [hbd, run_sizeOf hi', hne, addr_add, hz2]
    simp only [OpTo, execOp, hv, Sem.run_bind]
    simp only [Option.map_some, Option.map_none] at hr ⊢
    rw [hr]
    simp only [Result.andThen_ok, Sem.run_pure]
    refine ⟨.ref hb ?_ (by omega) (by omega), ho, .refl _ _⟩
    rw [← hs, Nat.add_assoc, ← Nat.add_mul]
    congr 2
    omega

/-- What stands behind the end of a mutable slice: nothing. -/
theorem s_fromRefEnd {t E : TypeId} {x y : Operand} {b off n k bytes : Nat} {zd : List D} [SliceT P t E] [ElT P E k zd bytes] (hx : e.ev x = some (.ref b off n k)) (hy : e.ev y = some (I n)) :
    Sta P H e ⟨dst, .slice t x (some y) none none, ty, pos, af, gd⟩ (.list k []) := .mk fun ρ w ha ho => by
  obtain ⟨inf, z, hi', hz1, hz2, hz3⟩ := (ElT.z (P := P) (E := E) (k := k) (zd := zd) (bytes := bytes)).is
  have h := ha x _ hx
  generalize hv : ρ x = v at h
  cases h with
  | ref hb hs hl hcm =>
    rename_i cap cs T
    have hbd := run_sliceBounds (P := P) (w := w) (n := n) (cap := cap) (a := n) (b := n) ha (lo := some y) (hi := none) (by simp [boundD, hy]) rfl (by omega) hl
    simp only [Option.map_some, Option.map_none] at hbd
    have hr : ∃ a, (Instr.sliceAt t (.slice (some ⟨b, off, none⟩) n cap) ((some y).map ρ) (Option.map ρ none) none).run P w = .ok (.slice a 0 (cap - n)) w := by
      simp only [Instr.sliceAt, Instr.slice, Sem.run_bind, run_underlying (SliceT.h (P := P) (t := t) (E := E)), Result.andThen_ok]
      simp [hbd, run_sizeOf hi']
    obtain ⟨a, hr⟩ := hr
    simp only [OpTo, execOp, hv, Sem.run_bind]
    simp only [Option.map_some, Option.map_none] at hr ⊢
    rw [hr]
    simp only [Result.andThen_ok, Sem.run_pure]
    exact ⟨Rep.list_nil _ _ _ (by omega), ho, .refl _ _⟩

/-- A place of a mutable slice of single cells. -/
theorem s_ixRef {t E : TypeId} {x y : Operand} {b off n bytes : Nat} {zd : List D} {i : Int} [SliceT P t E] [ElT P E 1 zd bytes] (hx : e.ev x = some (.ref b off n 1)) (hy : e.ev y = some (I i)) (h0 : 0 ≤ i) (hl : i.toNat < n) :
    Sta P H e ⟨dst, .indexAddr t x y, ty, pos, af, gd⟩ (.ptr b (off + i.toNat)) := by
  obtain ⟨j, rfl⟩ := Int.eq_ofNat_of_zero_le h0
  have := s_indexRef (P := P) (H := H) (dst := dst) (ty := ty) (pos := pos) (af := af) (gd := gd) (t := t) (E := E) (zd := zd) (bytes := bytes) hx hy (by simpa using hl)
  simpa using this

/-- An int of a row that is written. -/
theorem s_loadInt {t T0 : TypeId} {x : Operand} {b off : Nat} {l : List Int} [CellT P t] (hx : e.ev x = some (.ptr b off)) (hH : H b = some (T0, l.map I)) (hl : off < l.length) : Sta P H e ⟨dst, .load t x, ty, pos, af, gd⟩ (I l[off]) :=
  s_loadMut hx hH (by simp [hl])

theorem r_loadInt {t T0 : TypeId} {x : Operand} {b off : Nat} {l : List Int} [CellT P t] (hx : e.ev x = some (.ptr b off)) (hH : H b = some (T0, l.map I)) (hl : off < l.length) : ∀ H', Over H H' → Sta P H' e ⟨dst, .load t x, ty, pos, af, gd⟩ (I l[off]) :=
  fun H' hov => s_loadInt hx (hov _ _ hH) hl

theorem r_loadMut {t T0 : TypeId} {x : Operand} {b off : Nat} {cells : List D} {d : D} [CellT P t] (hx : e.ev x = some (.ptr b off)) (hH : H b = some (T0, cells)) (hc : cells[off]? = some d) : ∀ H', Over H H' → Sta P H' e ⟨dst, .load t x, ty, pos, af, gd⟩ d :=
  fun H' hov => s_loadMut hx (hov _ _ hH) hc

theorem r_loadMutAgg {t T0 : TypeId} {x : Operand} {b off k : Nat} {cells ds : List D} [AggT P t k] (hx : e.ev x = some (.ptr b off)) (hH : H b = some (T0, cells)) (hds : (cells.drop off).take k = ds) (hn : ds.length = k) : ∀ H', Over H H' → Sta P H' e ⟨dst, .load t x, ty, pos, af, gd⟩ (.agg ds) :=
  fun H' hov => s_loadMutAgg hx (hov _ _ hH) hds hn

/-- A term is written into a variable. -/
theorem d_storeTm {t T0 : TypeId} {x y : Operand} {b : Nat} {tm : Tm} {cells : List D} {K : D → Heap → Prop} [SizeT P t 2] (hx : e.ev x = some (.ptr b 0)) (hy : e.ev y = some (tmD tm)) (hH : H b = some (T0, cells)) (hl : cells.length = 2)
    (hK : K (.tup []) (H.set b (T0, [I tm.c, intsD tm.e]))) : OpD P H e ⟨dst, .store t x y, ty, pos, af, gd⟩ K := by
  refine d_store (k := 2) hx hy rfl hH (by show 0 + 2 ≤ cells.length; omega) (fun z hz => ?_) ?_
  · have hz' : z ∈ [I tm.c, intsD tm.e] := hz
    simp at hz'
    rcases hz' with rfl | rfl <;> rfl
  · have : setMany cells 0 (cellsOf (tmD tm)) = [I tm.c, intsD tm.e] := by
      show setMany cells 0 [I tm.c, intsD tm.e] = _
      match cells, hl with
      | [a, b], _ => rfl
    rw [this]
    exact hK

theorem setMany1 (l : List Int) (i : Nat) (x : Int) (h : i < l.length) : setMany (l.map I) i (cellsOf (I x)) = (l.set i x).map I := by
  have hc : cellsOf (I x) = [I x] := rfl
  rw [hc]
  apply List.ext_getElem?
  intro j
  rw [setMany_get (by simp; omega)]
  simp only [List.length_singleton]
  by_cases hj : j = i
  · subst hj
    rw [if_pos (by omega)]
    simp [h]
  · rw [if_neg (by omega)]
    simp [List.getElem?_set, Ne.symm hj]

/-- An int is written into a row. -/
theorem d_storeInt {t T0 : TypeId} {x y : Operand} {b off : Nat} {l : List Int} {n : Int} {K : D → Heap → Prop} [SizeT P t 1] (hx : e.ev x = some (.ptr b off)) (hy : e.ev y = some (I n)) (hH : H b = some (T0, l.map I)) (hl : off < l.length)
    (hK : K (.tup []) (H.set b (T0, (l.set off n).map I))) : OpD P H e ⟨dst, .store t x y, ty, pos, af, gd⟩ K :=
  d_store (k := 1) hx hy rfl hH (by simp [cellsOf]; omega) (by simp [cellsOf, D.isCell]) (by rw [setMany1 l off n hl]; exact hK)

end

theorem Heap.set_other (H : Heap) {b c : Nat} (x : TypeId × List D) (h : c ≠ b) : H.set b x c = H c := by simp [Heap.set, h]

theorem setManyD (l : List D) (i : Nat) (d : D) (hd : cellsOf d = [d]) (h : i < l.length) : setMany l i (cellsOf d) = l.set i d := by
  rw [hd]
  apply List.ext_getElem?
  intro j
  rw [setMany_get (by simp; omega)]
  simp only [List.length_singleton]
  by_cases hj : j = i
  · subst hj
    rw [if_pos (by omega)]
    simp [h]
  · rw [if_neg (by omega)]
    simp [List.getElem?_set, Ne.symm hj]

end Go.Proofs.Ytejpadofecboiaa
