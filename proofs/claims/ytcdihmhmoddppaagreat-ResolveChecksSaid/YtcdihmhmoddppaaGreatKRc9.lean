/-
  Parts of one's own slices; appends from them; ways that meet behind a loop. No condition.
-/
import Derived.Test.YtcdihmhmoddppaaGreatKRc8
import Derived.Test.YtcdihmhmoddppaaGreatKRc5
import Derived.Lib.SliceRun
import Derived.ArgAppend

namespace Go.Proofs.YtcdihmhmoddppaaGreat
open Go.RowKit
set_option linter.unusedVariables false
set_option linter.unusedSimpArgs false

section
variable {P : Program} {H : Heap} {e : Env} {dst : Option Tmp} {ty : TypeId} {pos : String} {af : Array Edge} {gd : Option (Nat × Bool)}

/-- A list held against nil: one without elements may be, one with some is not. -/
theorem d_eqNil {t t2 E : TypeId} {x : Operand} {k bytes : Nat} {zd : List D} {l : List D} {K : D → Heap → Prop} [SliceT P t E] [ElT P E k zd bytes] (hx : e.ev x = some (.list k l)) (hK : ∀ b, (l ≠ [] → b = false) → K (.bool b) H) :
    OpD P H e ⟨dst, .binOp .eql t x (.const (.slice none 0 0)) t2, ty, pos, af, gd⟩ K := .mk fun ρ w ha ho => by
  have hk := ElT.pos (P := P) (E := E) (k := k) (zd := zd) (bytes := bytes)
  have h := ha x _ hx
  have hc := ha.const (.slice none 0 0)
  generalize hv : ρ x = v at h
  cases h with
  | list vals hcap hm h1 h2 h3 =>
    rename_i a c
    have hr := Lib.run_eql_slice_nil (P := P) w t E a l.length c 0 0 SliceT.h
    simp only [OpTo, execOp, hv, hc, eqGuard, Sem.run_bind, Sem.run_pure]
    simp [hr]
    refine ⟨_, _, hK a.isNone fun hne => ?_, .bool _, ho, .refl _ _⟩
    obtain ⟨d, l', rfl⟩ := List.exists_cons_of_ne_nil hne
    have hl : (cellsOf d).length = k := h1 0 d rfl
    have hcell : cellAt (d :: l') 0 0 = some ((cellsOf d)[0]'(by omega)) := by simp [cellAt]
    obtain ⟨b, off, ha', _, _⟩ := h2 0 0 _ hcell
    rw [ha']; rfl

/-- A part of a mutable slice. -/
theorem s_fromRef {t E : TypeId} {x y : Operand} {b off n k bytes m : Nat} {zd : List D} [SliceT P t E] [ElT P E k zd bytes] (hx : e.ev x = some (.ref b off n k)) (hy : e.ev y = some (I m)) (hm : m < n) :
    Sta P H e ⟨dst, .slice t x (some y) none none, ty, pos, af, gd⟩ (.ref b (off + m * k) (n - m) k) := .mk fun ρ w ha ho => by
  obtain ⟨inf, z, hi', hz1, hz2, hz3⟩ := (ElT.z (P := P) (E := E) (k := k) (zd := zd) (bytes := bytes)).is
  have h := ha x _ hx
  generalize hv : ρ x = v at h
  cases h with
  | ref hb hs hl hcm =>
    rename_i cap cs T
    have hbd := run_sliceBounds (P := P) (w := w) (n := n) (cap := cap) (a := m) (b := n) ha (lo := some y) (hi := none) (by simp [boundD, hy]) rfl (by omega) hl
    simp only [Option.map_some, Option.map_none] at hbd
    have hr : (Instr.sliceAt t (.slice (some ⟨b, off, none⟩) n cap) ((some y).map ρ) (Option.map ρ none) none).run P w = .ok (.slice (some ⟨b, off + m * k, none⟩) (n - m) (cap - m)) w := by
      have hne : ¬ cap = m := by omega
      simp only [Instr.sliceAt, Instr.slice, Sem.run_bind, run_underlying (SliceT.h (P := P) (t := t) (E := E)), Result.andThen_ok]
      simp [hbd, run_sizeOf hi', hne, addr_add, hz2]
    simp only [OpTo, execOp, hv, Sem.run_bind]
    simp only [Option.map_some, Option.map_none] at hr ⊢
    rw [hr]
    simp only [Result.andThen_ok, Sem.run_pure]
    refine ⟨.ref hb ?_ (by omega) (by omega), ho, .refl _ _⟩
    rw [← hs, Nat.add_assoc, ← Nat.add_mul]
    congr 2
    omega

/-- What stands behind the end of a mutable slice: nothing. -/
theorem s_fromRefEnd {t E : TypeId} {x y : Operand} {b off n k bytes : Nat} {zd : List D} [SliceT P t E] [ElT P E k zd bytes] (hx : e.ev x = some (.ref b off n k)) (hy : e.ev y = some (I n)) :
    Sta P H e ⟨dst, .slice t x (some y) none none, ty, pos, af, gd⟩ (.list k []) := .mk fun ρ w ha ho => by
  obtain ⟨inf, z, hi', hz1, hz2, hz3⟩ := (ElT.z (P := P) (E := E) (k := k) (zd := zd) (bytes := bytes)).is
  have h := ha x _ hx
  generalize hv : ρ x = v at h
  cases h with
  | ref hb hs hl hcm =>
    rename_i cap cs T
    have hbd := run_sliceBounds (P := P) (w := w) (n := n) (cap := cap) (a := n) (b := n) ha (lo := some y) (hi := none) (by simp [boundD, hy]) rfl (by omega) hl
    simp only [Option.map_some, Option.map_none] at hbd
    have hr : ∃ a, (Instr.sliceAt t (.slice (some ⟨b, off, none⟩) n cap) ((some y).map ρ) (Option.map ρ none) none).run P w = .ok (.slice a 0 (cap - n)) w := by
      simp only [Instr.sliceAt, Instr.slice, Sem.run_bind, run_underlying (SliceT.h (P := P) (t := t) (E := E)), Result.andThen_ok]
      simp [hbd, run_sizeOf hi']
    obtain ⟨a, hr⟩ := hr
    simp only [OpTo, execOp, hv, Sem.run_bind]
    simp only [Option.map_some, Option.map_none] at hr ⊢
    rw [hr]
    simp only [Result.andThen_ok, Sem.run_pure]
    exact ⟨Rep.list_nil _ _ _ (by omega), ho, .refl _ _⟩

/-- A place of a mutable slice of single cells. -/
theorem s_ixRef {t E : TypeId} {x y : Operand} {b off n bytes : Nat} {zd : List D} {i : Int} [SliceT P t E] [ElT P E 1 zd bytes] (hx : e.ev x = some (.ref b off n 1)) (hy : e.ev y = some (I i)) (h0 : 0 ≤ i) (hl : i.toNat < n) :
    Sta P H e ⟨dst, .indexAddr t x y, ty, pos, af, gd⟩ (.ptr b (off + i.toNat)) := by
  obtain ⟨j, rfl⟩ := Int.eq_ofNat_of_zero_le h0
  have := s_indexRef (P := P) (H := H) (dst := dst) (ty := ty) (pos := pos) (af := af) (gd := gd) (t := t) (E := E) (zd := zd) (bytes := bytes) hx hy (by simpa using hl)
  simpa using this

/-- An int of a row that is written. -/
theorem s_loadInt {t T0 : TypeId} {x : Operand} {b off : Nat} {l : List Int} [CellT P t] (hx : e.ev x = some (.ptr b off)) (hH : H b = some (T0, l.map I)) (hl : off < l.length) : Sta P H e ⟨dst, .load t x, ty, pos, af, gd⟩ (I l[off]) :=
  s_loadMut hx hH (by simp [hl])

theorem r_loadInt {t T0 : TypeId} {x : Operand} {b off : Nat} {l : List Int} [CellT P t] (hx : e.ev x = some (.ptr b off)) (hH : H b = some (T0, l.map I)) (hl : off < l.length) : ∀ H', Over H H' → Sta P H' e ⟨dst, .load t x, ty, pos, af, gd⟩ (I l[off]) :=
  fun H' hov => s_loadInt hx (hov _ _ hH) hl

theorem r_loadMut {t T0 : TypeId} {x : Operand} {b off : Nat} {cells : List D} {d : D} [CellT P t] (hx : e.ev x = some (.ptr b off)) (hH : H b = some (T0, cells)) (hc : cells[off]? = some d) : ∀ H', Over H H' → Sta P H' e ⟨dst, .load t x, ty, pos, af, gd⟩ d :=
  fun H' hov => s_loadMut hx (hov _ _ hH) hc

theorem r_loadMutAgg {t T0 : TypeId} {x : Operand} {b off k : Nat} {cells ds : List D} [AggT P t k] (hx : e.ev x = some (.ptr b off)) (hH : H b = some (T0, cells)) (hds : (cells.drop off).take k = ds) (hn : ds.length = k) : ∀ H', Over H H' → Sta P H' e ⟨dst, .load t x, ty, pos, af, gd⟩ (.agg ds) :=
  fun H' hov => s_loadMutAgg hx (hov _ _ hH) hds hn

/-- A term is written into a variable. -/
theorem d_storeTm {t T0 : TypeId} {x y : Operand} {b : Nat} {tm : Tm} {cells : List D} {K : D → Heap → Prop} [SizeT P t 2] (hx : e.ev x = some (.ptr b 0)) (hy : e.ev y = some (tmD tm)) (hH : H b = some (T0, cells)) (hl : cells.length = 2)
    (hK : K (.tup []) (H.set b (T0, [I tm.c, intsD tm.e]))) : OpD P H e ⟨dst, .store t x y, ty, pos, af, gd⟩ K := by
  refine d_store (k := 2) hx hy rfl hH (by show 0 + 2 ≤ cells.length; omega) (fun z hz => ?_) ?_
  · have hz' : z ∈ [I tm.c, intsD tm.e] := hz
    simp at hz'
    rcases hz' with rfl | rfl <;> rfl
  · have : setMany cells 0 (cellsOf (tmD tm)) = [I tm.c, intsD tm.e] := by
      show setMany cells 0 [I tm.c, intsD tm.e] = _
      match cells, hl with
      | [a, b], _ => rfl
    rw [this]
    exact hK

theorem setMany1 (l : List Int) (i : Nat) (x : Int) (h : i < l.length) : setMany (l.map I) i (cellsOf (I x)) = (l.set i x).map I := by
  have hc : cellsOf (I x) = [I x] := rfl
  rw [hc]
  apply List.ext_getElem?
  intro j
  rw [setMany_get (by simp; omega)]
  simp only [List.length_singleton]
  by_cases hj : j = i
  · subst hj
    rw [if_pos (by omega)]
    simp [h]
  · rw [if_neg (by omega)]
    simp [List.getElem?_set, Ne.symm hj]

/-- An int is written into a row. -/
theorem d_storeInt {t T0 : TypeId} {x y : Operand} {b off : Nat} {l : List Int} {n : Int} {K : D → Heap → Prop} [SizeT P t 1] (hx : e.ev x = some (.ptr b off)) (hy : e.ev y = some (I n)) (hH : H b = some (T0, l.map I)) (hl : off < l.length)
    (hK : K (.tup []) (H.set b (T0, (l.set off n).map I))) : OpD P H e ⟨dst, .store t x y, ty, pos, af, gd⟩ K :=
  d_store (k := 1) hx hy rfl hH (by simp [cellsOf]; omega) (by simp [cellsOf, D.isCell]) (by rw [setMany1 l off n hl]; exact hK)

end

theorem Heap.set_other (H : Heap) {b c : Nat} (x : TypeId × List D) (h : c ≠ b) : H.set b x c = H c := by simp [Heap.set, h]

theorem setManyD (l : List D) (i : Nat) (d : D) (hd : cellsOf d = [d]) (h : i < l.length) : setMany l i (cellsOf d) = l.set i d := by
  rw [hd]
  apply List.ext_getElem?
  intro j
  rw [setMany_get (by simp; omega)]
  simp only [List.length_singleton]
  by_cases hj : j = i
  · subst hj
    rw [if_pos (by omega)]
    simp [h]
  · rw [if_neg (by omega)]
    simp [List.getElem?_set, Ne.symm hj]

end Go.Proofs.YtcdihmhmoddppaaGreat

namespace Go.Proofs.YtcdihmhmoddppaaGreat
open Go.RowKit
set_option linter.unusedVariables false
set_option linter.unusedSimpArgs false

/-- A datum, seen as another one: nil as a list without elements. -/
def Seen (d' d : D) : Prop := d' = d ∨ (d' = .nil ∧ ∃ k, d = .list k [])

theorem Seen.rep {w : World} {H : Heap} {v : Value} {d' d : D} (h : Seen d' d) (hr : Rep w H v d') : Rep w H v d := by
  rcases h with rfl | ⟨rfl, k, rfl⟩
  · exact hr
  · exact hr.nil_list k

def HasN (e : Env) : Env → Prop
  | [] => True
  | (t, d) :: r => (∃ d', e.get t = some d' ∧ Seen d' d) ∧ HasN e r

theorem HasN.get {e : Env} : ∀ {l : Env} {t : Nat} {d : D}, HasN e l → l.get t = some d → ∃ d', e.get t = some d' ∧ Seen d' d
  | [], t, d, _, h => by simp [Env.get] at h
  | (s, x) :: r, t, d, ⟨h1, h2⟩, h => by
    rw [Env.get_cons] at h
    split at h
    · rename_i hst; subst hst; cases h; exact h1
    · exact HasN.get h2 h

theorem HasN.one {e : Env} {t : Nat} {d : D} {l : Env} (h : e.get t = some d) (r : HasN e l) : HasN e ((t, d) :: l) := ⟨⟨d, h, .inl rfl⟩, r⟩
theorem HasN.nil1 {e : Env} {t k : Nat} {l : Env} (h : e.get t = some .nil) (r : HasN e l) : HasN e ((t, .list k []) :: l) := ⟨⟨.nil, h, .inr ⟨rfl, k, rfl⟩⟩, r⟩
theorem HasN.eq {e : Env} {t : Nat} {d d' : D} {l : Env} (h : e.get t = some d') (hd : d' = d) (r : HasN e l) : HasN e ((t, d) :: l) := ⟨⟨d', h, .inl hd⟩, r⟩

theorem DW.hasN {C : Ctx} {c : Code} {e : Env} {H : Heap} {Q : Post} (l : Env) (h : HasN e l) (hd : DW C c l H Q) : DW C c e H Q :=
  .mk fun a w hst => hd.go a w ⟨hst.size, hst.defers, fun t d ht => by
    obtain ⟨d', hd', hs⟩ := h.get ht
    obtain ⟨v, hv, hr⟩ := hst.env t d' hd'
    exact ⟨v, hv, hs.rep hr⟩, hst.heap, hst.ext⟩

def cutQ (l : Env) (H' : Heap) (Q : Post) : Post
  | .normal, e, H => HasN e l ∧ H = H'
  | x, e, H => Q x e H

/-- Ways meet: behind them these slots hold these data. -/
theorem DW.cut {C : Ctx} {x y : Code} {e : Env} {H : Heap} {Q : Post} (l : Env) (H' : Heap) (h2 : DW C y l H' Q) (h1 : DW C x e H (cutQ l H' Q)) : DW C x e H (thenQ C y Q) := h1.mono fun z e' H'' h => by
  cases z with
  | normal =>
    obtain ⟨ha, hb⟩ := h
    subst hb
    exact DW.hasN l ha h2
  | exit id => exact h
  | goto l => exact h
  | ret => exact h
  | panic c => exact h
  | outgrown => exact h

theorem OpD.mono {P : Program} {H : Heap} {e : Env} {o : Oper} {K K' : D → Heap → Prop} (h : OpD P H e o K) (hk : ∀ d H', K d H' → K' d H') : OpD P H e o K' :=
  .mk fun ρ w ha ho => (h.go ρ w ha ho).mono fun v w' ⟨d, H', h1, h2⟩ => ⟨d, H', hk _ _ h1, h2⟩

theorem RO.mono {C : Ctx} {ops : List Oper} {K K' : Env → Heap → Prop} (hk : ∀ e H, K e H → K' e H) : ∀ {l : List Oper} {e : Env} {H : Heap}, RO C ops l e H K → RO C ops l e H K'
  | [], e, H, h => hk e H h
  | o :: l, e, H, ⟨hd, hg⟩ => by
    refine ⟨hd, ?_⟩
    unfold GuardIs at hg ⊢
    cases hgu : o.guard with
    | none =>
      rw [hgu] at hg
      exact hg.mono fun d H' h => RO.mono hk h
    | some jw =>
      obtain ⟨j, want⟩ := jw
      rw [hgu] at hg
      obtain ⟨b, h1, h2, h3⟩ := hg
      exact ⟨b, h1, fun h => (h2 h).mono fun d H' h => RO.mono hk h, fun h => RO.mono hk (h3 h)⟩

/-- Ways meet at a region's end. -/
theorem RO.cut {C : Ctx} {ops rest : List Oper} {y : Code} {e : Env} {H : Heap} {Q : Post} (l : Env) (H' : Heap) (h2 : DW C y l H' Q) (h1 : RO C ops rest e H fun e' H'' => HasN e' l ∧ H'' = H') : RO C ops rest e H fun e' H'' => thenQ C y Q .normal e' H'' :=
  RO.mono (fun e' H'' ⟨ha, hb⟩ => by subst hb; exact DW.hasN l ha h2) h1

theorem RepsA.nilAt {w : World} {H : Heap} {args : Array Value} {ds : List D} (i k : Nat) (h : RepsA w H args ds) (hi : ds[i]? = some .nil) : RepsA w H args (ds.set i (.list k [])) := by
  refine ⟨by simpa using h.1, fun j x hx => ?_⟩
  rw [List.getElem?_set] at hx
  split at hx
  · rename_i hij
    subst hij
    split at hx
    · cases hx
      obtain ⟨v, hv, hr⟩ := h.2 i _ hi
      exact ⟨v, hv, hr.nil_list k⟩
    · cases hx
  · exact h.2 j x hx

/-- nil may be handed in for an empty list. -/
theorem PureH.nilAt {P : Program} {H : Heap} {f : FuncId} {ds : List D} {d : D} (i k : Nat) (h : PureH P H f (ds.set i (.list k [])) d) (hi : ds[i]? = some .nil) : PureH P H f ds d :=
  ⟨h.body, fun w args ho ha => h.calls w args ho (ha.nilAt i k hi)⟩

end Go.Proofs.YtcdihmhmoddppaaGreat

namespace Go.Proofs.YtcdihmhmoddppaaGreat
open Go.RowKit
set_option linter.unusedVariables false
set_option linter.unusedSimpArgs false

/-- Slots that are seen as others; blocks may be let go. -/
def HasG (e : Env) (H H' : Heap) : Env → Prop
  | [] => True
  | (t, d) :: r => (∃ d', e.get t = some d' ∧ Frz H H' d' d) ∧ HasG e H H' r

theorem HasG.get {e : Env} {H H' : Heap} : ∀ {l : Env} {t : Nat} {d : D}, HasG e H H' l → l.get t = some d → ∃ d', e.get t = some d' ∧ Frz H H' d' d
  | [], t, d, _, h => by simp [Env.get] at h
  | (s, x) :: r, t, d, ⟨h1, h2⟩, h => by
    rw [Env.get_cons] at h
    split at h
    · rename_i hst; subst hst; cases h; exact h1
    · exact HasG.get h2 h

theorem HasG.one {e : Env} {H H' : Heap} {t : Nat} {d : D} {l : Env} (h : e.get t = some d) (r : HasG e H H' l) : HasG e H H' ((t, d) :: l) := ⟨⟨d, h, .same _⟩, r⟩
theorem HasG.frz {e : Env} {H H' : Heap} {t : Nat} {d d' : D} {l : Env} (h : e.get t = some d') (hf : Frz H H' d' d) (r : HasG e H H' l) : HasG e H H' ((t, d) :: l) := ⟨⟨d', h, hf⟩, r⟩
theorem HasG.eq {e : Env} {H H' : Heap} {t : Nat} {d d' : D} {l : Env} (h : e.get t = some d') (hd : d' = d) (r : HasG e H H' l) : HasG e H H' ((t, d) :: l) := ⟨⟨d', h, hd ▸ .same _⟩, r⟩
theorem HasG.nil1 {e : Env} {H H' : Heap} {t k : Nat} {l : Env} (h : e.get t = some .nil) (r : HasG e H H' l) : HasG e H H' ((t, .list k []) :: l) := ⟨⟨.nil, h, .nil k⟩, r⟩

theorem DW.freezeG {C : Ctx} {c : Code} {e : Env} {H : Heap} {Q : Post} (l : Env) (H' : Heap) (hH : H'.sub H) (h : HasG e H H' l) (hd : DW C c l H' Q) : DW C c e H Q := .change hH (fun t d ht => h.get ht) hd

/-- At a round's end: the loop's next state, blocks let go; or out of the loop. -/
def roundG {α : Type} (inv : α → Prop) (env : α → Env) (hp : α → Heap) (ms : α → Nat) (a : α) (Q : Post) : Post
  | .normal, e, H => ∃ b, inv b ∧ ms b < ms a ∧ (hp b).sub H ∧ HasG e H (hp b) (env b)
  | x, e, H => Q x e H

theorem DW.loopG {C : Ctx} {c : Code} {e : Env} {H : Heap} {Q : Post} {α : Type} (inv : α → Prop) (env : α → Env) (hp : α → Heap) (ms : α → Nat) (a0 : α) (h0 : inv a0) (hH : (hp a0).sub H) (he : HasG e H (hp a0) (env a0))
    (hr : ∀ a, inv a → DW C c (env a) (hp a) (roundG inv env hp ms a Q)) : DW C (.loop c) e H Q := by
  refine DW.loop (fun n e H => ∃ a, inv a ∧ ms a = n ∧ (hp a).sub H ∧ HasG e H (hp a) (env a)) (ms a0) ⟨a0, h0, rfl, hH, he⟩ fun n e H ⟨a, ha, hn, hH, he⟩ => ?_
  refine DW.freezeG (env a) (hp a) hH he ((hr a ha).mono fun x e' H' hx => ?_)
  cases x with
  | normal =>
    obtain ⟨b, h1, h2, h3, h4⟩ := hx
    exact ⟨ms b, by omega, b, h1, rfl, h3, h4⟩
  | exit id => exact hx
  | goto l => exact hx
  | ret => exact hx
  | panic c => exact hx
  | outgrown => exact hx

def cutG (l : Env) (H' : Heap) (Q : Post) : Post
  | .normal, e, H => H'.sub H ∧ HasG e H H' l
  | x, e, H => Q x e H

theorem DW.cutg {C : Ctx} {x y : Code} {e : Env} {H : Heap} {Q : Post} (l : Env) (H' : Heap) (h2 : DW C y l H' Q) (h1 : DW C x e H (cutG l H' Q)) : DW C x e H (thenQ C y Q) := h1.mono fun z e' H'' h => by
  cases z with
  | normal =>
    obtain ⟨ha, hb⟩ := h
    exact DW.freezeG l H' ha hb h2
  | exit id => exact h
  | goto l => exact h
  | ret => exact h
  | panic c => exact h
  | outgrown => exact h

section
variable {P : Program} {H : Heap} {e : Env} {dst : Option Tmp} {ty : TypeId} {pos : String} {af : Array Edge} {gd : Option (Nat × Bool)}

/-- A place, by an int that is so much. -/
theorem s_indexI {α : Type} {f : α → D} {l : List α} {x y : Operand} {t E : TypeId} {k bytes i : Nat} {n : Int} {zd : List D} [SliceT P t E] [ElT P E k zd bytes] (hx : e.ev x = some (.list k (l.map f))) (hy : e.ev y = some (I n)) (hn : n = i) (hl : i < l.length) :
    Sta P H e ⟨dst, .indexAddr t x y, ty, pos, af, gd⟩ (.ipt k (l.map f) i 0) := by
  subst hn
  exact s_index (zd := zd) (bytes := bytes) hx hy (by simpa using hl)

end

theorem Heap.sub_refl (H : Heap) : H.sub H := fun _ _ h => h
theorem Heap.sub_set {H : Heap} {b : Nat} (x : TypeId × List D) (h : H b = none) : H.sub (H.set b x) := fun c y hc => by
  have : c ≠ b := fun e => by rw [e, h] at hc; cases hc
  simp [Heap.set, this, hc]
theorem Over.sub {A B : Heap} (h : Over A B) : A.sub B := h
theorem Heap.sub_trans {A B C : Heap} (h : A.sub B) (k : B.sub C) : A.sub C := fun b x hx => k b x (h b x hx)

end Go.Proofs.YtcdihmhmoddppaaGreat

namespace Go.Proofs.YtcdihmhmoddppaaGreat
open Go.RowKit
set_option linter.unusedVariables false
set_option linter.unusedSimpArgs false

/-- What is appended, as values. -/
def NewsOf (w : World) (H : Heap) (v1 : Value) (k : Nat) (xs : List D) : Prop :=
  (xs = [] → ∃ a c, v1 = .slice a 0 c) ∧ (xs ≠ [] → ∃ (a : Addr) (c : Nat) (news : List Value), v1 = .slice (some a) xs.length c ∧ news.length = xs.length * k ∧ (∀ (j : Nat) (u : Value), news[j]? = some u → w.cell? (a.add j) = some u) ∧ (∀ u ∈ news, u.oneCell' = true) ∧
      ∀ (j : Nat) (x : D), (xs.flatMap cellsOf)[j]? = some x → ∃ u, news[j]? = some u ∧ Rep w H u x)

theorem NewsOf.list {w : World} {H : Heap} {v : Value} {k : Nat} {xs : List D} (h : Rep w H v (.list k xs)) (hu : Uni k xs) (hk : 0 < k) : NewsOf w H v k xs :=
  ⟨fun e => by subst e; cases h with | list vals hc hm h1 h2 h3 => exact ⟨_, _, rfl⟩, fun hne => list_news h hu hk hne⟩

theorem NewsOf.nil {w : World} {H : Heap} {v : Value} (h : Rep w H v .nil) (k : Nat) : NewsOf w H v k [] := by
  cases h with
  | nil a => exact ⟨fun _ => ⟨_, _, rfl⟩, fun h => absurd rfl h⟩

/-- Out of a mutable slice. -/
theorem NewsOf.ref {w : World} {H : Heap} {v : Value} {b off n k : Nat} {T : TypeId} {cells : List D} {xs : List D} (h : Rep w H v (.ref b off n k)) (ho : HOK w H) (hH : H b = some (T, cells)) (hu : Uni k xs) (hn : xs.length = n) (hx : ∀ (j : Nat) (x : D), (xs.flatMap cellsOf)[j]? = some x → cells[off + j]? = some x) : NewsOf w H v k xs := by
  cases h with
  | ref hb hs hl hm =>
    rename_i cap cs T0
    obtain ⟨cs', hc1, hc2, hc3⟩ := ho b T cells hH
    rw [hb] at hc1
    cases hc1
    subst hn
    refine ⟨fun e => ⟨_, _, by rw [e]; rfl⟩, fun hne => ⟨⟨b, off, none⟩, cap, (List.range (xs.length * k)).map fun q => cs.getD (off + q) undef, rfl, by simp, fun j u hj => ?_, fun u hu' => ?_, fun j x hj => ?_⟩⟩
    · simp only [List.getElem?_map, Option.map_eq_some_iff] at hj
      obtain ⟨j', hj', rfl⟩ := hj
      have hlt : j < xs.length * k := by simpa using (List.getElem?_eq_some_iff.1 hj').1
      rw [List.getElem?_range hlt] at hj'
      cases hj'
      have hx' : (xs.flatMap cellsOf)[j]? = some ((xs.flatMap cellsOf)[j]'(by rw [hu.length]; exact hlt)) := by simp
      obtain ⟨_, v, hv, _⟩ := hc3 _ _ (hx j _ hx')
      rw [addr_add, cell_of_row w b (off + j) cs _ (0, 0) hb, hv]
      simp [Array.getD_eq_getD_getElem?, hv]
    · simp only [List.mem_map, List.mem_range] at hu'
      obtain ⟨q, hq, rfl⟩ := hu'
      have hx' : (xs.flatMap cellsOf)[q]? = some ((xs.flatMap cellsOf)[q]'(by rw [hu.length]; exact hq)) := by simp
      obtain ⟨h1, v, hv, hr⟩ := hc3 _ _ (hx q _ hx')
      have : cs.getD (off + q) undef = v := by simp [Array.getD_eq_getD_getElem?, hv]
      rw [this]
      exact hr.oneCell h1
    · have hlt : j < xs.length * k := by
        have := (List.getElem?_eq_some_iff.1 hj).1
        rwa [hu.length] at this
      obtain ⟨h1, v, hv, hr⟩ := hc3 _ _ (hx j _ hj)
      refine ⟨v, ?_, hr⟩
      simp [hlt, Array.getD_eq_getD_getElem?, hv]

section
variable {P : Program} {H : Heap} {e : Env} {dst : Option Tmp} {ty : TypeId} {pos : String} {af : Array Edge} {gd : Option (Nat × Bool)}

theorem run_appendS {t E : TypeId} {k : Nat} {zd : List D} {w : World} {v v1 : Value} {d : D} {l xs : List D} (hu : P.underlying t = some (.slice E)) (hz : ZeroOf P E k zd) (hk : 0 < k) (ho : HOK w H) (hbase : BaseIs H d k E l) (hl : Uni k l) (hv : Rep w H v d)
    (hsrc : NewsOf w H v1 k xs) (hxs : Uni k xs) (hbytes : ∀ inf, P.info? E = some inf → (l.length + xs.length) * inf.bytes ≤ 140737488355328) (hlen : l.length + xs.length ≤ 4611686018427387904) :
    ∃ v' w', (Builtin.append_ #[t, t] ty #[v, v1]).run P w = .ok v' w' ∧ Appended P w H v d k E l xs v' w' := by
  obtain ⟨inf, z, hi, hz1, hz2, hz3⟩ := hz.is
  have hzs : z.cells.size = k := by rw [hz3]; simp [hz.len]
  have hb := hbytes inf hi
  have h63 : l.length + xs.length ≤ maxLen := by unfold maxLen; omega
  by_cases hne : xs = []
  · subst hne
    obtain ⟨a, c, rfl⟩ := hsrc.1 rfl
    obtain ⟨b, n, cap, rfl, hnc⟩ : ∃ b n cap, v = .slice b n cap ∧ n ≤ cap := by
      rcases hbase with ⟨rfl, _⟩ | ⟨b, rfl, _⟩
      · cases hv with
        | nil a => exact ⟨_, _, _, rfl, Nat.le_refl _⟩
      · cases hv with
        | ref hb hs hl' hm => exact ⟨_, _, _, rfl, hl'⟩
    refine ⟨_, _, ?_, .same rfl⟩
    cases a <;> cases b <;> simp [Builtin.append_, run_underlying hu, run_sizeOf hi, Builtin.lenOf, hnc, Builtin.firstCells, loadCells, loadCellsFrom, storeCells]
  · obtain ⟨a, c, news, rfl, hnl, hnw, hn1, hnr⟩ := hsrc.2 hne
    have hm0 : 0 < xs.length := by cases xs with | nil => exact absurd rfl hne | cons => simp
    rcases hbase with ⟨rfl, rfl⟩ | ⟨b, rfl, hH⟩
    · have hflat := reps_flat_append (w := w) (H := H) (l := []) (xs := xs) (olds := []) (news := news) hl hxs (by simp) (fun j x h => by simp at h) hnr
      cases hv with
      | nil ao =>
        simp only [List.length_nil, Nat.zero_add] at hb h63
        have fin : ∀ v' w', w'.ownsRow w.heap.size E k v' (0 + xs.length) ([] ++ news) → w.grownBy w' none → v' ≠ .slice none 0 0 → Appended P w H (.slice ao 0 0) .nil k E [] xs v' w' := by
          intro v' w' hown hgr hne'
          rcases hown.2 with ⟨h, _⟩ | ⟨g, cap, cur, rfl, hg, hgb, hle, hcm, hcs, htake⟩
          · exact absurd h hne'
          · refine .grown (w := w) (H := H) (l := []) (xs := xs) hg hgr hgb hcs hcm (by simpa using hle) fun j x hx => ?_
            obtain ⟨h1, u, hu', hr⟩ := hflat j x hx
            refine ⟨h1, u, ?_, hr⟩
            rw [← htake] at hu'
            rw [List.getElem?_take] at hu'
            split at hu'
            · simpa using hu'
            · cases hu'
        cases ao with
        | none =>
          obtain ⟨v', w', hrun, hown, hgr, hiff⟩ := run_append_own (P := P) w w.heap.size t ty E inf z k inf.bytes hu hi hz1 hz2 rfl hzs hk (.slice none 0 0) 0 [] (World.ownsRow_nil w _ _ _) a xs.length c news (by simpa using hnl) hnw hn1 (by simpa using h63) (by simpa using hb) (Nat.le_refl _)
          exact ⟨v', w', hrun, fin v' w' hown hgr fun h => by have := hiff.1 h; omega⟩
        | some ao =>
          obtain ⟨v', w', hrun, hown, hgr⟩ := run_append_arg_grows (P := P) w t ty E inf z k inf.bytes hu hi hz1 hz2 rfl hzs hk ao 0 0 [] (by simp) (fun j u h => by simp at h) a xs.length c news (by simpa using hnl) hnw (by omega) (by simpa using h63) (by simpa using hb)
          refine ⟨v', w', hrun, fin v' w' hown hgr fun h => ?_⟩
          subst h
          rcases hown.2 with ⟨_, h⟩ | ⟨g, cap, cur, h, _⟩
          · omega
          · cases h
    · obtain ⟨cs, hcb, hcl, hcr⟩ := ho b E _ hH
      cases hv with
      | ref hb' hs hl' hm =>
        rename_i cap cs0 T0
        rw [hcb] at hb'
        cases hb'
        simp only [Nat.zero_add] at hs
        have hfl : (l.flatMap cellsOf).length = l.length * k := hl.length
        have holds : ∀ (j : Nat) (x : D), (l.flatMap cellsOf)[j]? = some x → ∃ u, (cs.toList.take (l.length * k))[j]? = some u ∧ Rep w H u x := fun j x hx => by
          obtain ⟨_, u, hu', hr⟩ := hcr j x hx
          have hj : j < l.length * k := by rw [← hfl]; exact (List.getElem?_eq_some_iff.1 hx).1
          exact ⟨u, by rw [List.getElem?_take, if_pos hj]; simpa using hu', hr⟩
        have htl : (cs.toList.take (l.length * k)).length = l.length * k := by
          rw [List.length_take]; simp; omega
        have hflat := reps_flat_append (w := w) (H := H) (l := l) (xs := xs) (olds := cs.toList.take (l.length * k)) (news := news) hl hxs htl holds hnr
        by_cases hroom : l.length + xs.length ≤ cap
        · have hfit : l.length * inf.size + news.length ≤ cs.size := by
            rw [hz2, hnl, ← hs, ← Nat.add_mul]
            exact Nat.mul_le_mul_right k hroom
          have hrun := run_append_room (P := P) w t ty E inf hu hi b l.length cap cs hcb a xs.length c news (by rw [hz2]; exact hnl) hnw hn1 hroom hfit
          refine ⟨_, _, hrun, .room rfl rfl hcb hs.symm hm hroom ?_ fun j x hx => ?_⟩
          · rw [hz2] at hfit ⊢
            simp
            omega
          · obtain ⟨h1, u, hu', hr⟩ := hflat j x hx
            refine ⟨h1, u, ?_, hr⟩
            rw [hz2, List.getElem?_toArray, List.getElem?_append_left (List.getElem?_eq_some_iff.1 hu').1]
            exact hu'
        · obtain ⟨v', w', hrun, hown, hgr⟩ := run_append_arg_grows (P := P) w t ty E inf z k inf.bytes hu hi hz1 hz2 rfl hzs hk ⟨b, 0, none⟩ l.length cap (cs.toList.take (l.length * k)) htl (fun j u hj => by
            rw [addr_add, Nat.zero_add, cell_of_row w b j cs E (0, 0) hcb]
            rw [List.getElem?_take] at hj
            split at hj
            · simpa using hj
            · cases hj) a xs.length c news hnl hnw (by omega) h63 hb
          refine ⟨v', w', hrun, ?_⟩
          rcases hown.2 with ⟨_, h⟩ | ⟨g, cap', cur, rfl, hg, hgb, hle, hcm, hcs, htake⟩
          · omega
          · refine .grown hg hgr hgb hcs hcm hle fun j x hx => ?_
            obtain ⟨h1, u, hu', hr⟩ := hflat j x hx
            refine ⟨h1, u, ?_, hr⟩
            rw [← htake] at hu'
            rw [List.getElem?_take] at hu'
            split at hu'
            · simpa using hu'
            · cases hu'


theorem opD_appendS {H0 : Heap} {t E : TypeId} {x y : Operand} {k : Nat} {zd : List D} {d : D} {l xs : List D} {K : D → Heap → Prop} (hu : P.underlying t = some (.slice E)) (hz : ZeroOf P E k zd) (hk : 0 < k) (hx : e.ev x = some d) (hacc : Acc H0 H d k E l) (hover : Over H0 H)
    (hsrc : ∀ (ρ : Operand → Value) (w : World), Agree ρ w H e → HOK w H → NewsOf w H (ρ y) k xs) (hxs : Uni k xs) (hbytes : ∀ inf, P.info? E = some inf → (l.length + xs.length) * inf.bytes ≤ 140737488355328) (hlen : l.length + xs.length ≤ 4611686018427387904)
    (hK : ∀ d' H', Acc H0 H' d' k E (l ++ xs) → Over H0 H' → (∀ c z, H c = some z → d.blk ≠ some c → H' c = some z) → K d' H') :
    OpD P H e ⟨dst, .call ⟨.builtin .append, #[x, y], #[t, t]⟩, ty, pos, af, gd⟩ K := .mk fun ρ w ha ho => by
  obtain ⟨v', w', hrun, happ⟩ := run_appendS (P := P) (ty := ty) hu hz hk ho hacc.base hacc.uni (ha x d hx) (hsrc ρ w ha ho) hxs hbytes hlen
  simp only [OpTo, run_exec_append hrun]
  have huni := hacc.uni.append hxs
  cases happ with
  | same h =>
    subst h
    refine ⟨d, H, hK d H (by rw [List.append_nil]; exact hacc) hover fun c z hc _ => hc, ha x d hx, ho, .refl _ _⟩
  | room hd hv hb hs hm hl hs' hr =>
    rename_i b cap cs cs'
    subst hd
    obtain ⟨hb0, hHb⟩ : H0 b = none ∧ H b = some (E, l.flatMap cellsOf) := by
      rcases hacc.is with ⟨h, _⟩ | ⟨b', h1, h2, h3⟩
      · cases h
      · cases h2; exact ⟨h1, h3⟩
    have hfl : ((l ++ xs).flatMap cellsOf).length ≤ cs'.size := by
      rw [huni.length, List.length_append, hs', hs]
      exact Nat.mul_le_mul_right k hl
    obtain ⟨ho', he'⟩ := ext_setCells ho hHb hb hs' hfl hr
    refine ⟨.ref b 0 (l.length + xs.length) k, _, hK _ _ ⟨huni, .inr ⟨b, hb0, by rw [List.length_append], by simp [Heap.set]⟩⟩ (hover.set hb0) fun c z hc hne => ?_, ?_, ho', he'⟩
    · have : c ≠ b := fun h => hne (by simp [D.blk, h])
      simp [Heap.set, this, hc]
    · exact .ref (setRow_heap w b cs cs' E (0, 0) hb) (by rw [hs', hs]; omega) hl hm
  | grown hg hw hb hs hm hl hr =>
    rename_i g cap cur
    have hfl : ((l ++ xs).flatMap cellsOf).length ≤ cur.size := by
      rw [huni.length, List.length_append, hs]
      exact Nat.mul_le_mul_right k hl
    obtain ⟨ho', he'⟩ := ho.adopt hw hg hb hfl hr
    have hHg : H g = none := by
      cases hx : H g with
      | none => rfl
      | some x => have := ho.lt hx; omega
    refine ⟨.ref g 0 (l.length + xs.length) k, _, hK _ _ ⟨huni, .inr ⟨g, hover.none hHg, by rw [List.length_append], by simp [Heap.set]⟩⟩ (hover.set (hover.none hHg)) fun c z hc hne => ?_, ?_, ho', he'⟩
    · have : c ≠ g := fun h => by subst h; rw [hHg] at hc; cases hc
      simp [Heap.set, this, hc]
    · exact .ref hb (by rw [hs]; omega) hl hm


theorem append_types {t t2 E E2 : TypeId} {inf : TypeInfo} (hi : P.info? E = some inf) (hu : P.underlying t = some (.slice E)) (hu2 : P.underlying t2 = some (.slice E2)) (v v1 : Value) (w : World) : (Builtin.append_ #[t, t2] ty #[v, v1]).run P w = (Builtin.append_ #[t, t] ty #[v, v1]).run P w := by
  cases v <;> simp [Builtin.append_, run_underlying hu, run_underlying hu2, run_sizeOf hi]

theorem exec_types {ρ : Operand → Value} {x y : Operand} {t t2 E E2 : TypeId} {inf : TypeInfo} (hi : P.info? E = some inf) (hu : P.underlying t = some (.slice E)) (hu2 : P.underlying t2 = some (.slice E2)) (w : World) :
    (execOp ρ ⟨dst, .call ⟨.builtin .append, #[x, y], #[t, t2]⟩, ty, pos, af, gd⟩).run P w = (execOp ρ ⟨dst, .call ⟨.builtin .append, #[x, y], #[t, t]⟩, ty, pos, af, gd⟩).run P w := by
  have h : ∀ t2, execOp ρ ⟨dst, .call ⟨.builtin .append, #[x, y], #[t, t2]⟩, ty, pos, af, gd⟩ = (do pure (.value (← Builtin.append_ #[t, t2] ty #[ρ x, ρ y]))) := fun t2 => by
    simp only [BigFrame.execOp_builtin, BigFrame.builtin_append, List.map_toArray, List.map_cons, List.map_nil]
  rw [h, h, Sem.run_bind, Sem.run_bind, append_types hi hu hu2]

theorem opD_types {x y : Operand} {t t2 E E2 : TypeId} {k bytes : Nat} {zd : List D} {K : D → Heap → Prop} [SliceT P t E] [SliceT P t2 E2] [ElT P E k zd bytes] (h : OpD P H e ⟨dst, .call ⟨.builtin .append, #[x, y], #[t, t]⟩, ty, pos, af, gd⟩ K) : OpD P H e ⟨dst, .call ⟨.builtin .append, #[x, y], #[t, t2]⟩, ty, pos, af, gd⟩ K := .mk fun ρ w ha ho => by
  have := h.go ρ w ha ho
  obtain ⟨inf, z, hi, _⟩ := (ElT.z (P := P) (E := E) (k := k) (zd := zd) (bytes := bytes)).is
  unfold OpTo at *
  rw [exec_types (P := P) hi (SliceT.h (t := t) (E := E)) (SliceT.h (t := t2) (E := E2)) w]
  exact this

theorem sta_types {x y : Operand} {t t2 E E2 : TypeId} {k bytes : Nat} {zd : List D} {d : D} [SliceT P t E] [SliceT P t2 E2] [ElT P E k zd bytes] (h : Sta P H e ⟨dst, .call ⟨.builtin .append, #[x, y], #[t, t]⟩, ty, pos, af, gd⟩ d) : Sta P H e ⟨dst, .call ⟨.builtin .append, #[x, y], #[t, t2]⟩, ty, pos, af, gd⟩ d := .mk fun ρ w ha ho => by
  have := h.go ρ w ha ho
  obtain ⟨inf, z, hi, _⟩ := (ElT.z (P := P) (E := E) (k := k) (zd := zd) (bytes := bytes)).is
  unfold OpTo at *
  rw [exec_types (P := P) hi (SliceT.h (t := t) (E := E)) (SliceT.h (t := t2) (E := E2)) w]
  exact this

/-- append of what stands in a mutable slice. -/
theorem d_appendRef {H0 : Heap} {t E : TypeId} {x y : Operand} {k bytes b off n : Nat} {T : TypeId} {cells : List D} {zd : List D} {d : D} {l xs : List D} {K : D → Heap → Prop} [SliceT P t E] [ElT P E k zd bytes] (hx : e.ev x = some d) (hacc : Acc H0 H d k E l) (hover : Over H0 H)
    (hy : e.ev y = some (.ref b off n k)) (hH : H b = some (T, cells)) (hn : xs.length = n) (hc : ∀ (j : Nat) (x : D), (xs.flatMap cellsOf)[j]? = some x → cells[off + j]? = some x) (hxs : Uni k xs) (hb : (l.length + xs.length) * bytes ≤ 140737488355328) (hlen : l.length + xs.length ≤ 4611686018427387904)
    (hK : ∀ d' H', Acc H0 H' d' k E (l ++ xs) → Over H0 H' → (∀ c z, H c = some z → d.blk ≠ some c → H' c = some z) → K d' H') :
    OpD P H e ⟨dst, .call ⟨.builtin .append, #[x, y], #[t, t]⟩, ty, pos, af, gd⟩ K :=
  opD_appendS SliceT.h (ElT.z (E := E) (bytes := bytes)) (ElT.pos (P := P) (E := E) (zd := zd) (bytes := bytes)) hx hacc hover (fun ρ w ha ho => NewsOf.ref (ha y _ hy) ho hH hxs hn hc) hxs (fun inf hi => by rw [ElT.b (P := P) (E := E) (k := k) (zd := zd) (bytes := bytes) inf hi]; exact hb) hlen hK

end

end Go.Proofs.YtcdihmhmoddppaaGreat

namespace Go.Proofs.YtcdihmhmoddppaaGreat
open Go.RowKit
set_option linter.unusedVariables false
set_option linter.unusedSimpArgs false

theorem Acc.done {H H' : Heap} {d : D} {k : Nat} {T : TypeId} {l : List D} (h : Acc H H' d k T l) : Frz H' H d (.list k l) := h.frz fun b hb => by
  rcases h.is with ⟨g, _⟩ | ⟨c, g1, g2, _⟩
  · rw [g] at hb; cases hb
  · rw [g2] at hb; cases hb; exact g1

theorem Acc.over' {H0 H H' : Heap} {d : D} {k : Nat} {T : TypeId} {l : List D} (h : Acc H0 H d k T l) (ho : Over H H') : Acc H0 H' d k T l :=
  ⟨h.uni, h.is.imp id fun ⟨b, h1, h2, h3⟩ => ⟨b, h1, h2, ho _ _ h3⟩⟩

theorem Acc.len' {H0 H : Heap} {d : D} {k : Nat} {T : TypeId} {l : List D} (h : Acc H0 H d k T l) : lenD d = some l.length := by
  rcases h.is with ⟨rfl, rfl⟩ | ⟨b, _, rfl, _⟩ <;> rfl

/-- One's own slice that is not empty. -/
theorem Acc.ref {H0 H : Heap} {d : D} {k : Nat} {T : TypeId} {l : List D} (h : Acc H0 H d k T l) (hl : 0 < l.length) : ∃ b, H0 b = none ∧ d = .ref b 0 l.length k ∧ H b = some (T, l.flatMap cellsOf) := by
  rcases h.is with ⟨_, h2⟩ | h
  · rw [h2] at hl; simp at hl
  · exact h

theorem flat_set {k : Nat} (hk : 0 < k) {l : List D} (hl : ∀ d ∈ l, (cellsOf d).length = k) {i : Nat} (hi : i < l.length) {d : D} (hd : (cellsOf d).length = k) : setMany (l.flatMap cellsOf) (i * k) (cellsOf d) = (l.set i d).flatMap cellsOf := by
  have hlen : ∀ {l : List D}, (∀ d ∈ l, (cellsOf d).length = k) → (l.flatMap cellsOf).length = l.length * k := by
    intro l
    induction l with
    | nil => intro _; simp
    | cons x l ih =>
      intro h
      simp only [List.flatMap_cons, List.length_append, List.length_cons, h x (by simp), ih fun y hy => h y (by simp [hy]), Nat.add_mul]
      omega
  have hl2 : ∀ x ∈ l.set i d, (cellsOf x).length = k := fun x hx => by
    rcases List.mem_or_eq_of_mem_set hx with h | rfl
    · exact hl x h
    · exact hd
  have hfit : i * k + (cellsOf d).length ≤ (l.flatMap cellsOf).length := by
    rw [hlen hl, hd, show i * k + k = (i + 1) * k by rw [Nat.add_mul]; omega]
    exact Nat.mul_le_mul_right k hi
  apply List.ext_getElem?
  intro q
  rw [setMany_get hfit, hd]
  have hq : (q / k) * k + q % k = q := by rw [Nat.mul_comm]; exact Nat.div_add_mod q k
  have hm : q % k < k := Nat.mod_lt _ hk
  have e1 := flat_cell (k := k) (l := l) (fun i d h => hl d (List.mem_of_getElem? h)) (q / k) (q % k) hm
  have e2 := flat_cell (k := k) (l := l.set i d) (fun i d h => hl2 d (List.mem_of_getElem? h)) (q / k) (q % k) hm
  rw [hq] at e1 e2
  rw [e1, e2]
  unfold cellAt
  by_cases hqi : q / k = i
  · have h1 : i * k ≤ q := by rw [← hqi]; exact Nat.div_mul_le_self q k
    have h2 : q - i * k = q % k := by rw [← hqi]; omega
    have h3 : q < i * k + k := by omega
    rw [if_pos ⟨h1, h3⟩, h2, hqi]
    simp [hi]
  · rw [if_neg]
    · rw [List.getElem?_set_ne (Ne.symm hqi)]
    · rintro ⟨h1, h2⟩
      apply hqi
      have h3 : i ≤ q / k := (Nat.le_div_iff_mul_le hk).2 h1
      have h4 : q / k < i + 1 := (Nat.div_lt_iff_lt_mul hk).2 (by rw [Nat.add_mul]; omega)
      omega

theorem rowTo_put {l : List D} {z : D} {k : Nat} (h : k < l.length) : (rowTo l z k).set k l[k] = rowTo l z (k + 1) := by
  unfold rowTo
  apply List.ext_getElem?
  intro j
  rw [List.getElem?_set]
  simp only [List.length_append, List.length_take, List.length_replicate]
  by_cases h1 : k = j
  · subst h1
    rw [if_pos rfl, if_pos (by omega), List.getElem?_append_left (by simp; omega)]
    simp [h]
  · rw [if_neg h1]
    by_cases h2 : j < k
    · rw [List.getElem?_append_left (by simp; omega), List.getElem?_append_left (by simp; omega)]
      simp [h2, show j < k + 1 by omega]
    · rw [List.getElem?_append_right (by simp; omega), List.getElem?_append_right (by simp; omega)]
      simp only [List.length_take]
      rw [Nat.min_eq_left (by omega), Nat.min_eq_left (by omega)]
      by_cases h3 : j < l.length
      · rw [List.getElem?_replicate_of_lt (by omega), List.getElem?_replicate_of_lt (by omega)]
      · rw [List.getElem?_eq_none (by simp; omega), List.getElem?_eq_none (by simp; omega)]

section
variable {P : Program} {H : Heap} {e : Env} {dst : Option Tmp} {ty : TypeId} {pos : String} {af : Array Edge} {gd : Option (Nat × Bool)}

/-- Data, one by one, seen as frozen. -/
inductive Frzs (H H' : Heap) : List D → List D → Prop
  | nil : Frzs H H' [] []
  | cons {a b : D} {l m : List D} (h : Frz H H' a b) (r : Frzs H H' l m) : Frzs H H' (a :: l) (b :: m)

theorem Frzs.same (H H' : Heap) : ∀ l, Frzs H H' l l
  | [] => .nil
  | a :: l => .cons (.same a) (Frzs.same H H' l)

theorem Frzs.reps {w : World} {H H' : Heap} (ho : HOK w H) (hs : H'.sub H) {l m : List D} (h : Frzs H H' l m) : ∀ {vs : List Value}, RepsA w H vs.toArray l → RepsA w H' vs.toArray m := by
  induction h with
  | nil => intro vs hv; exact ⟨hv.1, fun j x hx => by simp at hx⟩
  | cons hf r ih =>
    intro vs hv
    cases vs with
    | nil => have := hv.1; simp at this
    | cons v vs =>
      have hv' : RepsA w H vs.toArray _ := ⟨by have := hv.1; simpa using this, fun j x hx => by
        have := hv.2 (j + 1) x (by simpa using hx)
        simpa using this⟩
      have hi := ih hv'
      refine ⟨by have := hi.1; simpa using this, fun j x hx => ?_⟩
      cases j with
      | zero =>
        simp at hx
        subst hx
        obtain ⟨u, hu, hr⟩ := hv.2 0 _ rfl
        exact ⟨u, hu, Rep.frz ho hs hf hr⟩
      | succ j =>
        obtain ⟨u, hu, hr⟩ := hi.2 j x (by simpa using hx)
        exact ⟨u, by simpa using hu, hr⟩

/-- A call of a pure function that is handed what was written: that is let go. -/
theorem opD_callF {g : Operand} {xs : Array Operand} {ats : Array TypeId} {f : FuncId} {caps ds ds' : List D} {d : D} {H' : Heap} {K : D → Heap → Prop} (hg : e.ev g = some (.fn f caps)) (hx : evList e xs.toList = some ds) (hs : H'.sub H) (hf : Frzs H H' (ds ++ caps) ds') (hp : PureH P H' f ds' d) (hK : K d H') :
    OpD P H e ⟨dst, .call ⟨.value g, xs, ats⟩, ty, pos, af, gd⟩ K := .mk fun ρ w ha ho => by
  obtain ⟨vs, hv, hr⟩ := rep_fn (ha g _ hg)
  simp only [OpTo, run_exec_call hp.body hv]
  have hargs : RepsA w H (xs.map ρ ++ vs) (ds ++ caps) := by
    have := (reps_list (H := H) ha xs.toList ds hx).append hr
    have he : (xs.toList.map ρ).toArray = xs.map ρ := by apply Array.ext'; simp
    rwa [he] at this
  have hargs' : RepsA w H' (xs.map ρ ++ vs) ds' := by
    have := hf.reps (vs := (xs.map ρ ++ vs).toList) ho hs (by rw [Array.toArray_toList]; exact hargs)
    rwa [Array.toArray_toList] at this
  refine (hp.calls w _ (ho.sub hs) hargs').mono fun en w' ⟨v, h1, h2, h3, h4⟩ => ⟨v, h1, d, H', hK, h2, h3, ?_⟩
  refine ⟨h4.os, h4.tape, h4.output, h4.size, fun b hb hHb => ?_, h4.shape⟩
  have hb' : H' b = none := by
    cases hx : H' b with
    | none => rfl
    | some x => rw [hs b x hx] at hHb; cases hHb
  exact ⟨hb', (h4.old b hb hb').2⟩

/-- The exponents of a term of a slice that may be written. -/
theorem s_outE {t T0 : TypeId} {x : Operand} {b off i : Nat} {f : Pl} [CellT P t] (hx : e.ev x = some (.ptr b off)) (hH : H b = some (T0, (f.map tmD).flatMap cellsOf)) (ho : off = i * 2 + 1) (hi : i < f.length) : Sta P H e ⟨dst, .load t x, ty, pos, af, gd⟩ (intsD f[i].e) := by
  refine s_loadMut hx hH ?_
  rw [ho, flat_cell (k := 2) (fun j d hd => by have := List.mem_of_getElem? hd; obtain ⟨y, _, rfl⟩ := List.mem_map.1 this; rfl) i 1 (by omega)]
  simp [cellAt, hi, tmD, cellsOf]

theorem s_outC {t T0 : TypeId} {x : Operand} {b off i : Nat} {f : Pl} [CellT P t] (hx : e.ev x = some (.ptr b off)) (hH : H b = some (T0, (f.map tmD).flatMap cellsOf)) (ho : off = i * 2) (hi : i < f.length) : Sta P H e ⟨dst, .load t x, ty, pos, af, gd⟩ (I f[i].c) := by
  refine s_loadMut hx hH ?_
  have := flat_cell (k := 2) (l := f.map tmD) (fun j d hd => by have := List.mem_of_getElem? hd; obtain ⟨y, _, rfl⟩ := List.mem_map.1 this; rfl) i 0 (by omega)
  rw [ho, ← Nat.add_zero (i * 2), this]
  simp [cellAt, hi, tmD, cellsOf]

theorem tm_flat : ∀ (f : Pl) (i : Nat) (h : i < f.length), (((f.map tmD).flatMap cellsOf).drop (i * 2)).take 2 = [I f[i].c, intsD f[i].e]
  | t :: f, 0, _ => by simp [tmD, cellsOf]
  | t :: f, i + 1, h => by
    have ih := tm_flat f i (by simpa using h)
    have e1 : ((t :: f).map tmD).flatMap cellsOf = [I t.c, intsD t.e] ++ (f.map tmD).flatMap cellsOf := rfl
    rw [e1, show (i + 1) * 2 = 2 + i * 2 by omega, ← List.drop_drop]
    exact ih

theorem s_outTm {t T0 : TypeId} {x : Operand} {b off i : Nat} {f : Pl} [AggT P t 2] (hx : e.ev x = some (.ptr b off)) (hH : H b = some (T0, (f.map tmD).flatMap cellsOf)) (ho : off = i * 2) (hi : i < f.length) : Sta P H e ⟨dst, .load t x, ty, pos, af, gd⟩ (tmD f[i]) := by
  subst ho
  exact s_loadMutAgg hx hH (tm_flat f i hi) rfl

/-- A place of a mutable slice of terms. -/
theorem s_ix2 {t E : TypeId} {x y : Operand} {b n bytes i : Nat} {zd : List D} {m : Int} [SliceT P t E] [ElT P E 2 zd bytes] (hx : e.ev x = some (.ref b 0 n 2)) (hy : e.ev y = some (I m)) (hm : m = i) (hl : i < n) :
    Sta P H e ⟨dst, .indexAddr t x y, ty, pos, af, gd⟩ (.ptr b (i * 2)) := by
  subst hm
  have := s_indexRef (P := P) (H := H) (dst := dst) (ty := ty) (pos := pos) (af := af) (gd := gd) (t := t) (E := E) (zd := zd) (bytes := bytes) hx hy hl
  simpa using this

end

end Go.Proofs.YtcdihmhmoddppaaGreat

namespace Go.Proofs.YtcdihmhmoddppaaGreat
open Go.RowKit
set_option linter.unusedVariables false
set_option linter.unusedSimpArgs false

def existQ {α : Type} (P : α → Prop) (l : α → Env) (H' : α → Heap) (Q : Post) : Post
  | .normal, e, H => ∃ a, P a ∧ (H' a).sub H ∧ HasG e H (H' a) (l a)
  | x, e, H => Q x e H

/-- Ways meet behind a block: with something that is so. -/
theorem DW.cutB {C : Ctx} {α : Type} {id : Nat} {x y : Code} {e : Env} {H : Heap} {Q : Post} (P : α → Prop) (l : α → Env) (H' : α → Heap) (h2 : ∀ a, P a → DW C y (l a) (H' a) Q) (h1 : DW C x e H (blockQ id (existQ P l H' Q))) : DW C x e H (blockQ id (thenQ C y Q)) := by
  have key : ∀ z e' H'', existQ P l H' Q z e' H'' → thenQ C y Q z e' H'' := fun z e' H'' h => by
    cases z with
    | normal =>
      obtain ⟨a, ha, hs, hg⟩ := h
      exact DW.freezeG (l a) (H' a) hs hg (h2 a ha)
    | exit id => exact h
    | goto l => exact h
    | ret => exact h
    | panic c => exact h
    | outgrown => exact h
  refine h1.mono fun z e' H'' h => ?_
  cases z with
  | exit id' =>
    simp only [blockQ] at h ⊢
    cases hb : Nat.beq id' id with
    | true => rw [hb] at h; exact key .normal _ _ h
    | false => rw [hb] at h; exact key (.exit id') _ _ h
  | normal => exact key .normal _ _ h
  | goto l => exact h
  | ret => exact h
  | panic c => exact h
  | outgrown => exact h

/-- Ways meet: with something that is so. -/
theorem DW.cutE {C : Ctx} {α : Type} {x y : Code} {e : Env} {H : Heap} {Q : Post} (P : α → Prop) (l : α → Env) (H' : α → Heap) (h2 : ∀ a, P a → DW C y (l a) (H' a) Q) (h1 : DW C x e H (existQ P l H' Q)) : DW C x e H (thenQ C y Q) := by
  refine h1.mono fun z e' H'' h => ?_
  cases z with
  | normal =>
    obtain ⟨a, ha, hs, hg⟩ := h
    exact DW.freezeG (l a) (H' a) hs hg (h2 a ha)
  | exit id => exact h
  | goto l => exact h
  | ret => exact h
  | panic c => exact h
  | outgrown => exact h

def dropD : D → Nat → D
  | .ref b off n k, m => if m < n then .ref b (off + m * k) (n - m) k else .list k []
  | d, _ => d

def takeD : D → Nat → D
  | .ref b off _ k, m => .ref b off m k
  | d, _ => d

/-- What may be appended: whatever memory, this stands there. -/
def SrcOk (H : Heap) (d : D) (k : Nat) (xs : List D) : Prop := ∀ (w : World) (v : Value), HOK w H → Rep w H v d → NewsOf w H v k xs

theorem SrcOk.list {H : Heap} {k : Nat} {xs : List D} (hu : Uni k xs) (hk : 0 < k) : SrcOk H (.list k xs) k xs := fun w v _ hr => .list hr hu hk
theorem SrcOk.nil {H : Heap} (k : Nat) : SrcOk H .nil k [] := fun w v _ hr => .nil hr k

theorem Acc.weaken {H H1 H2 : Heap} {d : D} {k : Nat} {T : TypeId} {l : List D} (h : Acc H1 H2 d k T l) (ho : Over H H1) : Acc H H2 d k T l := ⟨h.uni, h.is.imp id fun ⟨b, h1, h2, h3⟩ => ⟨b, ho.none h1, h2, h3⟩⟩

theorem SrcOk.acc {H0 H : Heap} {d : D} {k : Nat} {T : TypeId} {l : List D} (h : Acc H0 H d k T l) : SrcOk H d k l := by
  rcases h.is with ⟨rfl, rfl⟩ | ⟨b, _, rfl, hb⟩
  · exact .nil k
  · exact fun w v ho hr => NewsOf.ref hr ho hb h.uni rfl fun j x hx => by simpa using hx

theorem SrcOk.take {H0 H : Heap} {d : D} {k m : Nat} {T : TypeId} {l : List D} (h : Acc H0 H d k T l) (hm : m ≤ l.length) : SrcOk H (takeD d m) k (l.take m) := by
  rcases h.is with ⟨rfl, rfl⟩ | ⟨b, _, rfl, hb⟩
  · rw [List.take_nil]; exact .nil k
  · refine fun w v ho hr => NewsOf.ref hr ho hb (fun d hd => h.uni d (List.mem_of_mem_take hd)) (by simp; omega) fun j x hx => ?_
    have : l.flatMap cellsOf = (l.take m).flatMap cellsOf ++ (l.drop m).flatMap cellsOf := by rw [← List.flatMap_append, List.take_append_drop]
    rw [this, Nat.zero_add, List.getElem?_append_left (List.getElem?_eq_some_iff.1 hx).1]
    exact hx

theorem SrcOk.drop {H0 H : Heap} {d : D} {k m : Nat} {T : TypeId} {l : List D} (h : Acc H0 H d k T l) (hk : 0 < k) (hm : m ≤ l.length) : SrcOk H (dropD d m) k (l.drop m) := by
  rcases h.is with ⟨rfl, rfl⟩ | ⟨b, _, rfl, hb⟩
  · rw [List.drop_nil]; exact .nil k
  · by_cases hlt : m < l.length
    · rw [show dropD (.ref b 0 l.length k) m = .ref b (0 + m * k) (l.length - m) k from if_pos hlt]
      refine fun w v ho hr => NewsOf.ref hr ho hb (fun d hd => h.uni d (List.mem_of_mem_drop hd)) (by simp) fun j x hx => ?_
      have : l.flatMap cellsOf = (l.take m).flatMap cellsOf ++ (l.drop m).flatMap cellsOf := by rw [← List.flatMap_append, List.take_append_drop]
      have hu : Uni k (l.take m) := fun d hd => h.uni d (List.mem_of_mem_take hd)
      have hl : ((l.take m).flatMap cellsOf).length = m * k := by rw [hu.length, List.length_take, Nat.min_eq_left hm]
      rw [this, List.getElem?_append_right (by omega), hl]
      rw [show 0 + m * k + j - m * k = j by omega]
      exact hx
    · rw [show dropD (.ref b 0 l.length k) m = .list k [] from if_neg hlt, List.drop_eq_nil_of_le (by omega)]
      exact .list (Uni.nil k) hk

section
variable {P : Program} {H : Heap} {e : Env} {dst : Option Tmp} {ty : TypeId} {pos : String} {af : Array Edge} {gd : Option (Nat × Bool)}

theorem x_loadM {α : Type} {f : α → D} {l : List α} {k i : Nat} {t : TypeId} {x : Operand} [CellT P t] (hf : ∀ a, cellsOf (f a) = [f a]) (hx : e.ev x = some (.ipt k (l.map f) i 0)) (hi : i < l.length) : ∀ H', Sta P H' e ⟨dst, .load t x, ty, pos, af, gd⟩ (f l[i]) :=
  fun _ => s_loadM hf hx hi
theorem x_loadTm {f : Pl} {i : Nat} {t : TypeId} {x : Operand} [AggT P t 2] (hx : e.ev x = some (.ipt 2 (f.map tmD) i 0)) (hi : i < f.length) : ∀ H', Sta P H' e ⟨dst, .load t x, ty, pos, af, gd⟩ (tmD f[i]) :=
  fun _ => s_loadTm hx hi
theorem x_loadC {f : Pl} {i : Nat} {t : TypeId} {x : Operand} [CellT P t] (hx : e.ev x = some (.ipt 2 (f.map tmD) i 0)) (hi : i < f.length) : ∀ H', Sta P H' e ⟨dst, .load t x, ty, pos, af, gd⟩ (I f[i].c) :=
  fun _ => s_loadC hx hi
theorem x_loadE {f : Pl} {i : Nat} {t : TypeId} {x : Operand} [CellT P t] (hx : e.ev x = some (.ipt 2 (f.map tmD) i 1)) (hi : i < f.length) : ∀ H', Sta P H' e ⟨dst, .load t x, ty, pos, af, gd⟩ (intsD f[i].e) :=
  fun _ => s_loadE hx hi

/-- s[m:] of one's own slice. -/
theorem s_dropAcc {H0 H1 : Heap} {t E : TypeId} {x y : Operand} {k bytes m : Nat} {zd : List D} {d : D} {l : List D} {T : TypeId} {i : Int} [SliceT P t E] [ElT P E k zd bytes] (hx : e.ev x = some d) (hacc : Acc H0 H1 d k T l) (hy : e.ev y = some (I i)) (hi : i = m) (hm : m ≤ l.length) :
    Sta P H e ⟨dst, .slice t x (some y) none none, ty, pos, af, gd⟩ (dropD d m) := by
  subst hi
  rcases hacc.is with ⟨rfl, rfl⟩ | ⟨b, _, rfl, hb⟩
  · obtain ⟨inf, z, hi', hz1, hz2, hz3⟩ := (ElT.z (P := P) (E := E) (k := k) (zd := zd) (bytes := bytes)).is
    have hm0 : m = 0 := by simpa using hm
    subst hm0
    exact sta_slice_nil (k := k) SliceT.h hi' hx (by simp [boundD, hy]) rfl
  · by_cases hlt : m < l.length
    · rw [show dropD (.ref b 0 l.length k) m = .ref b (0 + m * k) (l.length - m) k from if_pos hlt]
      exact s_fromRef (zd := zd) (bytes := bytes) hx hy hlt
    · rw [show dropD (.ref b 0 l.length k) m = .list k [] from if_neg hlt]
      have : m = l.length := by omega
      subst this
      exact s_fromRefEnd (zd := zd) (bytes := bytes) hx hy

/-- s[:m] of one's own slice. -/
theorem s_takeAcc {H0 H1 : Heap} {t E : TypeId} {x y : Operand} {k bytes m : Nat} {zd : List D} {d : D} {l : List D} {T : TypeId} {i : Int} [SliceT P t E] [ElT P E k zd bytes] (hx : e.ev x = some d) (hacc : Acc H0 H1 d k T l) (hy : e.ev y = some (I i)) (hi : i = m) (hm : m ≤ l.length) :
    Sta P H e ⟨dst, .slice t x none (some y) none, ty, pos, af, gd⟩ (takeD d m) := by
  subst hi
  obtain ⟨inf, z, hi', hz1, hz2, hz3⟩ := (ElT.z (P := P) (E := E) (k := k) (zd := zd) (bytes := bytes)).is
  rcases hacc.is with ⟨rfl, rfl⟩ | ⟨b, _, rfl, hb⟩
  · have hm0 : m = 0 := by simpa using hm
    subst hm0
    exact sta_slice_nil (k := k) SliceT.h hi' hx rfl (by simp [boundD, hy])
  · refine .mk fun ρ w ha ho => ?_
    have h := ha x _ hx
    generalize hv : ρ x = v at h
    cases h with
    | ref hb' hs hl hcm =>
      rename_i cap cs T0
      have hbd := run_sliceBounds (P := P) (w := w) (n := l.length) (cap := cap) (a := 0) (b := m) ha (lo := none) (hi := some y) rfl (by simp [boundD, hy]) (Nat.zero_le _) (by omega)
      simp only [Option.map_some, Option.map_none] at hbd
      have hr : (Instr.sliceAt t (.slice (some ⟨b, 0, none⟩) l.length cap) none (some (ρ y)) none).run P w = .ok (.slice (some ⟨b, 0, none⟩) m cap) w := by
        simp only [Instr.sliceAt, Instr.slice, Sem.run_bind, run_underlying (SliceT.h (P := P) (t := t) (E := E)), Result.andThen_ok]
        simp [hbd, run_sizeOf hi', addr_add]
      simp only [OpTo, execOp, hv, Sem.run_bind]
      simp only [Option.map_some, Option.map_none]
      rw [hr]
      simp only [Result.andThen_ok, Sem.run_pure]
      exact ⟨.ref hb' hs (by omega) hcm, ho, .refl _ _⟩

/-- append, from whatever may be appended. -/
theorem d_appendSrc {H0 : Heap} {t E : TypeId} {x y : Operand} {k bytes : Nat} {zd : List D} {d dy : D} {l xs : List D} {K : D → Heap → Prop} [SliceT P t E] [ElT P E k zd bytes] (hx : e.ev x = some d) (hacc : Acc H0 H d k E l) (hover : Over H0 H)
    (hy : e.ev y = some dy) (hsrc : SrcOk H dy k xs) (hxs : Uni k xs) (hb : (l.length + xs.length) * bytes ≤ 140737488355328) (hlen : l.length + xs.length ≤ 4611686018427387904)
    (hK : ∀ d' H', Acc H0 H' d' k E (l ++ xs) → Over H0 H' → (∀ c z, H c = some z → d.blk ≠ some c → H' c = some z) → K d' H') :
    OpD P H e ⟨dst, .call ⟨.builtin .append, #[x, y], #[t, t]⟩, ty, pos, af, gd⟩ K :=
  opD_appendS SliceT.h (ElT.z (E := E) (bytes := bytes)) (ElT.pos (P := P) (E := E) (zd := zd) (bytes := bytes)) hx hacc hover (fun ρ w ha ho => hsrc w _ ho (ha y _ hy)) hxs (fun inf hi => by rw [ElT.b (P := P) (E := E) (k := k) (zd := zd) (bytes := bytes) inf hi]; exact hb) hlen hK

end

theorem tm_setC : ∀ (f : Pl) (i : Nat) (h : i < f.length) (c : Int), setMany ((f.map tmD).flatMap cellsOf) (i * 2) [I c] = ((f.set i ⟨c, f[i].e⟩).map tmD).flatMap cellsOf
  | t :: f, 0, _, c => by
    show setMany ([I t.c, intsD t.e] ++ (f.map tmD).flatMap cellsOf) 0 [I c] = [I c, intsD t.e] ++ (f.map tmD).flatMap cellsOf
    simp [setMany]
  | t :: f, i + 1, h, c => by
    have ih := tm_setC f i (by simpa using h) c
    have e1 : ((t :: f).map tmD).flatMap cellsOf = [I t.c, intsD t.e] ++ (f.map tmD).flatMap cellsOf := rfl
    have e2 : (((t :: f).set (i + 1) ⟨c, (t :: f)[i + 1].e⟩).map tmD).flatMap cellsOf = [I t.c, intsD t.e] ++ ((f.set i ⟨c, (f[i]'(by simpa using h)).e⟩).map tmD).flatMap cellsOf := rfl
    rw [e1, e2, ← ih]
    unfold setMany
    rw [show (i + 1) * 2 = 2 + i * 2 by omega]
    simp only [List.length_singleton, List.cons_append, List.nil_append]
    rw [show 2 + i * 2 = i * 2 + 1 + 1 by omega, List.take_succ_cons, List.take_succ_cons, show i * 2 + 1 + 1 + 1 = (i * 2 + 1) + 1 + 1 by omega, List.drop_succ_cons, List.drop_succ_cons]
    simp

end Go.Proofs.YtcdihmhmoddppaaGreat
