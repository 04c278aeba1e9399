/-
  Package field: its calls. No condition.
-/
import Derived.Test.YtcdihmhmoddppaaGreatKBt7
import Derived.Test.YtcdihmhmoddppaaGreatKBt6
import Derived.Shelf.Small.Bits
import Derived.Test.YtcdihmhmoddppaaGreatProg

namespace Go.Proofs.YtcdihmhmoddppaaGreat
open Go.RowKit
set_option linter.unusedVariables false
set_option linter.unusedSimpArgs false

section
variable {P : Program} {H : Heap} {e : Env} {dst : Option Tmp} {ty : TypeId} {pos : String} {af : Array Edge} {gd : Option (Nat × Bool)}

theorem s_nilCheck {x : Operand} {b off : Nat} (hx : e.ev x = some (.ptr b off)) : Sta P H e ⟨dst, .nilCheck x, ty, pos, af, gd⟩ (.ptr b off) := .mk fun ρ w ha ho => by
  have h := rep_ptr (ha x _ hx)
  simp [OpTo, execOp, h, Sem.run]
  exact ⟨.ptr _ _, ho, .refl _ _⟩

theorem s_uint {t u : TypeId} {x : Operand} {n : Nat} (hu : P.underlying u = some (.int .u64)) (ht : P.underlying t = some (.int .i64)) (hx : e.ev x = some (I n)) (hn : n < 1000000) :
    Sta P H e ⟨dst, .convert t u x, ty, pos, af, gd⟩ (.int .u64 n) := .mk fun ρ w ha ho => by
  have h1 := rep_int (ha x _ hx)
  have hw : IntKind.u64.wrap (n : Int) = n := by
    simp [IntKind.wrap, IntKind.signed, IntKind.bits]
    omega
  simp [OpTo, execOp, h1, convert, run_underlying hu, run_underlying ht, Conv.intToInt, hw, Sem.run]
  exact ⟨.int _ _, ho, .refl _ _⟩

/-- The head of a mutable slice. -/
theorem s_headRef {t E T : TypeId} {x hi : Operand} {lo : Option Operand} {b off n k bytes c : Nat} {cells zd : List D} [SliceT P t E] [ElT P E k zd bytes] (hH : H b = some (T, cells)) (hc : off + c * k ≤ cells.length)
    (hx : e.ev x = some (.ref b off n k)) (hlo : boundD e lo 0 = some 0) (hhi : boundD e (some hi) n = some c) :
    Sta P H e ⟨dst, .slice t x lo (some hi) none, ty, pos, af, gd⟩ (.ref b off c k) := .mk fun ρ w ha ho => by
  obtain ⟨inf, z, hi', hz1, hz2, hz3⟩ := (ElT.z (P := P) (E := E) (k := k) (zd := zd) (bytes := bytes)).is
  have hkp := ElT.pos (P := P) (E := E) (k := k) (zd := zd) (bytes := bytes)
  have h := ha x _ hx
  generalize hv : ρ x = v at h
  cases h with
  | ref hb hs hl hcm =>
    rename_i cap cs T'
    obtain ⟨cs', hb', hlen, _⟩ := ho b T cells hH
    rw [hb] at hb'
    cases hb'
    have hcap : c ≤ cap := by
      have : c * k ≤ cap * k := by omega
      exact Nat.le_of_mul_le_mul_right this hkp
    have hbd := run_sliceBounds (P := P) (w := w) (n := n) (cap := cap) (a := 0) (b := c) ha (lo := lo) (hi := some hi) hlo hhi (Nat.zero_le _) hcap
    have hr : (Instr.sliceAt t (.slice (some ⟨b, off, none⟩) n cap) (lo.map ρ) ((some hi).map ρ) none).run P w = .ok (.slice (some ⟨b, off, none⟩) c cap) w := by
      simp only [Instr.sliceAt, Instr.slice, Sem.run_bind, run_underlying (SliceT.h (P := P) (t := t) (E := E)), Result.andThen_ok]
      have e0 : (⟨b, off, none⟩ : Addr).add (0 * inf.size) = ⟨b, off, none⟩ := by rw [addr_add]; simp
      simp only [hbd, run_sizeOf hi', Result.andThen_ok, Sem.run_pure, Sem.run_bind]
      simp [addr_add]
    simp only [OpTo, execOp, hv, Sem.run_bind]
    simp only [Option.map_some, Option.map_none] at hr ⊢
    rw [hr]
    simp only [Result.andThen_ok, Sem.run_pure]
    exact ⟨.ref hb hs hcap hcm, ho, .refl _ _⟩

/-- Nothing appended. -/
theorem s_appendNone {t E : TypeId} {x y : Operand} {b off n k bytes : Nat} {zd : List D} [SliceT P t E] [ElT P E k zd bytes] (hx : e.ev x = some (.ref b off n k)) (hy : e.ev y = some (.list k [])) :
    Sta P H e ⟨dst, .call ⟨.builtin .append, #[x, y], #[t, t]⟩, ty, pos, af, gd⟩ (.ref b off n k) := .mk fun ρ w ha ho => by
  obtain ⟨inf, z, hi, hz1, hz2, hz3⟩ := (ElT.z (P := P) (E := E) (k := k) (zd := zd) (bytes := bytes)).is
  have hu := SliceT.h (P := P) (t := t) (E := E)
  have h := ha x _ hx
  have h' := ha y _ hy
  generalize hv : ρ x = v at h
  generalize hv' : ρ y = v' at h'
  generalize hl : ([] : List D) = l' at h'
  cases h with
  | ref hb hs hlc hcm =>
    rename_i cap cs T
    cases h' with
    | list vals hc hm h1 h2 h3 =>
      subst hl
      rename_i a c
      have hr : (Builtin.append_ #[t, t] ty #[.slice (some ⟨b, off, none⟩) n cap, .slice a 0 c]).run P w = .ok (.slice (some ⟨b, off, none⟩) n cap) w := by
        cases a <;> simp [Builtin.append_, run_underlying hu, run_sizeOf hi, Builtin.lenOf, hlc, Builtin.firstCells, loadCells, loadCellsFrom, storeCells]
      have hv0 : ρ y = Value.slice a 0 c := hv'
      rw [← hv, ← hv0] at hr
      simp only [OpTo, run_exec_append hr]
      rw [hv]
      exact ⟨.ref hb hs hlc hcm, ho, .refl _ _⟩

end

/-- An operation whose result nothing reads: it runs, and the world is as it was. -/
def DeadOp (P : Program) (H : Heap) (e : Env) (o : Oper) : Prop := ∀ (ρ : Operand → Value) (w : World), Agree ρ w H e → HOK w H → OpTo P ρ o w fun _ w' => w' = w

theorem St.dead {C : Ctx} {a : Act} {w : World} {e l : Env} {H : Heap} {s : Nat} (h : St C a w e H) (hl : Has e l) (hs : ∀ t d, l.get t = some d → t ≠ s) (v : Value) : St C (a.put (some s) v) w l H := by
  refine ⟨by simp [Act.put, h.size], h.defers, fun t x hx => ?_, h.heap, h.ext⟩
  obtain ⟨u, hu, hr⟩ := h.env t x (hl.get hx)
  refine ⟨u, ?_, hr⟩
  simp only [Act.put]
  rw [Array.getElem?_setIfInBounds, if_neg (fun hh => hs t x hx hh.symm)]
  exact hu

theorem RO.soundD {C : Ctx} {ops : List Oper} {o0 : Oper} {s : Nat} {l : Env} {K : Env → Heap → Prop} {Q : Exit → Act → World → Prop} (hg0 : o0.guard = none) (hd0 : o0.dst = some s) (hs : ∀ t d, l.get t = some d → t ≠ s)
    (hQ : ∀ H a w, K l H → St C a w l H → Q .normal a w) :
    ∀ (r : List Oper) (e : Env) (H : Heap) (a : Act) (w : World), RO C ops r e H (fun e' H' => DeadOp C.P H' e' o0 ∧ Has e' l ∧ K l H') → St C a w e H → wpList C.P ops.toArray Q (r ++ [o0]) a w
  | [], e, H, a, w, ⟨h1, h2, h3⟩, hst => by
    refine wpList_step fun L hL => ?_
    simp only [Region.wanted, hg0, if_true]
    refine wp_of_opTo (h1 a.eval w hst.agree hst.heap) fun v w' hw => hL _ _ (wpList_nil (hQ H _ _ h3 ?_))
    subst hw
    rw [hd0]
    exact hst.dead h2 hs v
  | o :: rest, e, H, a, w, h, hst => by
    obtain ⟨hd, hg⟩ := h
    have yes : (OpD C.P H e o fun d H' => RO C ops rest (e.putO o.dst d) H' _) → ∀ L : Act → World → Prop, (∀ a w, wpList C.P ops.toArray Q (rest ++ [o0]) a w → L a w) → o.wp C.P a w L Q := fun hop L hL =>
      wp_of_opTo (hop.go a.eval w hst.agree hst.heap) fun v w' ⟨d, H', hk, hr, ho, he⟩ => hL _ _ (RO.soundD hg0 hd0 hs hQ rest _ H' _ w' hk (hst.put hd hr ho he))
    have no : RO C ops rest (e.putO o.dst (.tup [])) H _ → wpList C.P ops.toArray Q (rest ++ [o0]) (a.put o.dst undef) w := fun hk =>
      RO.soundD hg0 hd0 hs hQ rest _ H _ w hk (hst.put hd (RepsA.tup (vs := #[]) (ds := []) ⟨rfl, fun j x hx => by simp at hx⟩) hst.heap (.refl _ _))
    refine wpList_step fun L hL => ?_
    unfold GuardIs at hg
    cases hgu : o.guard with
    | none =>
      rw [hgu] at hg
      simp only [Region.wanted, hgu, if_true]
      exact yes hg L hL
    | some jw =>
      obtain ⟨j, want⟩ := jw
      rw [hgu] at hg
      obtain ⟨b, hb, h1, h2⟩ := hg
      have hy := guard_yielded hst hb
      by_cases hbw : b = some want
      · rw [if_pos (by simp only [Region.wanted, hgu, hy, hbw]; exact beq_self_eq_true _)]
        exact yes (h1 hbw) L hL
      · rw [if_neg (by simp only [Region.wanted, hgu, hy]; intro hx; exact hbw (by simpa using hx))]
        exact hL _ _ (no (h2 hbw))

/-- A region whose last operation's result nothing reads. -/
theorem DW.regionDead {C : Ctx} {e : Env} {H : Heap} {Q : Post} {id : Nat} {ops : List Oper} (n : Nat) {o0 : Oper} {s : Nat} (l : Env) (hops : ops = ops.take n ++ [o0]) (hg0 : o0.guard = none) (hd0 : o0.dst = some s) (hs : ∀ t d, l.get t = some d → t ≠ s)
    (h : RO C ops (ops.take n) e H fun e' H' => DeadOp C.P H' e' o0 ∧ Has e' l ∧ Q .normal l H') : DW C (.region id ops.toArray false) e H Q := .mk fun a w hst =>
  wp_region_lit (by
    have := RO.soundD (Q := lift C Q) (K := fun l H => Q .normal l H) hg0 hd0 hs (fun H' a' w' hk hs' => ⟨l, H', hk, hs'⟩) (ops.take n) e H a w h hst
    rw [← hops] at this
    exact this)

section
variable {P : Program} {H : Heap} {e : Env} {dst : Option Tmp} {ty : TypeId} {pos : String} {af : Array Edge} {gd : Option (Nat × Bool)}

/-- s[0:1:1] of a mutable slice of one element: it runs. -/
theorem dead_slice3 {t E : TypeId} {x lo hi mx : Operand} {b off k bytes : Nat} {zd : List D} [SliceT P t E] [ElT P E k zd bytes] (hx : e.ev x = some (.ref b off 1 k)) (h0 : e.ev lo = some (I 0)) (h1 : e.ev hi = some (I 1)) (h2 : e.ev mx = some (I 1)) :
    DeadOp P H e ⟨dst, .slice t x (some lo) (some hi) (some mx), ty, pos, af, gd⟩ := fun ρ w ha ho => by
  obtain ⟨inf, z, hi', hz1, hz2, hz3⟩ := (ElT.z (P := P) (E := E) (k := k) (zd := zd) (bytes := bytes)).is
  have h := ha x _ hx
  have e0 := rep_int (ha lo _ h0)
  have e1 := rep_int (ha hi _ h1)
  have e2 := rep_int (ha mx _ h2)
  generalize hv : ρ x = v at h
  cases h with
  | ref hb hs hl hcm =>
    rename_i cap cs T'
    have hl' : (1 : Int) ≤ (cap : Int) := by omega
    simp [OpTo, execOp, hv, e0, e1, e2, Instr.sliceAt, Instr.slice, Instr.sliceBounds, Instr.sliceBound, asIntOf, run_underlying (SliceT.h (P := P) (t := t) (E := E)), run_sizeOf hi', hl, hl']

theorem run_exec_clear {ρ : Operand → Value} {w w' : World} {t : TypeId} {x : Operand} {v : Value} (h : (Builtin.clear_ #[t] ty #[ρ x]).run P w = .ok v w') :
    (execOp ρ ⟨dst, .call ⟨.builtin .clear, #[x], #[t]⟩, ty, pos, af, gd⟩).run P w = .ok (.value v) w' := by
  simp [execOp, resolve, invoke, builtin, h, Sem.run_bind]

/-- One element of a mutable slice cleared. -/
theorem opD_clear1 {t E T : TypeId} {x : Operand} {b k bytes : Nat} {cells zd : List D} {K : D → Heap → Prop} [SliceT P t E] [ElT P E k zd bytes] (hx : e.ev x = some (.ref b 0 1 k)) (hH : H b = some (T, cells)) (hl : cells.length = k) (hK : K (.tup []) (H.set b (T, zd))) :
    OpD P H e ⟨dst, .call ⟨.builtin .clear, #[x], #[t]⟩, ty, pos, af, gd⟩ K := .mk fun ρ w ha ho => by
  have hz := ElT.z (P := P) (E := E) (k := k) (zd := zd) (bytes := bytes)
  obtain ⟨inf, z, hi, hz1, hz2, hz3⟩ := hz.is
  have hu := SliceT.h (P := P) (t := t) (E := E)
  have h := ha x _ hx
  generalize hv : ρ x = v at h
  cases h with
  | ref hb hs hlc hcm =>
    rename_i cap cs T'
    obtain ⟨cs', hb', hlen, hcs⟩ := ho b T cells hH
    rw [hb] at hb'
    cases hb'
    have hcsz : z.cells.size = k := by rw [hz3]; simp [hz.len]
    have hzc : (Builtin.zeroCells z.cells 1).toList = zd.map litV := by
      have : Builtin.zeroCells z.cells 1 = z.cells := by
        apply Array.ext
        · simp [Builtin.zeroCells]
        · intro i h1 h2
          simp [Builtin.zeroCells, Nat.mod_eq_of_lt h2, h2]
      rw [this, hz3]
    have hone : ∀ v ∈ zd.map litV, v.oneCell' = true := fun v hv => by
      obtain ⟨d, hd, rfl⟩ := List.mem_map.1 hv
      have := List.all_eq_true.1 hz.lit d hd
      exact (rep_lit w H this).oneCell (litOk_cell this)
    have hst := run_storeCells_at P b 0 T (zd.map litV) 0 cs w hb (by simp [hz.len]; omega) hone
    simp only [Nat.add_zero, List.take_zero, List.nil_append, List.length_map, hz.len, Nat.zero_add] at hst
    have hrun : (Builtin.clear_ #[t] ty #[.slice (some ⟨b, 0, none⟩) 1 cap]).run P w = .ok (.tuple #[]) (w.setRow b (zd.map litV ++ cs.toList.drop k).toArray) := by
      simp [Builtin.clear_, run_underlying hu, run_zeroValue hi hz1, hzc, hst]
    rw [← hv] at hrun
    simp only [OpTo, run_exec_clear hrun]
    refine ⟨_, _, hK, RepsA.tup (vs := #[]) (ds := []) ⟨rfl, fun j x h => by simp at h⟩, ?_⟩
    refine ext_setCells ho hH hb (by simp [hz.len]; omega) (by simp [hz.len]) fun j y hy => ?_
    have hj : j < zd.length := (List.getElem?_eq_some_iff.1 hy).1
    have hy2 := List.mem_of_getElem? hy
    have hlo := List.all_eq_true.1 hz.lit y hy2
    refine ⟨litOk_cell hlo, litV y, ?_, rep_lit w H hlo⟩
    rw [List.getElem?_toArray, List.getElem?_append_left (by simpa using hj), List.getElem?_map, hy]
    rfl

/-- A mutable slice is not nil. -/
theorem s_eqNilRef {t t2 E : TypeId} {x : Operand} {k b off n bytes : Nat} {zd : List D} [SliceT P t E] [ElT P E k zd bytes] (hx : e.ev x = some (.ref b off n k)) :
    Sta P H e ⟨dst, .binOp .eql t x (.const (.slice none 0 0)) t2, ty, pos, af, gd⟩ (.bool false) := .mk fun ρ w ha ho => by
  have h := ha x _ hx
  have hc := ha.const (.slice none 0 0)
  generalize hv : ρ x = v at h
  cases h with
  | ref hb hs hl hcm =>
    rename_i cap cs T
    have hr := Lib.run_eql_slice_nil (P := P) w t E (some ⟨b, off, none⟩) n cap 0 0 SliceT.h
    simp only [OpTo, execOp, hv, hc, eqGuard, Sem.run_bind, Sem.run_pure]
    simp [hr]
    exact ⟨.bool _, ho, .refl _ _⟩

end

end Go.Proofs.YtcdihmhmoddppaaGreat

namespace Go.Proofs
open Go.Shelf
def Tryz.lays125_ren : Go.Shelf.Ren := ⟨fun | 125 => 139 | 128 => 156 | 129 => 157 | n => n, fun | 46 => 135 | 3 => 3 | 51 => 174 | 53 => 176 | 4 => 4 | 5 => 5 | 9 => 9 | n => n, fun | n => n⟩
theorem Tryz.lays125 : Go.Proofs.Lays.n125 Tryz.prog Tryz.lays125_ren := {
  mixed := by kernel_rfl
  f125 := Tryz.func139.trans (congrArg some (by kernel_rfl))
  f128 := Tryz.func156.trans (congrArg some (by kernel_rfl))
  f129 := Tryz.func157.trans (congrArg some (by kernel_rfl))
  t3 := Tryz.underlying3
  a3 := Tryz.isAgg3
  z3 := Tryz.sizeOf3
  v3 := Tryz.zeroValue3
  t4 := Tryz.underlying4
  a4 := Tryz.isAgg4
  z4 := Tryz.sizeOf4
  v4 := Tryz.zeroValue4
  t5 := Tryz.underlying5
  a5 := Tryz.isAgg5
  z5 := Tryz.sizeOf5
  v5 := Tryz.zeroValue5
  t9 := Tryz.underlying9
  a9 := Tryz.isAgg9
  z9 := Tryz.sizeOf9
  v9 := Tryz.zeroValue9
  t46 := Tryz.underlying135
  a46 := Tryz.isAgg135
  z46 := Tryz.sizeOf135
  v46 := Tryz.zeroValue135
  t51 := Tryz.underlying174
  a51 := Tryz.isAgg174
  z51 := Tryz.sizeOf174
  v51 := Tryz.zeroValue174
  t53 := Tryz.underlying176
  a53 := Tryz.isAgg176
  z53 := Tryz.sizeOf176
  v53 := Tryz.zeroValue176 }
/-- bits.Len: "Len returns the minimum number of bits required to represent x; the result is 0 for x == 0.": IT RETURNS 'Lib.bitLen x'; the world is as it was. (A uint has 64 bits in the model.) ITS CALLEE bits.Len64 IS MET BY ITS OWN CONTRACT OFF THE SHELF (lay that first). (LAID: no walk: one application.) -/
theorem Tryz.bits_Len (x : Int) (w : World) (h0 : 0 ≤ x) (h1 : x ≤ 18446744073709551615) :
    Calls Tryz.prog 139 #[.int .u64 x] w fun e w' => e = .returned (.int .i64 (Lib.bitLen x.toNat)) ∧ w' = w := Any.bits_Len Tryz.lays125 x w h0 h1
end Go.Proofs

namespace Go.Proofs.YtcdihmhmoddppaaGreat
open Go.RowKit Go.ChangeShapes Go.WideShapes Go.ChangeAt
set_option linter.unusedVariables false
set_option linter.unusedSimpArgs false

theorem Tryz.ownK : ownKnob Tryz.prog.godebug = none := by kernel_rfl
theorem Tryz.laidOutK : laidOutB Tryz.prog = true := by kernel_rfl

/-- An argument that is one cell. -/
theorem arg_cell {α : Type} {P : Program} {t : TypeId} {f : α → D} {Q : α → Prop} (ho : Opens P t 1 f Q) (hf : ∀ a, cellsOf (f a) = [f a]) {H : Type} {enc : TypeId × Value → H} {W : World} {v : Value} {d : DataW H} {p : List MemPlace} (hv : v.cells = #[v])
    (h : DataW.Trod enc P W 0 (fun _ => true) true t v d p) (hw : (d.weights P t).all (· ≤ reachBytes) = true) : ∃ a, Rep W noHeap v (f a) ∧ Q a := by
  obtain ⟨fuel, hf'⟩ := h
  obtain ⟨a, _, hr, hq⟩ := ho H enc W fuel _ d p hf' hw
  rw [hv, hf] at hr
  obtain ⟨u, hu, hrep⟩ := hr.2 0 (f a) rfl
  simp at hu
  subst hu
  exact ⟨a, hrep, hq⟩

/-- An argument that is a struct. -/
theorem arg_agg {α : Type} {P : Program} {t : TypeId} {k : Nat} {f : α → D} {Q : α → Prop} (ho : Opens P t k f Q) (hf : ∀ a, f a = .agg (cellsOf (f a))) {H : Type} {enc : TypeId × Value → H} {W : World} {cs : Array Value} {d : DataW H} {p : List MemPlace}
    (h : DataW.Trod enc P W 0 (fun _ => true) true t (.agg cs) d p) (hw : (d.weights P t).all (· ≤ reachBytes) = true) : ∃ a, Rep W noHeap (.agg cs) (f a) ∧ Q a := by
  obtain ⟨fuel, hf'⟩ := h
  obtain ⟨a, _, hr, hq⟩ := ho H enc W fuel _ d p hf' hw
  refine ⟨a, ?_, hq⟩
  rw [hf a]
  have : (Value.agg cs).cells.toList.toArray = cs := by simp [Value.cells]
  rw [this] at hr
  exact hr.agg

theorem slice_cells (a : Option Addr) (n c : Nat) : (Value.slice a n c).cells = #[.slice a n c] := rfl
theorem int_cells (k : IntKind) (n : Int) : (Value.int k n).cells = #[.int k n] := rfl

/-- The arguments, one after the other. -/
inductive ArgsAre (W : World) : List Value → List D → Prop
  | nil : ArgsAre W [] []
  | cons {v : Value} {d : D} {vs : List Value} {ds : List D} (h : Rep W noHeap v d) (r : ArgsAre W vs ds) : ArgsAre W (v :: vs) (d :: ds)

theorem ArgsAre.reps {W : World} : ∀ {vs : List Value} {ds : List D}, ArgsAre W vs ds → RepsA W noHeap vs.toArray ds
  | _, _, .nil => ⟨rfl, fun j x h => by simp at h⟩
  | _, _, .cons h r => by
    have ih := r.reps
    refine ⟨by simpa using ih.1, fun j x hx => ?_⟩
    cases j with
    | zero => simp at hx; subst hx; exact ⟨_, by simp, h⟩
    | succ j =>
      obtain ⟨u, hu, hr⟩ := ih.2 j x (by simpa using hx)
      exact ⟨u, by simpa using hu, hr⟩

theorem weights_head {H : Type} {P : Program} {t : TypeId} {ts : List TypeId} {d : DataW H} {ds : List (DataW H)} (h : (DataW.weightsEach P (t :: ts) (d :: ds)).all (· ≤ reachBytes) = true) : (d.weights P t).all (· ≤ reachBytes) = true ∧ (DataW.weightsEach P ts ds).all (· ≤ reachBytes) = true := by
  simpa only [DataW.weightsEach, List.all_append, Bool.and_eq_true] using h

theorem Tryz.opensInt : Opens Tryz.prog 3 1 I fitsInt := opens_int Tryz.underlying3
theorem Tryz.opensInts : Opens Tryz.prog 37 1 intsD (fun l => (∀ a ∈ l, fitsInt a) ∧ l.length * Tryz.prog.bytesOf 3 ≤ reachBytes) := opens_slice Tryz.underlying37 (by kernel_rfl) (by decide) (fun _ => rfl) (opens_int Tryz.underlying3)
theorem Tryz.opensRing : Opens Tryz.prog 23 4 rgD (fun r => fitsInt r.p ∧ fitsInt r.n ∧ fitsInt r.order ∧ fitsInt r.over) := opens_ring Tryz.underlying23 (by kernel_rfl) Tryz.underlying3 (by kernel_rfl) ⟨rfl, rfl⟩ ⟨rfl, rfl⟩ ⟨rfl, rfl⟩ ⟨rfl, rfl⟩

theorem len_le {n b : Nat} (h : n * b ≤ reachBytes) (hb : 8 ≤ b) : n ≤ 17592186044416 := by
  have h1 : n * 8 ≤ n * b := Nat.mul_le_mul_left _ hb
  unfold reachBytes at h
  omega

theorem Tryz.bytes_int : 8 ≤ Tryz.prog.bytesOf 3 := of_decide_eq_true (by kernel_rfl)
theorem Tryz.bytes_ints : 8 ≤ Tryz.prog.bytesOf 37 := of_decide_eq_true (by kernel_rfl)

theorem inv_plain (w : World) (H : Heap) : TabsOk w H := fun g cs h => by cases h

/-- What a pure law that says true comes to. -/
theorem law_calls {P : Program} {f : FuncId} {ds : List D} (hp : Pure P f ds (.bool true)) {W : World} (hi : TabsOk W noHeap) {args : Array Value} (ha : ArgsAre W args.toList ds) : Calls P f args W fun e W' => e = .returned (.bool true) ∧ Below W.heap.size W W' := by
  have hr := ha.reps
  rw [Array.toArray_toList] at hr
  refine ((hp noHeap).calls W args (hok_none W hi) hr).mono fun e W' ⟨v, he, hv, _, hx⟩ => ⟨?_, ext_below hx⟩
  rw [he, rep_bool hv]

end Go.Proofs.YtcdihmhmoddppaaGreat

namespace Go.Proofs.YtcdihmhmoddppaaGreat
open Go.RowKit Go.ChangeShapes Go.WideShapes Go.ChangeAt
set_option linter.unusedVariables false
set_option linter.unusedSimpArgs false

theorem opens_two {α β γ : Type} {P : Program} {t t0 t1 : TypeId} {f0 f1 : Field} {f : γ → D} {g0 : α → D} {g1 : β → D} {Q0 : α → Prop} {Q1 : β → Prop} (mk : α → β → γ) (hu : P.underlying t = some (.struct #[f0, f1])) (hc : P.cellsOf t = 2)
    (hc0 : P.cellsOf t0 = 1) (hc1 : P.cellsOf t1 = 1) (h0 : f0.type = t0 ∧ f0.offset = 0) (h1 : f1.type = t1 ∧ f1.offset = 1) (hf : ∀ a b, cellsOf (f (mk a b)) = [g0 a, g1 b]) (hg0 : ∀ a, cellsOf (g0 a) = [g0 a]) (hg1 : ∀ a, cellsOf (g1 a) = [g1 a])
    (ho0 : Opens P t0 1 g0 Q0) (ho1 : Opens P t1 1 g1 Q1) : Opens P t 2 f (fun c => ∃ a b, c = mk a b ∧ Q0 a ∧ Q1 b) := by
  intro H enc W fuel cs d ps h hw
  cases fuel with
  | zero => simp [DataW.trod] at h
  | succ fuel =>
    unfold DataW.trod at h
    rw [hu] at h
    split at h <;> try (simp at *; done)
    rename_i cs _ _ fs h1'
    cases h1'
    split at h
    · rename_i hlen
      rw [hc] at hlen
      match cs, hlen with
      | [c0, c1], _ =>
        simp only [List.mapM_cons, List.mapM_nil, h0.1, h0.2, h1.1, h1.2, hc0, hc1, List.drop, List.take] at h
        cases e0 : DataW.trod enc P W 0 (fun _ => true) true fuel t0 [c0] with
        | none => simp [e0] at h
        | some y0 =>
          cases e1 : DataW.trod enc P W 0 (fun _ => true) true fuel t1 [c1] with
          | none => simp [e0, e1] at h
          | some y1 =>
            simp [e0, e1] at h
            obtain ⟨rfl, _⟩ := h
            obtain ⟨d0, p0⟩ := y0
            obtain ⟨d1, p1⟩ := y1
            simp only [DataW.weights, hu, List.map_cons, List.map_nil, DataW.weightsEach, h0.1, h1.1, List.append_nil, List.all_append, Bool.and_eq_true] at hw
            obtain ⟨a, ha1, ha2, ha3⟩ := ho0 H enc W fuel [c0] d0 p0 e0 hw.1
            obtain ⟨b, hb1, hb2, hb3⟩ := ho1 H enc W fuel [c1] d1 p1 e1 hw.2
            rw [hg0] at ha2
            rw [hg1] at hb2
            refine ⟨mk a b, by rw [hf]; rfl, ?_, a, b, rfl, ha3, hb3⟩
            rw [hf]
            refine ⟨rfl, fun j x hx => ?_⟩
            match j, hx with
            | 0, hx =>
              cases hx
              obtain ⟨v, hv, hr⟩ := ha2.2 0 (g0 a) rfl
              simp at hv
              subst hv
              exact ⟨_, rfl, hr⟩
            | 1, hx =>
              cases hx
              obtain ⟨v, hv, hr⟩ := hb2.2 0 (g1 b) rfl
              simp at hv
              subst hv
              exact ⟨_, rfl, hr⟩
            | j + 2, hx => simp at hx
    · cases h

/-- What is known of a term that is handed in. -/
def TmIn (P : Program) (ti : TypeId) (t : Tm) : Prop := ∃ a b, t = ⟨a, b⟩ ∧ fitsInt a ∧ ((∀ x ∈ b, fitsInt x) ∧ b.length * P.bytesOf ti ≤ reachBytes)

theorem Tryz.opensTerm : Opens Tryz.prog 50 2 tmD (TmIn Tryz.prog 3) := opens_two (fun c e => (⟨c, e⟩ : Tm)) Tryz.underlying50 (by kernel_rfl) (by kernel_rfl) (by kernel_rfl) ⟨rfl, rfl⟩ ⟨rfl, rfl⟩ (fun _ _ => rfl) (fun _ => rfl) (fun _ => rfl) Tryz.opensInt Tryz.opensInts

theorem Tryz.opensPoly : Opens Tryz.prog 31 1 plD (fun l => (∀ a ∈ l, TmIn Tryz.prog 3 a) ∧ l.length * Tryz.prog.bytesOf 50 ≤ reachBytes) := opens_slice Tryz.underlying31 (by kernel_rfl) (by decide) (fun _ => rfl) Tryz.opensTerm

theorem Tryz.opensTerms : Opens Tryz.prog 30 1 plD (fun l => (∀ a ∈ l, TmIn Tryz.prog 3 a) ∧ l.length * Tryz.prog.bytesOf 50 ≤ reachBytes) := opens_slice Tryz.underlying30 (by kernel_rfl) (by decide) (fun _ => rfl) Tryz.opensTerm

theorem Tryz.opensPolys : Opens Tryz.prog 32 1 vcD (fun l => (∀ f ∈ l, (∀ a ∈ f, TmIn Tryz.prog 3 a) ∧ f.length * Tryz.prog.bytesOf 50 ≤ reachBytes) ∧ l.length * Tryz.prog.bytesOf 31 ≤ reachBytes) := opens_slice Tryz.underlying32 (by kernel_rfl) (by decide) (fun _ => rfl) Tryz.opensPoly

theorem Tryz.opensVec : Opens Tryz.prog 33 1 vcD (fun l => (∀ f ∈ l, (∀ a ∈ f, TmIn Tryz.prog 3 a) ∧ f.length * Tryz.prog.bytesOf 50 ≤ reachBytes) ∧ l.length * Tryz.prog.bytesOf 31 ≤ reachBytes) := opens_slice Tryz.underlying33 (by kernel_rfl) (by decide) (fun _ => rfl) Tryz.opensPoly

theorem Tryz.opensVecs : Opens Tryz.prog 24 1 vcsD (fun l => (∀ v ∈ l, (∀ f ∈ v, (∀ a ∈ f, TmIn Tryz.prog 3 a) ∧ f.length * Tryz.prog.bytesOf 50 ≤ reachBytes) ∧ v.length * Tryz.prog.bytesOf 31 ≤ reachBytes) ∧ l.length * Tryz.prog.bytesOf 33 ≤ reachBytes) := opens_slice Tryz.underlying24 (by kernel_rfl) (by decide) (fun _ => rfl) Tryz.opensVec

theorem Tryz.bytes_term : 8 ≤ Tryz.prog.bytesOf 50 := of_decide_eq_true (by kernel_rfl)
theorem Tryz.bytes_poly : 8 ≤ Tryz.prog.bytesOf 31 := of_decide_eq_true (by kernel_rfl)
theorem Tryz.bytes_vec : 8 ≤ Tryz.prog.bytesOf 33 := of_decide_eq_true (by kernel_rfl)

end Go.Proofs.YtcdihmhmoddppaaGreat

namespace Go.Proofs.YtcdihmhmoddppaaGreat
open Go.RowKit
set_option linter.unusedVariables false

theorem plLe {f : Pl} (b : (∀ a ∈ f, TmIn Tryz.prog 3 a) ∧ f.length * Tryz.prog.bytesOf 50 ≤ reachBytes) : f.length ≤ 4611686018427387904 := by have := len_le b.2 Tryz.bytes_term; omega

theorem vcLe {v : Vc} (b : (∀ f ∈ v, (∀ a ∈ f, TmIn Tryz.prog 3 a) ∧ f.length * Tryz.prog.bytesOf 50 ≤ reachBytes) ∧ v.length * Tryz.prog.bytesOf 31 ≤ reachBytes) :
    v.length ≤ 4611686018427387904 ∧ ∀ f ∈ v, f.length ≤ 4611686018427387904 := ⟨by have := len_le b.2 Tryz.bytes_poly; omega, fun f hf => plLe (b.1 f hf)⟩

theorem vcsLe {l : List Vc} (b : (∀ v ∈ l, (∀ f ∈ v, (∀ a ∈ f, TmIn Tryz.prog 3 a) ∧ f.length * Tryz.prog.bytesOf 50 ≤ reachBytes) ∧ v.length * Tryz.prog.bytesOf 31 ≤ reachBytes) ∧ l.length * Tryz.prog.bytesOf 33 ≤ reachBytes) :
    l.length ≤ 4611686018427387904 ∧ ∀ v ∈ l, v.length ≤ 4611686018427387904 ∧ ∀ f ∈ v, f.length ≤ 4611686018427387904 := ⟨by have := len_le b.2 Tryz.bytes_vec; omega, fun v hv => vcLe (b.1 v hv)⟩

end Go.Proofs.YtcdihmhmoddppaaGreat

namespace Go.Proofs.YtcdihmhmoddppaaGreat
open Go.RowKit
set_option linter.unusedVariables false
set_option linter.unusedSimpArgs false

theorem within_pure (n lo hi : Int) : Pure Tryz.prog 106 [I n, I lo, I hi] (.bool (decide (lo ≤ n) && decide (n ≤ hi))) := by
  intro H
  refine PureH.of_body Tryz.func106 rfl (by decide) (Nat.le_of_ble_eq_true rfl) fun w0 => ?_
  (repeat (first | refine RO.S ?_ | refine RO.Y ?_ | refine RO.no rfl (by decide) rfl ?_ | refine RO.nil ?_ | refine DW.region ?_ | refine DW.seq ?_ | refine DW.block ?_ | refine DW.skip ?_ | refine DW.exit ?_ | refine DW.condT rfl ?_ | refine DW.condF rfl ?_))
  generalize decide (lo ≤ n) = b
  cases b <;> ((repeat (first | refine RO.S ?_ | refine RO.Y ?_ | refine RO.no rfl (by decide) rfl ?_ | refine RO.nil ?_ | refine DW.region ?_ | refine DW.seq ?_ | refine DW.block ?_ | refine DW.skip ?_ | refine DW.exit ?_ | refine DW.condT rfl ?_ | refine DW.condF rfl ?_))) <;> exact DW.ret ⟨.inl rfl, _, rfl, Over.refl _, .same _⟩

theorem between_pure (n lo hi : Int) : Pure Tryz.prog 40 [I n, I lo, I hi] (.bool (decide (lo ≤ n) && decide (n ≤ hi))) := by
  intro H
  refine PureH.of_body Tryz.func40 rfl (by decide) (Nat.le_of_ble_eq_true rfl) fun w0 => ?_
  (repeat (first | refine RO.S ?_ | refine RO.Y ?_ | refine RO.no rfl (by decide) rfl ?_ | refine RO.nil ?_ | refine DW.region ?_ | refine DW.seq ?_ | refine DW.block ?_ | refine DW.skip ?_ | refine DW.exit ?_ | refine DW.condT rfl ?_ | refine DW.condF rfl ?_))
  generalize decide (lo ≤ n) = b
  cases b <;> ((repeat (first | refine RO.S ?_ | refine RO.Y ?_ | refine RO.no rfl (by decide) rfl ?_ | refine RO.nil ?_ | refine DW.region ?_ | refine DW.seq ?_ | refine DW.block ?_ | refine DW.skip ?_ | refine DW.exit ?_ | refine DW.condT rfl ?_ | refine DW.condF rfl ?_))) <;> exact DW.ret ⟨.inl rfl, _, rfl, Over.refl _, .same _⟩

/-- Where the first one is that is so; -1: nowhere. -/
def idxD {α : Type} (g : α → Bool) (l : List α) : Int :=
  match l.findIdx? g with
  | some i => i
  | none => -1

theorem idxD_at {α : Type} {g : α → Bool} {l : List α} {k : Nat} (hk : k < l.length) (h1 : ∀ (j : Nat) (hj : j < l.length), j < k → g l[j] = false) (h2 : g l[k] = true) : idxD g l = k := by
  have : l.findIdx? g = some k := by
    rw [List.findIdx?_eq_some_iff_getElem]
    exact ⟨hk, h2, fun j hj => by rw [h1 j (by omega) hj]; simp⟩
  simp [idxD, this]

theorem idxD_none {α : Type} {g : α → Bool} {l : List α} (h : ∀ (j : Nat) (hj : j < l.length), g l[j] = false) : idxD g l = -1 := by
  have : l.findIdx? g = none := by
    rw [List.findIdx?_eq_none_iff]
    intro x hx
    obtain ⟨j, hj, rfl⟩ := List.mem_iff_getElem.1 hx
    exact h j hj
  simp [idxD, this]

theorem indexFunc_int {H : Heap} {f : FuncId} {caps : List D} (l : List Int) (g : Int → Bool) (hl : l.length ≤ 4611686018427387904) (hg : ∀ x, x ∈ l → PureH Tryz.prog H f (I x :: caps) (.bool (g x))) :
    PureH Tryz.prog H 70 [intsD l, .fn f caps] (I (idxD g l)) := by
  refine PureH.of_body Tryz.func70 rfl (by decide) (Nat.le_of_ble_eq_true rfl) fun w0 => ?_
  (repeat (first | refine RO.S ?_ | refine RO.Y ?_ | refine RO.no rfl (by decide) rfl ?_ | refine RO.nil ?_ | refine DW.region ?_ | refine DW.seq ?_ | refine DW.block ?_ | refine DW.skip ?_ | refine DW.exit ?_ | refine DW.condT rfl ?_ | refine DW.condF rfl ?_))
  refine DW.loopI (fun k : Nat => k ≤ l.length ∧ ∀ (j : Nat) (hj : j < l.length), j < k → g l[j] = false) (fun k => [(0, intsD l), (1, .fn f caps), (7, I l.length), (8, I k)]) (fun _ => H) (fun k => l.length - k) 0 ⟨Nat.zero_le _, fun j hj h => by omega⟩ rfl ⟨rfl, rfl, rfl, rfl, trivial⟩ fun k ⟨hk, hk2⟩ => ?_
  (repeat (first | refine RO.S ?_ | refine RO.Y ?_ | refine RO.no rfl (by decide) rfl ?_ | refine RO.nil ?_ | refine DW.region ?_ | refine DW.seq ?_ | refine DW.block ?_ | refine DW.skip ?_ | refine DW.exit ?_ | refine DW.condT rfl ?_ | refine DW.condF rfl ?_))
  refine DW.cond rfl (fun hb => ?_) (fun hb => ?_)
  · have hlt : k < l.length := by have := of_decide_eq_true hb; omega
    (repeat (first | refine RO.S ?_ | refine RO.Y ?_ | refine RO.no rfl (by decide) rfl ?_ | refine RO.nil ?_ | refine DW.region ?_ | refine DW.seq ?_ | refine DW.block ?_ | refine DW.skip ?_ | refine DW.exit ?_ | refine DW.condT rfl ?_ | refine DW.condF rfl ?_))
    refine RO.sta (sta_call rfl rfl (hg _ (List.getElem_mem hlt))) rfl ?_
    (repeat (first | refine RO.S ?_ | refine RO.Y ?_ | refine RO.no rfl (by decide) rfl ?_ | refine RO.nil ?_ | refine DW.region ?_ | refine DW.seq ?_ | refine DW.block ?_ | refine DW.skip ?_ | refine DW.exit ?_ | refine DW.condT rfl ?_ | refine DW.condF rfl ?_))
    refine DW.cond rfl (fun hb => ?_) (fun hb => ?_)
    · (repeat (first | refine RO.S ?_ | refine RO.Y ?_ | refine RO.no rfl (by decide) rfl ?_ | refine RO.nil ?_ | refine DW.region ?_ | refine DW.seq ?_ | refine DW.block ?_ | refine DW.skip ?_ | refine DW.exit ?_ | refine DW.condT rfl ?_ | refine DW.condF rfl ?_))
      rw [idxD_at hlt hk2 hb]
      exact DW.ret ⟨.inl rfl, _, rfl, Over.refl _, .same _⟩
    · (repeat (first | refine RO.S ?_ | refine RO.Y ?_ | refine RO.no rfl (by decide) rfl ?_ | refine RO.nil ?_ | refine DW.region ?_ | refine DW.seq ?_ | refine DW.block ?_ | refine DW.skip ?_ | refine DW.exit ?_ | refine DW.condT rfl ?_ | refine DW.condF rfl ?_))
      refine ⟨k + 1, ⟨by omega, fun j hj hjk => ?_⟩, by dsimp only; omega, rfl, rfl, rfl, rfl, rfl, trivial⟩
      by_cases h : j = k
      · subst h; exact hb
      · exact hk2 j hj (by omega)
  · (repeat (first | refine RO.S ?_ | refine RO.Y ?_ | refine RO.no rfl (by decide) rfl ?_ | refine RO.nil ?_ | refine DW.region ?_ | refine DW.seq ?_ | refine DW.block ?_ | refine DW.skip ?_ | refine DW.exit ?_ | refine DW.condT rfl ?_ | refine DW.condF rfl ?_))
    have hn : ¬ k < l.length := by have := of_decide_eq_false hb; omega
    rw [idxD_none fun j hj => hk2 j hj (by omega)]
    exact DW.ret ⟨.inl rfl, _, rfl, Over.refl _, .same _⟩

theorem containsFunc_int {H : Heap} {f : FuncId} {caps : List D} (l : List Int) (g : Int → Bool) (hl : l.length ≤ 4611686018427387904) (hg : ∀ x, x ∈ l → PureH Tryz.prog H f (I x :: caps) (.bool (g x))) :
    PureH Tryz.prog H 35 [intsD l, .fn f caps] (.bool (l.any g)) := by
  refine PureH.of_body Tryz.func35 rfl (by decide) (Nat.le_of_ble_eq_true rfl) fun w0 => ?_
  (repeat (first | refine RO.S ?_ | refine RO.Y ?_ | refine RO.no rfl (by decide) rfl ?_ | refine RO.nil ?_ | refine DW.region ?_ | refine DW.seq ?_ | refine DW.block ?_ | refine DW.skip ?_ | refine DW.exit ?_ | refine DW.condT rfl ?_ | refine DW.condF rfl ?_))
  refine RO.sta (sta_call rfl rfl (indexFunc_int l g hl hg)) rfl ?_
  (repeat (first | refine RO.S ?_ | refine RO.Y ?_ | refine RO.no rfl (by decide) rfl ?_ | refine RO.nil ?_ | refine DW.region ?_ | refine DW.seq ?_ | refine DW.block ?_ | refine DW.skip ?_ | refine DW.exit ?_ | refine DW.condT rfl ?_ | refine DW.condF rfl ?_))
  have h : decide (0 ≤ idxD g l) = l.any g := by
    unfold idxD
    cases hx : l.findIdx? g with
    | none =>
      rw [List.findIdx?_eq_none_iff] at hx
      have : l.any g = false := by rw [List.any_eq_false]; intro x hm; simp [hx x hm]
      rw [this]; rfl
    | some i =>
      rw [List.findIdx?_eq_some_iff_getElem] at hx
      obtain ⟨h1, h2, _⟩ := hx
      have : l.any g = true := List.any_eq_true.2 ⟨_, List.getElem_mem h1, h2⟩
      rw [this]
      show decide (0 ≤ (i : Int)) = true
      exact decide_eq_true (by omega)
  rw [← h]
  exact DW.ret ⟨.inl rfl, _, rfl, Over.refl _, .same _⟩

/-- Is a number one modulo p? -/
def inP (p n : Int) : Bool := decide (0 ≤ n) && decide (n ≤ p - 1)

/-- Has a number a divisor? -/
def hasDiv (p : Int) : Bool := (List.range (p.toNat - 2)).any fun i => p % ((i : Int) + 2) == 0

/-- What is wrong with a prime. -/
def ckP (p : Int) : Int := if decide (2 ≤ p) && decide (p ≤ 101) then (if hasDiv p then 4 else 0) else 3

theorem hasDiv_of {p d : Int} (hd : 2 ≤ d) (hp : d < p) (h : p % d = 0) : hasDiv p = true := by
  unfold hasDiv
  rw [List.any_eq_true]
  refine ⟨(d - 2).toNat, by rw [List.mem_range]; omega, ?_⟩
  have : (((d - 2).toNat : Nat) : Int) + 2 = d := by omega
  rw [this, h]
  rfl

theorem hasDiv_not {p : Int} (h : ∀ d, 2 ≤ d → d < p → p % d ≠ 0) : hasDiv p = false := by
  unfold hasDiv
  rw [List.any_eq_false]
  intro i hi
  rw [List.mem_range] at hi
  have := h (i + 2) (by omega) (by omega)
  simpa using this

theorem div_small {p d : Int} (h2 : 2 ≤ d) (hp : d < p) (h : p % d = 0) : ∃ c, 2 ≤ c ∧ c * c ≤ p ∧ p % c = 0 := by
  have hm : d * (p / d) = p := by have := Int.mul_ediv_add_emod p d; omega
  have hq : 2 ≤ p / d := by
    by_cases h' : p / d < 2
    · have : p / d ≤ 1 := by omega
      have : d * (p / d) ≤ d * 1 := Int.mul_le_mul_of_nonneg_left this (by omega)
      omega
    · omega
  by_cases hdd : d * d ≤ p
  · exact ⟨d, h2, hdd, h⟩
  · refine ⟨p / d, hq, ?_, ?_⟩
    · have hle : p / d ≤ d := by
        by_cases h' : d < p / d
        · have : d * d ≤ d * (p / d) := Int.mul_le_mul_of_nonneg_left (by omega) (by omega)
          omega
        · omega
      calc p / d * (p / d) ≤ d * (p / d) := Int.mul_le_mul_of_nonneg_right hle (by omega)
        _ = p := hm
    · have : p = (p / d) * d := by rw [Int.mul_comm]; exact hm.symm
      rw [this]
      have hne : p / d ≠ 0 := by omega
      rw [Int.mul_ediv_cancel _ (by omega), Int.mul_emod_right]

theorem check_pure (p : Int) : Pure Tryz.prog 69 [I p] (I (ckP p)) := by
  intro H
  refine PureH.of_body Tryz.func69 rfl (by decide) (Nat.le_of_ble_eq_true rfl) fun w0 => ?_
  (repeat (first | refine RO.S ?_ | refine RO.Y ?_ | refine RO.no rfl (by decide) rfl ?_ | refine RO.nil ?_ | refine DW.region ?_ | refine DW.seq ?_ | refine DW.block ?_ | refine DW.skip ?_ | refine DW.exit ?_ | refine DW.condT rfl ?_ | refine DW.condF rfl ?_))
  refine RO.sta (sta_call rfl rfl (within_pure _ _ _ _)) rfl ?_
  (repeat (first | refine RO.S ?_ | refine RO.Y ?_ | refine RO.no rfl (by decide) rfl ?_ | refine RO.nil ?_ | refine DW.region ?_ | refine DW.seq ?_ | refine DW.block ?_ | refine DW.skip ?_ | refine DW.exit ?_ | refine DW.condT rfl ?_ | refine DW.condF rfl ?_))
  cases hb : (decide (2 ≤ p) && decide (p ≤ 101))
  · have hc : ckP p = 3 := by unfold ckP; rw [hb]; rfl
    rw [hc]
    (repeat (first | refine RO.S ?_ | refine RO.Y ?_ | refine RO.no rfl (by decide) rfl ?_ | refine RO.nil ?_ | refine DW.region ?_ | refine DW.seq ?_ | refine DW.block ?_ | refine DW.skip ?_ | refine DW.exit ?_ | refine DW.condT rfl ?_ | refine DW.condF rfl ?_))
    exact DW.ret ⟨.inl rfl, _, rfl, Over.refl _, .same _⟩
  · have h2 : 2 ≤ p ∧ p ≤ 101 := by simpa using hb
    (repeat (first | refine RO.S ?_ | refine RO.Y ?_ | refine RO.no rfl (by decide) rfl ?_ | refine RO.nil ?_ | refine DW.region ?_ | refine DW.seq ?_ | refine DW.block ?_ | refine DW.skip ?_ | refine DW.exit ?_ | refine DW.condT rfl ?_ | refine DW.condF rfl ?_))
    refine DW.loopI (fun d : Int => 2 ≤ d ∧ d ≤ 102 ∧ ∀ c, 2 ≤ c → c < d → p % c ≠ 0) (fun d => [(0, I p), (3, I d)]) (fun _ => H) (fun d => (102 - d).toNat) 2 ⟨by omega, by omega, fun c h1 h2 => by omega⟩ rfl ⟨rfl, rfl, trivial⟩ fun d ⟨hd, hd3, hd2⟩ => ?_
    have hdd : 0 ≤ d * d := Int.mul_nonneg (by omega) (by omega)
    have hdd2 : d * d ≤ 102 * 102 := Int.mul_le_mul hd3 hd3 (by omega) (by omega)
    have hdd3 : d ≤ d * d := by
      have : d * 1 ≤ d * d := Int.mul_le_mul_of_nonneg_left (by omega) (by omega)
      omega
    (repeat (first | refine RO.S ?_ | refine RO.Y ?_ | refine RO.no rfl (by decide) rfl ?_ | refine RO.nil ?_ | refine DW.region ?_ | refine DW.seq ?_ | refine DW.block ?_ | refine DW.skip ?_ | refine DW.exit ?_ | refine DW.condT rfl ?_ | refine DW.condF rfl ?_))
    refine DW.cond rfl (fun hb => ?_) (fun hb => ?_)
    · have hlt : d * d ≤ p := of_decide_eq_true hb
      have hdp : d < p := by
        have : d * 2 ≤ d * d := Int.mul_le_mul_of_nonneg_left (by omega) (by omega)
        omega
      (repeat (first | refine RO.S ?_ | refine RO.Y ?_ | refine RO.no rfl (by decide) rfl ?_ | refine RO.nil ?_ | refine DW.region ?_ | refine DW.seq ?_ | refine DW.block ?_ | refine DW.skip ?_ | refine DW.exit ?_ | refine DW.condT rfl ?_ | refine DW.condF rfl ?_))
      (repeat (first | refine RO.S ?_ | refine RO.Y ?_ | refine RO.no rfl (by decide) rfl ?_ | refine RO.nil ?_ | refine DW.region ?_ | refine DW.seq ?_ | refine DW.block ?_ | refine DW.skip ?_ | refine DW.exit ?_ | refine DW.condT rfl ?_ | refine DW.condF rfl ?_))
      refine DW.cond rfl (fun hb => ?_) (fun hb => ?_)
      · have hm : p % d = 0 := by simpa using hb
        have hc : ckP p = 4 := by unfold ckP; rw [if_pos (by simpa using h2), if_pos (hasDiv_of hd hdp hm)]
        rw [hc]
        (repeat (first | refine RO.S ?_ | refine RO.Y ?_ | refine RO.no rfl (by decide) rfl ?_ | refine RO.nil ?_ | refine DW.region ?_ | refine DW.seq ?_ | refine DW.block ?_ | refine DW.skip ?_ | refine DW.exit ?_ | refine DW.condT rfl ?_ | refine DW.condF rfl ?_))
        exact DW.ret ⟨.inl rfl, _, rfl, Over.refl _, .same _⟩
      · have hm : p % d ≠ 0 := by simpa using hb
        (repeat (first | refine RO.S ?_ | refine RO.Y ?_ | refine RO.no rfl (by decide) rfl ?_ | refine RO.nil ?_ | refine DW.region ?_ | refine DW.seq ?_ | refine DW.block ?_ | refine DW.skip ?_ | refine DW.exit ?_ | refine DW.condT rfl ?_ | refine DW.condF rfl ?_))
        refine ⟨d + 1, ⟨by omega, by omega, fun c h1 h2 => ?_⟩, by dsimp only; omega, rfl, rfl, rfl, trivial⟩
        by_cases h : c = d
        · rw [h]; exact hm
        · exact hd2 c h1 (by omega)
    · have hge : ¬ d * d ≤ p := of_decide_eq_false hb
      have hc : ckP p = 0 := by
        unfold ckP
        rw [if_pos (by simpa using h2)]
        have : hasDiv p = false := hasDiv_not fun c h1 h2 h3 => by
          obtain ⟨b, hb1, hb2, hb3⟩ := div_small h1 h2 h3
          have hbd : b < d := by
            by_cases h' : b < d
            · exact h'
            · have : d * d ≤ b * b := Int.mul_le_mul (by omega) (by omega) (by omega) (by omega)
              omega
          exact hd2 b hb1 hbd hb3
        rw [this]; rfl
      rw [hc]
      (repeat (first | refine RO.S ?_ | refine RO.Y ?_ | refine RO.no rfl (by decide) rfl ?_ | refine RO.nil ?_ | refine DW.region ?_ | refine DW.seq ?_ | refine DW.block ?_ | refine DW.skip ?_ | refine DW.exit ?_ | refine DW.condT rfl ?_ | refine DW.condF rfl ?_))
      exact DW.ret ⟨.inl rfl, _, rfl, Over.refl _, .same _⟩

theorem checkPrime_pure (p : Int) : Pure Tryz.prog 54 [I p] (I (ckP p)) := by
  intro H
  refine PureH.of_body Tryz.func54 rfl (by decide) (Nat.le_of_ble_eq_true rfl) fun w0 => ?_
  (repeat (first | refine RO.S ?_ | refine RO.Y ?_ | refine RO.no rfl (by decide) rfl ?_ | refine RO.nil ?_ | refine DW.region ?_ | refine DW.seq ?_ | refine DW.block ?_ | refine DW.skip ?_ | refine DW.exit ?_ | refine DW.condT rfl ?_ | refine DW.condF rfl ?_))
  refine RO.sta (sta_call rfl rfl (between_pure _ _ _ _)) rfl ?_
  (repeat (first | refine RO.S ?_ | refine RO.Y ?_ | refine RO.no rfl (by decide) rfl ?_ | refine RO.nil ?_ | refine DW.region ?_ | refine DW.seq ?_ | refine DW.block ?_ | refine DW.skip ?_ | refine DW.exit ?_ | refine DW.condT rfl ?_ | refine DW.condF rfl ?_))
  cases hb : (decide (2 ≤ p) && decide (p ≤ 101))
  · have hc : ckP p = 3 := by unfold ckP; rw [hb]; rfl
    rw [hc]
    (repeat (first | refine RO.S ?_ | refine RO.Y ?_ | refine RO.no rfl (by decide) rfl ?_ | refine RO.nil ?_ | refine DW.region ?_ | refine DW.seq ?_ | refine DW.block ?_ | refine DW.skip ?_ | refine DW.exit ?_ | refine DW.condT rfl ?_ | refine DW.condF rfl ?_))
    exact DW.ret ⟨.inl rfl, _, rfl, Over.refl _, .same _⟩
  · have h2 : 2 ≤ p ∧ p ≤ 101 := by simpa using hb
    (repeat (first | refine RO.S ?_ | refine RO.Y ?_ | refine RO.no rfl (by decide) rfl ?_ | refine RO.nil ?_ | refine DW.region ?_ | refine DW.seq ?_ | refine DW.block ?_ | refine DW.skip ?_ | refine DW.exit ?_ | refine DW.condT rfl ?_ | refine DW.condF rfl ?_))
    refine DW.loopI (fun d : Int => 2 ≤ d ∧ d ≤ p ∧ ∀ c, 2 ≤ c → c < d → p % c ≠ 0) (fun d => [(0, I p), (3, I d)]) (fun _ => H) (fun d => (p - d).toNat) 2 ⟨by omega, by omega, fun c h1 h2 => by omega⟩ rfl ⟨rfl, rfl, trivial⟩ fun d ⟨hd, hd3, hd2⟩ => ?_
    (repeat (first | refine RO.S ?_ | refine RO.Y ?_ | refine RO.no rfl (by decide) rfl ?_ | refine RO.nil ?_ | refine DW.region ?_ | refine DW.seq ?_ | refine DW.block ?_ | refine DW.skip ?_ | refine DW.exit ?_ | refine DW.condT rfl ?_ | refine DW.condF rfl ?_))
    refine DW.cond rfl (fun hb => ?_) (fun hb => ?_)
    · have hdp : d < p := of_decide_eq_true hb
      (repeat (first | refine RO.S ?_ | refine RO.Y ?_ | refine RO.no rfl (by decide) rfl ?_ | refine RO.nil ?_ | refine DW.region ?_ | refine DW.seq ?_ | refine DW.block ?_ | refine DW.skip ?_ | refine DW.exit ?_ | refine DW.condT rfl ?_ | refine DW.condF rfl ?_))
      (repeat (first | refine RO.S ?_ | refine RO.Y ?_ | refine RO.no rfl (by decide) rfl ?_ | refine RO.nil ?_ | refine DW.region ?_ | refine DW.seq ?_ | refine DW.block ?_ | refine DW.skip ?_ | refine DW.exit ?_ | refine DW.condT rfl ?_ | refine DW.condF rfl ?_))
      refine DW.cond rfl (fun hb => ?_) (fun hb => ?_)
      · have hm : p % d = 0 := by simpa using hb
        have hc : ckP p = 4 := by unfold ckP; rw [if_pos (by simpa using h2), if_pos (hasDiv_of hd hdp hm)]
        rw [hc]
        (repeat (first | refine RO.S ?_ | refine RO.Y ?_ | refine RO.no rfl (by decide) rfl ?_ | refine RO.nil ?_ | refine DW.region ?_ | refine DW.seq ?_ | refine DW.block ?_ | refine DW.skip ?_ | refine DW.exit ?_ | refine DW.condT rfl ?_ | refine DW.condF rfl ?_))
        exact DW.ret ⟨.inl rfl, _, rfl, Over.refl _, .same _⟩
      · have hm : p % d ≠ 0 := by simpa using hb
        (repeat (first | refine RO.S ?_ | refine RO.Y ?_ | refine RO.no rfl (by decide) rfl ?_ | refine RO.nil ?_ | refine DW.region ?_ | refine DW.seq ?_ | refine DW.block ?_ | refine DW.skip ?_ | refine DW.exit ?_ | refine DW.condT rfl ?_ | refine DW.condF rfl ?_))
        refine ⟨d + 1, ⟨by omega, by omega, fun c h1 h2 => ?_⟩, by dsimp only; omega, rfl, rfl, rfl, trivial⟩
        by_cases h : c = d
        · rw [h]; exact hm
        · exact hd2 c h1 (by omega)
    · have hge : ¬ d < p := of_decide_eq_false hb
      have hc : ckP p = 0 := by
        unfold ckP
        rw [if_pos (by simpa using h2)]
        have : hasDiv p = false := hasDiv_not fun c h1 h2 => hd2 c h1 (by omega)
        rw [this]; rfl
      rw [hc]
      (repeat (first | refine RO.S ?_ | refine RO.Y ?_ | refine RO.no rfl (by decide) rfl ?_ | refine RO.nil ?_ | refine DW.region ?_ | refine DW.seq ?_ | refine DW.block ?_ | refine DW.skip ?_ | refine DW.exit ?_ | refine DW.condT rfl ?_ | refine DW.condF rfl ?_))
      exact DW.ret ⟨.inl rfl, _, rfl, Over.refl _, .same _⟩

end Go.Proofs.YtcdihmhmoddppaaGreat

namespace Go.Proofs.YtcdihmhmoddppaaGreat
open Go.RowKit
set_option linter.unusedVariables false
set_option linter.unusedSimpArgs false

/-- The least number that times a is 1; 0: there is none. -/
def invOk (p a b : Int) : Bool := a * b % p == 1 % p

def invGo (p a : Int) : Nat → Int → Int
  | 0, _ => 0
  | n + 1, b => if invOk p a b then b else invGo p a n (b + 1)

def invT (p a : Int) : Int := invGo p a (p.toNat - 1) 1

theorem inverseOf_pure (p a : Int) (hp : 2 ≤ p) (hp2 : p ≤ 101) (ha : 0 ≤ a) (ha2 : a < p) : Pure Tryz.prog 58 [I p, I a] (I (invT p a)) := by
  intro H
  refine PureH.of_body Tryz.func58 rfl (by decide) (Nat.le_of_ble_eq_true rfl) fun w0 => ?_
  (repeat (first | refine RO.S ?_ | refine RO.Y ?_ | refine RO.no rfl (by decide) rfl ?_ | refine RO.nil ?_ | refine DW.region ?_ | refine DW.seq ?_ | refine DW.block ?_ | refine DW.skip ?_ | refine DW.exit ?_ | refine DW.condT rfl ?_ | refine DW.condF rfl ?_))
  refine DW.loopI (fun b : Int => 1 ≤ b ∧ b ≤ p ∧ invGo p a (p - b).toNat b = invT p a) (fun b => [(0, I p), (1, I a), (5, I b)]) (fun _ => H) (fun b => (p - b).toNat) 1 ⟨by omega, by omega, by unfold invT; congr 1; omega⟩ rfl ⟨rfl, rfl, rfl, trivial⟩ fun b ⟨hb1, hb2, hb3⟩ => ?_
  (repeat (first | refine RO.S ?_ | refine RO.Y ?_ | refine RO.no rfl (by decide) rfl ?_ | refine RO.nil ?_ | refine DW.region ?_ | refine DW.seq ?_ | refine DW.block ?_ | refine DW.skip ?_ | refine DW.exit ?_ | refine DW.condT rfl ?_ | refine DW.condF rfl ?_))
  refine DW.cond rfl (fun hb => ?_) (fun hb => ?_)
  · have hlt : b < p := of_decide_eq_true hb
    have hm : 0 ≤ a * b := Int.mul_nonneg ha (by omega)
    have hm2 : a * b ≤ 101 * 101 := Int.mul_le_mul (by omega) (by omega) (by omega) (by omega)
    have hn : (p - b).toNat = (p - (b + 1)).toNat + 1 := by omega
    rw [hn] at hb3
    (repeat (first | refine RO.S ?_ | refine RO.Y ?_ | refine RO.no rfl (by decide) rfl ?_ | refine RO.nil ?_ | refine DW.region ?_ | refine DW.seq ?_ | refine DW.block ?_ | refine DW.skip ?_ | refine DW.exit ?_ | refine DW.condT rfl ?_ | refine DW.condF rfl ?_))
    refine DW.drawS 8 Tryz.mixed (by kernel_rfl) (by decide) ?_
    dsimp only [List.take, List.drop]
    (repeat (first | refine RS.S ?_ | refine RS.Y ?_ | refine RS.no rfl (by decide) rfl ?_ | refine RS.nil ?_))
    (repeat (first | refine RO.S ?_ | refine RO.Y ?_ | refine RO.no rfl (by decide) rfl ?_ | refine RO.nil ?_ | refine DW.region ?_ | refine DW.seq ?_ | refine DW.block ?_ | refine DW.skip ?_ | refine DW.exit ?_ | refine DW.condT rfl ?_ | refine DW.condF rfl ?_))
    refine DW.cond rfl (fun hb => ?_) (fun hb => ?_)
    · (repeat (first | refine RO.S ?_ | refine RO.Y ?_ | refine RO.no rfl (by decide) rfl ?_ | refine RO.nil ?_ | refine DW.region ?_ | refine DW.seq ?_ | refine DW.block ?_ | refine DW.skip ?_ | refine DW.exit ?_ | refine DW.condT rfl ?_ | refine DW.condF rfl ?_))
      have : invT p a = b := by rw [← hb3]; simp only [invGo]; rw [if_pos (show invOk p a b = true from hb)]
      rw [this]
      exact DW.ret ⟨.inl rfl, _, rfl, Over.refl _, .same _⟩
    · (repeat (first | refine RO.S ?_ | refine RO.Y ?_ | refine RO.no rfl (by decide) rfl ?_ | refine RO.nil ?_ | refine DW.region ?_ | refine DW.seq ?_ | refine DW.block ?_ | refine DW.skip ?_ | refine DW.exit ?_ | refine DW.condT rfl ?_ | refine DW.condF rfl ?_))
      refine ⟨b + 1, ⟨by omega, by omega, ?_⟩, by dsimp only; omega, rfl, rfl, rfl, rfl, trivial⟩
      rw [← hb3]
      simp only [invGo]
      rw [if_neg (by rw [show invOk p a b = false from hb]; simp)]
  · have hge : ¬ b < p := of_decide_eq_false hb
    have hn : (p - b).toNat = 0 := by omega
    rw [hn] at hb3
    (repeat (first | refine RO.S ?_ | refine RO.Y ?_ | refine RO.no rfl (by decide) rfl ?_ | refine RO.nil ?_ | refine DW.region ?_ | refine DW.seq ?_ | refine DW.block ?_ | refine DW.skip ?_ | refine DW.exit ?_ | refine DW.condT rfl ?_ | refine DW.condF rfl ?_))
    rw [← hb3]
    exact DW.ret ⟨.inl rfl, _, rfl, Over.refl _, .same _⟩

/-- A power, by squares. -/
def turnGo (p : Int) : Nat → Int → Int → Int → Int
  | 0, _, _, out => out
  | f + 1, n, a, out => if n ≤ 0 then out else turnGo p f (n / 2) (a * a % p) (if n % 2 = 1 then out * a % p else out)

def turnP (p a : Int) : Int := turnGo p 7 (p - 2) a 1

theorem turn_pure (p a : Int) (hp : 2 ≤ p) (hp2 : p ≤ 101) (ha : 0 ≤ a) (ha2 : a < p) : Pure Tryz.prog 83 [I p, I a] (I (turnP p a)) := by
  intro H
  refine PureH.of_body Tryz.func83 rfl (by decide) (Nat.le_of_ble_eq_true rfl) fun w0 => ?_
  (repeat (first | refine RO.S ?_ | refine RO.Y ?_ | refine RO.no rfl (by decide) rfl ?_ | refine RO.nil ?_ | refine DW.region ?_ | refine DW.seq ?_ | refine DW.block ?_ | refine DW.skip ?_ | refine DW.exit ?_ | refine DW.condT rfl ?_ | refine DW.condF rfl ?_))
  refine DW.loopI (fun x : Nat × Int × Int × Int => (0 ≤ x.2.1 ∧ x.2.1 < 2 ^ x.1 ∧ x.2.1 ≤ 101) ∧ (0 ≤ x.2.2.1 ∧ x.2.2.1 < p) ∧ (0 ≤ x.2.2.2 ∧ x.2.2.2 < p) ∧ turnGo p x.1 x.2.1 x.2.2.1 x.2.2.2 = turnP p a) (fun x => [(0, I p), (1, I x.2.2.1), (5, I x.2.2.2), (6, I x.2.1)]) (fun _ => H) (fun x => x.1) (7, p - 2, a, 1)
    ⟨⟨by dsimp only; omega, by dsimp only; omega, by dsimp only; omega⟩, ⟨ha, ha2⟩, ⟨by dsimp only; omega, by dsimp only; omega⟩, rfl⟩ rfl ⟨rfl, rfl, rfl, rfl, trivial⟩ fun ⟨f, n, b, out⟩ ⟨⟨hn0, hn1, hn2⟩, ⟨hb0, hb1⟩, ⟨ho0, ho1⟩, hg⟩ => ?_
  dsimp only at hn0 hn1 hn2 hb0 hb1 ho0 ho1 hg
  dsimp only
  (repeat (first | refine RO.S ?_ | refine RO.Y ?_ | refine RO.no rfl (by decide) rfl ?_ | refine RO.nil ?_ | refine DW.region ?_ | refine DW.seq ?_ | refine DW.block ?_ | refine DW.skip ?_ | refine DW.exit ?_ | refine DW.condT rfl ?_ | refine DW.condF rfl ?_))
  refine DW.cond rfl (fun hb => ?_) (fun hb => ?_)
  · have hpos : 0 < n := of_decide_eq_true hb
    obtain ⟨f, rfl⟩ : ∃ g, f = g + 1 := by
      cases f with
      | zero => simp at hn1; omega
      | succ g => exact ⟨g, rfl⟩
    have hpw : (2 : Int) ^ (f + 1) = 2 ^ f * 2 := Int.pow_succ ..
    have hbb : 0 ≤ b * b := Int.mul_nonneg hb0 hb0
    have hbb2 : b * b ≤ 101 * 101 := Int.mul_le_mul (by omega) (by omega) (by omega) (by omega)
    have hob : 0 ≤ out * b := Int.mul_nonneg ho0 hb0
    have hob2 : out * b ≤ 101 * 101 := Int.mul_le_mul (by omega) (by omega) (by omega) (by omega)
    have hm1 := Int.emod_nonneg (b * b) (show p ≠ 0 by omega)
    have hm2 := Int.emod_lt_of_pos (b * b) (show 0 < p by omega)
    have hm3 := Int.emod_nonneg (out * b) (show p ≠ 0 by omega)
    have hm4 := Int.emod_lt_of_pos (out * b) (show 0 < p by omega)
    simp only [turnGo] at hg
    rw [if_neg (by omega)] at hg
    (repeat (first | refine RO.S ?_ | refine RO.Y ?_ | refine RO.no rfl (by decide) rfl ?_ | refine RO.nil ?_ | refine DW.region ?_ | refine DW.seq ?_ | refine DW.block ?_ | refine DW.skip ?_ | refine DW.exit ?_ | refine DW.condT rfl ?_ | refine DW.condF rfl ?_))
    refine RO.sta (s_and1 rfl rfl (by omega) (by omega)) rfl ?_
    (repeat (first | refine RO.S ?_ | refine RO.Y ?_ | refine RO.no rfl (by decide) rfl ?_ | refine RO.nil ?_ | refine DW.region ?_ | refine DW.seq ?_ | refine DW.block ?_ | refine DW.skip ?_ | refine DW.exit ?_ | refine DW.condT rfl ?_ | refine DW.condF rfl ?_))
    refine DW.cond rfl (fun hb => ?_) (fun hb => ?_)
    · have h1 : n % 2 = 1 := by simpa using hb
      rw [if_pos h1] at hg
      (repeat (first | refine RO.S ?_ | refine RO.Y ?_ | refine RO.no rfl (by decide) rfl ?_ | refine RO.nil ?_ | refine DW.region ?_ | refine DW.seq ?_ | refine DW.block ?_ | refine DW.skip ?_ | refine DW.exit ?_ | refine DW.condT rfl ?_ | refine DW.condF rfl ?_))
      refine RO.sta (s_shr1 rfl rfl (by omega)) rfl ?_
      (repeat (first | refine RO.S ?_ | refine RO.Y ?_ | refine RO.no rfl (by decide) rfl ?_ | refine RO.nil ?_ | refine DW.region ?_ | refine DW.seq ?_ | refine DW.block ?_ | refine DW.skip ?_ | refine DW.exit ?_ | refine DW.condT rfl ?_ | refine DW.condF rfl ?_))
      exact ⟨(f, n / 2, b * b % p, out * b % p), ⟨⟨by dsimp only; omega, by dsimp only; omega, by dsimp only; omega⟩, ⟨hm1, hm2⟩, ⟨hm3, hm4⟩, hg⟩, Nat.lt_succ_self _, rfl, rfl, rfl, rfl, rfl, trivial⟩
    · have h1 : ¬ n % 2 = 1 := by simpa using hb
      rw [if_neg h1] at hg
      (repeat (first | refine RO.S ?_ | refine RO.Y ?_ | refine RO.no rfl (by decide) rfl ?_ | refine RO.nil ?_ | refine DW.region ?_ | refine DW.seq ?_ | refine DW.block ?_ | refine DW.skip ?_ | refine DW.exit ?_ | refine DW.condT rfl ?_ | refine DW.condF rfl ?_))
      refine RO.sta (s_shr1 rfl rfl (by omega)) rfl ?_
      (repeat (first | refine RO.S ?_ | refine RO.Y ?_ | refine RO.no rfl (by decide) rfl ?_ | refine RO.nil ?_ | refine DW.region ?_ | refine DW.seq ?_ | refine DW.block ?_ | refine DW.skip ?_ | refine DW.exit ?_ | refine DW.condT rfl ?_ | refine DW.condF rfl ?_))
      exact ⟨(f, n / 2, b * b % p, out), ⟨⟨by dsimp only; omega, by dsimp only; omega, by dsimp only; omega⟩, ⟨hm1, hm2⟩, ⟨ho0, ho1⟩, hg⟩, Nat.lt_succ_self _, rfl, rfl, rfl, rfl, rfl, trivial⟩
  · have hneg : ¬ 0 < n := of_decide_eq_false hb
    have : turnP p a = out := by
      rw [← hg]
      cases f with
      | zero => rfl
      | succ f => simp only [turnGo]; rw [if_pos (by omega)]
    rw [this]
    (repeat (first | refine RO.S ?_ | refine RO.Y ?_ | refine RO.no rfl (by decide) rfl ?_ | refine RO.nil ?_ | refine DW.region ?_ | refine DW.seq ?_ | refine DW.block ?_ | refine DW.skip ?_ | refine DW.exit ?_ | refine DW.condT rfl ?_ | refine DW.condF rfl ?_))
    exact DW.ret ⟨.inl rfl, _, rfl, Over.refl _, .same _⟩

end Go.Proofs.YtcdihmhmoddppaaGreat

namespace Go.Proofs.YtcdihmhmoddppaaGreat
open Go.RowKit
set_option linter.unusedVariables false
set_option linter.unusedSimpArgs false

theorem ckP_ok {p : Int} (h : ckP p = 0) : 2 ≤ p ∧ p ≤ 101 := by
  unfold ckP at h
  by_cases hb : (decide (2 ≤ p) && decide (p ≤ 101)) = true
  · simpa using hb
  · rw [if_neg hb] at h; cases h

/-- What 'with' does. -/
def withR (p a b : Int) (r : Int × Int) : Int × Int := if ckP p = 0 then (if inP p a && inP p b then r else (0, 3)) else (0, ckP p)

def pairD (r : Int × Int) : D := .tup [I r.1, I r.2]

theorem inP_iff {p a : Int} : inP p a = true ↔ 0 ≤ a ∧ a < p := by
  unfold inP
  simp
  omega

/-- The inverse, and what is wrong. -/
def invR (p a : Int) : Int × Int := if a = 0 then (0, 5) else (turnP p a, 0)

end Go.Proofs.YtcdihmhmoddppaaGreat
