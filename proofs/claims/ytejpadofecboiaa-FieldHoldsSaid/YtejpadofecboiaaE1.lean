/-
  The data level: trees of data, how values in memory stand for them, and that this lasts while the world grows. No condition.
-/
import Derived.WalkKit
import Derived.WalkSpells
import Derived.Orders
namespace Go.Proofs.Ytejpadofecboiaa
open Go.RowKit

inductive D where
  | int (k : IntKind) (n : Int)
  | bool (b : Bool)
  | str (s : ByteArray)
  | nil
  | list (k : Nat) (l : List D)
  | agg (l : List D)
  | ref (b off len k : Nat)
  | ptr (b off : Nat)
  | ipt (k : Nat) (l : List D) (i j : Nat)
  | fn (f : FuncId) (caps : List D)
  | tup (l : List D)

instance : Inhabited D := ⟨.nil⟩

def cellsOf : D → List D
  | .agg l => l
  | d => [d]

def D.isCell : D → Bool
  | .agg _ => false
  | .tup _ => false
  | _ => true

/-- An int. -/
abbrev I (n : Int) : D := .int .i64 n

abbrev Heap := Nat → Option (TypeId × List D)

def Heap.set (H : Heap) (b : Nat) (x : TypeId × List D) : Heap := fun c => if c = b then some x else H c
def Heap.del (H : Heap) (b : Nat) : Heap := fun c => if c = b then none else H c

/-- The cells of a list of elements of k cells each stand at an address. -/
def cellAt (l : List D) (i j : Nat) : Option D := (l[i]?).bind fun d => (cellsOf d)[j]?

inductive Rep (w : World) (H : Heap) : Value → D → Prop
  | int (k : IntKind) (n : Int) : Rep w H (.int k n) (.int k n)
  | bool (b : Bool) : Rep w H (.bool b) (.bool b)
  | str (s : ByteArray) : Rep w H (.string s) (.str s)
  | nil (a : Option Addr) : Rep w H (.slice a 0 0) .nil
  | list {k : Nat} {l : List D} {a : Option Addr} {c : Nat} (vals : Nat → Nat → Value) (hc : l.length ≤ c) (hm : c ≤ maxLen)
      (h1 : ∀ (i : Nat) (d : D), l[i]? = some d → (cellsOf d).length = k)
      (h2 : ∀ (i j : Nat) (x : D), cellAt l i j = some x → ∃ b off : Nat, a = some ⟨b, off, none⟩ ∧ H b = none ∧ w.cell? ⟨b, off + i * k + j, none⟩ = some (vals i j))
      (h3 : ∀ (i j : Nat) (x : D), cellAt l i j = some x → Rep w H (vals i j) x) : Rep w H (.slice a l.length c) (.list k l)
  | agg {l : List D} {vs : Array Value} (vals : Nat → Value) (hs : vs.size = l.length) (h2 : ∀ (j : Nat) (x : D), l[j]? = some x → vs[j]? = some (vals j))
      (h3 : ∀ (j : Nat) (x : D), l[j]? = some x → Rep w H (vals j) x) : Rep w H (.agg vs) (.agg l)
  | ref {b off len k cap : Nat} {cs : Array Value} {T : TypeId} (hb : w.heap[b]? = some (.cells cs T (0, 0))) (hs : off + cap * k = cs.size)
      (hl : len ≤ cap) (hm : cap ≤ maxLen) : Rep w H (.slice (some ⟨b, off, none⟩) len cap) (.ref b off len k)
  | ptr (b off : Nat) : Rep w H (.pointer (some ⟨b, off, none⟩)) (.ptr b off)
  | ipt {k : Nat} {l : List D} {b off i j : Nat} (vals : Nat → Nat → Value)
      (h1 : ∀ (i : Nat) (d : D), l[i]? = some d → (cellsOf d).length = k)
      (h2 : ∀ (i j : Nat) (x : D), cellAt l i j = some x → H b = none ∧ w.cell? ⟨b, off + i * k + j, none⟩ = some (vals i j))
      (h3 : ∀ (i j : Nat) (x : D), cellAt l i j = some x → Rep w H (vals i j) x) : Rep w H (.pointer (some ⟨b, off + i * k + j, none⟩)) (.ipt k l i j)
  | fn (f : FuncId) {caps : List D} {vs : Array Value} (vals : Nat → Value) (hs : vs.size = caps.length) (h2 : ∀ (j : Nat) (x : D), caps[j]? = some x → vs[j]? = some (vals j))
      (h3 : ∀ (j : Nat) (x : D), caps[j]? = some x → Rep w H (vals j) x) : Rep w H (.func (.func f) #[] vs) (.fn f caps)
  | tup {l : List D} {vs : Array Value} (vals : Nat → Value) (hs : vs.size = l.length) (h2 : ∀ (j : Nat) (x : D), l[j]? = some x → vs[j]? = some (vals j))
      (h3 : ∀ (j : Nat) (x : D), l[j]? = some x → Rep w H (vals j) x) : Rep w H (.tuple vs) (.tup l)

/-- What must last for data to last. -/
structure Kept (w : World) (H : Heap) (w' : World) (H' : Heap) : Prop where
  cell : ∀ (b off : Nat) (v : Value), H b = none → w.cell? ⟨b, off, none⟩ = some v → H' b = none ∧ w'.cell? ⟨b, off, none⟩ = some v
  shape : ∀ (b : Nat) (cs : Array Value) (T : TypeId), w.heap[b]? = some (.cells cs T (0, 0)) → ∃ cs' : Array Value, w'.heap[b]? = some (.cells cs' T (0, 0)) ∧ cs'.size = cs.size

theorem Rep.kept {w w' : World} {H H' : Heap} (hk : Kept w H w' H') {v : Value} {d : D} (h : Rep w H v d) : Rep w' H' v d := by
  induction h with
  | int k n => exact .int k n
  | bool b => exact .bool b
  | str s => exact .str s
  | nil a => exact .nil a
  | list vals hc hm h1 h2 h3 ih =>
    refine .list vals hc hm h1 (fun i j x hx => ?_) ih
    obtain ⟨b, off, ha, hH, hw⟩ := h2 i j x hx
    obtain ⟨hH', hw'⟩ := hk.cell _ _ _ hH hw
    exact ⟨b, off, ha, hH', hw'⟩
  | agg vals hs h2 h3 ih => exact .agg vals hs h2 ih
  | ref hb hs hl hm =>
    obtain ⟨cs', hb', hs'⟩ := hk.shape _ _ _ hb
    exact .ref hb' (by rw [hs', hs]) hl hm
  | ptr b off => exact .ptr b off
  | ipt vals h1 h2 h3 ih =>
    refine .ipt vals h1 (fun i j x hx => ?_) ih
    obtain ⟨hH, hw⟩ := h2 i j x hx
    exact hk.cell _ _ _ hH hw
  | fn f vals hs h2 h3 ih => exact .fn f vals hs h2 ih
  | tup vals hs h2 h3 ih => exact .tup vals hs h2 ih

/-- The mutable blocks hold what is said of them. -/
def HOK (w : World) (H : Heap) : Prop := ∀ (b : Nat) (T : TypeId) (cells : List D), H b = some (T, cells) →
  ∃ cs : Array Value, w.heap[b]? = some (.cells cs T (0, 0)) ∧ cells.length ≤ cs.size ∧ ∀ (j : Nat) (x : D), cells[j]? = some x → x.isCell = true ∧ ∃ v, cs[j]? = some v ∧ Rep w H v x

/-- From one world (with its mutable blocks) to a later one. -/
structure Ext (w : World) (H : Heap) (w' : World) (H' : Heap) : Prop where
  os : w'.os = w.os
  tape : w'.tape = w.tape
  output : w'.output = w.output
  size : w.heap.size ≤ w'.heap.size
  old : ∀ b, b < w.heap.size → H b = none → H' b = none ∧ w'.heap[b]? = w.heap[b]?
  shape : ∀ (b : Nat) (cs : Array Value) (T : TypeId), w.heap[b]? = some (.cells cs T (0, 0)) → ∃ cs' : Array Value, w'.heap[b]? = some (.cells cs' T (0, 0)) ∧ cs'.size = cs.size

theorem lt_of_block {w : World} {b : Nat} {o : Obj} (h : w.heap[b]? = some o) : b < w.heap.size := (Array.getElem?_eq_some_iff.1 h).1

theorem Ext.kept {w w' : World} {H H' : Heap} (h : Ext w H w' H') : Kept w H w' H' := by
  refine ⟨fun b off v hH hw => ?_, h.shape⟩
  have hb : b < w.heap.size := World.block_lt_of_cell? w ⟨b, off, none⟩ hw
  obtain ⟨hH', he⟩ := h.old b hb hH
  exact ⟨hH', (World.cell?_of_block (a := ⟨b, off, none⟩) he).trans hw⟩

theorem Rep.ext {w w' : World} {H H' : Heap} {v : Value} {d : D} (h : Rep w H v d) (he : Ext w H w' H') : Rep w' H' v d := h.kept he.kept

theorem Ext.refl (w : World) (H : Heap) : Ext w H w H := ⟨rfl, rfl, rfl, Nat.le_refl _, fun _ _ h => ⟨h, rfl⟩, fun _ cs _ h => ⟨cs, h, rfl⟩⟩

theorem Ext.trans {a b c : World} {A B C : Heap} (h : Ext a A b B) (k : Ext b B c C) : Ext a A c C := by
  refine ⟨k.os.trans h.os, k.tape.trans h.tape, k.output.trans h.output, Nat.le_trans h.size k.size, fun i hi hA => ?_, fun i cs T hc => ?_⟩
  · obtain ⟨hB, e1⟩ := h.old i hi hA
    obtain ⟨hC, e2⟩ := k.old i (Nat.lt_of_lt_of_le hi h.size) hB
    exact ⟨hC, e2.trans e1⟩
  · obtain ⟨cs', h1, s1⟩ := h.shape i cs T hc
    obtain ⟨cs'', h2, s2⟩ := k.shape i cs' T h1
    exact ⟨cs'', h2, s2.trans s1⟩

/-- A draw. -/
theorem Ext.drew (w : World) (H : Heap) (n : Nat) : Ext w H { w with drawn := n } H :=
  ⟨rfl, rfl, rfl, Nat.le_refl _, fun _ _ h => ⟨h, rfl⟩, fun _ cs _ h => ⟨cs, h, rfl⟩⟩

theorem heap_push (w : World) (o : Obj) (k : Nat) (h : k < w.heap.size) : (w.alloc o).heap[k]? = w.heap[k]? := Below.heap_alloc w o k h

/-- A new block that is not among the mutable ones. -/
theorem Ext.alloc (w : World) (H : Heap) (o : Obj) : Ext w H (w.alloc o) H :=
  ⟨rfl, rfl, rfl, by simp, fun b hb h => ⟨h, heap_push w o b hb⟩, fun b cs T h => ⟨cs, by rw [heap_push w o b (lt_of_block h)]; exact h, rfl⟩⟩

theorem HOK.lt {w : World} {H : Heap} (h : HOK w H) {b : Nat} {x : TypeId × List D} (hb : H b = some x) : b < w.heap.size := by
  obtain ⟨T, cells⟩ := x
  obtain ⟨cs, hc, _⟩ := h b T cells hb
  exact lt_of_block hc

theorem HOK.fresh {w : World} {H : Heap} (h : HOK w H) : H w.heap.size = none := by
  cases hx : H w.heap.size with
  | none => rfl
  | some x => exact absurd (h.lt hx) (Nat.lt_irrefl _)

/-- A new block, made mutable. -/
theorem Ext.allocMut (w : World) (H : Heap) (o : Obj) (x : TypeId × List D) : Ext w H (w.alloc o) (H.set w.heap.size x) := by
  refine ⟨rfl, rfl, rfl, by simp, fun b hb h => ⟨?_, heap_push w o b hb⟩, fun b cs T h => ⟨cs, by rw [heap_push w o b (lt_of_block h)]; exact h, rfl⟩⟩
  simp only [Heap.set]
  rw [if_neg (by omega)]
  exact h

/-- The mutable blocks of before are still there where nothing of them was written. -/
theorem HOK.ext {w w' : World} {H : Heap} (h : HOK w H) (he : Ext w H w' H) (hb : ∀ b x, H b = some x → w'.heap[b]? = w.heap[b]?) : HOK w' H := by
  intro b T cells hx
  obtain ⟨cs, hc, hl, hr⟩ := h b T cells hx
  refine ⟨cs, by rw [hb b _ hx]; exact hc, hl, fun j x hj => ?_⟩
  obtain ⟨h1, v, hv, hrep⟩ := hr j x hj
  exact ⟨h1, v, hv, hrep.ext he⟩

theorem HOK.alloc {w : World} {H : Heap} (h : HOK w H) (o : Obj) : HOK (w.alloc o) H :=
  h.ext (Ext.alloc w H o) fun b x hb => heap_push w o b (h.lt hb)

theorem HOK.drew {w : World} {H : Heap} (h : HOK w H) (n : Nat) : HOK { w with drawn := n } H :=
  h.ext (Ext.drew w H n) fun _ _ _ => rfl

theorem Rep.oneCell {w : World} {H : Heap} {v : Value} {d : D} (h : Rep w H v d) (hd : d.isCell = true) : v.oneCell' = true := by
  cases h <;> first | rfl | cases hd

theorem HOK.allocMut {w : World} {H : Heap} (h : HOK w H) (T : TypeId) (cs : Array Value) (cells : List D) (hl : cells.length ≤ cs.size)
    (hr : ∀ (j : Nat) (x : D), cells[j]? = some x → x.isCell = true ∧ ∃ v, cs[j]? = some v ∧ Rep w H v x) : HOK (w.alloc (.cells cs T)) (H.set w.heap.size (T, cells)) := by
  have he := Ext.allocMut w H (.cells cs T) (T, cells)
  intro b T' cells' hx
  simp only [Heap.set] at hx
  split at hx
  · rename_i hb
    subst hb
    cases hx
    refine ⟨cs, heap_alloc_new w _, hl, fun j x hj => ?_⟩
    obtain ⟨h1, v, hv, hrep⟩ := hr j x hj
    exact ⟨h1, v, hv, hrep.ext he⟩
  · obtain ⟨cs', hc, hl', hr'⟩ := h b T' cells' hx
    refine ⟨cs', by rw [heap_push w _ b (h.lt hx)]; exact hc, hl', fun j x hj => ?_⟩
    obtain ⟨h1, v, hv, hrep⟩ := hr' j x hj
    exact ⟨h1, v, hv, hrep.ext he⟩

/-- Mutable blocks are forgotten: what they hold is immutable from now on. -/
def Heap.sub (H' H : Heap) : Prop := ∀ b x, H' b = some x → H b = some x

theorem Heap.sub_del (H : Heap) (b : Nat) : (H.del b).sub H := by
  intro c x hx
  simp only [Heap.del] at hx
  split at hx
  · cases hx
  · exact hx

theorem Kept.sub {w : World} {H H' : Heap} (hs : H'.sub H) : Kept w H w H' := by
  refine ⟨fun b off v hH hw => ⟨?_, hw⟩, fun b cs T h => ⟨cs, h, rfl⟩⟩
  cases hx : H' b with
  | none => rfl
  | some x => rw [hs b x hx] at hH; cases hH

theorem HOK.sub {w : World} {H H' : Heap} (h : HOK w H) (hs : H'.sub H) : HOK w H' := by
  intro b T cells hx
  obtain ⟨cs, hc, hl, hr⟩ := h b T cells (hs _ _ hx)
  exact ⟨cs, hc, hl, fun j x hj => let ⟨h1, v, hv, hrep⟩ := hr j x hj; ⟨h1, v, hv, hrep.kept (.sub hs)⟩⟩

theorem Ext.sub {w w' : World} {H H' H'' : Heap} (h : Ext w H w' H') (hs : H''.sub H') : Ext w H w' H'' := by
  refine ⟨h.os, h.tape, h.output, h.size, fun b hb hH => ?_, h.shape⟩
  obtain ⟨h1, h2⟩ := h.old b hb hH
  refine ⟨?_, h2⟩
  cases hx : H'' b with
  | none => rfl
  | some x => rw [hs b x hx] at h1; cases h1

theorem Rep.list_nil {w : World} {H : Heap} (a : Option Addr) (c k : Nat) (hm : c ≤ maxLen) : Rep w H (.slice a 0 c) (.list k []) :=
  .list (l := []) (fun _ _ => .nilFunc) (Nat.zero_le _) hm (fun i d h => by simp at h) (fun i j x h => by simp [cellAt] at h) (fun i j x h => by simp [cellAt] at h)

theorem Rep.nil_list {w : World} {H : Heap} {v : Value} (h : Rep w H v .nil) (k : Nat) : Rep w H v (.list k []) := by
  cases h with
  | nil a => exact Rep.list_nil a 0 k (by unfold maxLen; omega)

end Go.Proofs.Ytejpadofecboiaa
