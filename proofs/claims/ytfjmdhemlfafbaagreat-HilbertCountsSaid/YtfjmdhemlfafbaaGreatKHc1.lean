/-
  More static operations: memory that is read, slices, boxes that are never written again, calls of functions that are pure. No condition.
-/
import Derived.WalkKit
import Derived.WalkSpells
import Derived.Orders
set_option linter.unusedVariables false
set_option linter.unusedSimpArgs false

namespace Go.Proofs.YtfjmdhemlfafbaaGreat
section
open Go.RowKit

inductive D where
 | int (k : IntKind) (n : Int)
 | bool (b : Bool)
 | str (s : ByteArray)
 | nil
 | list (k : Nat) (l : List D)
 | agg (l : List D)
 | ref (b off len k : Nat)
 | ptr (b off : Nat)
 | ipt (k : Nat) (l : List D) (i j : Nat)
 | fn (f : FuncId) (caps : List D)
 | tup (l : List D)

instance : Inhabited D := ⟨.nil⟩

def cellsOf : D → List D
 | .agg l => l
 | d => [d]

def D.isCell : D → Bool
 | .agg _ => false
 | .tup _ => false
 | _ => true

abbrev I (n : Int) : D := .int .i64 n

abbrev Heap := Nat → Option (TypeId × List D)

def Heap.set (H : Heap) (b : Nat) (x : TypeId × List D) : Heap := fun c => if c = b then some x else H c
def Heap.del (H : Heap) (b : Nat) : Heap := fun c => if c = b then none else H c

def cellAt (l : List D) (i j : Nat) : Option D := (l[i]?).bind fun d => (cellsOf d)[j]?

inductive Rep (w : World) (H : Heap) : Value → D → Prop
 | int (k : IntKind) (n : Int) : Rep w H (.int k n) (.int k n)
 | bool (b : Bool) : Rep w H (.bool b) (.bool b)
 | str (s : ByteArray) : Rep w H (.string s) (.str s)
 | nil (a : Option Addr) : Rep w H (.slice a 0 0) .nil
 | list {k : Nat} {l : List D} {a : Option Addr} {c : Nat} (vals : Nat → Nat → Value) (hc : l.length ≤ c) (hm : c ≤ maxLen)
   (h1 : ∀ (i : Nat) (d : D), l[i]? = some d → (cellsOf d).length = k)
   (h2 : ∀ (i j : Nat) (x : D), cellAt l i j = some x → ∃ b off : Nat, a = some ⟨b, off, none⟩ ∧ H b = none ∧ w.cell? ⟨b, off + i * k + j, none⟩ = some (vals i j))
   (h3 : ∀ (i j : Nat) (x : D), cellAt l i j = some x → Rep w H (vals i j) x) : Rep w H (.slice a l.length c) (.list k l)
 | agg {l : List D} {vs : Array Value} (vals : Nat → Value) (hs : vs.size = l.length) (h2 : ∀ (j : Nat) (x : D), l[j]? = some x → vs[j]? = some (vals j))
   (h3 : ∀ (j : Nat) (x : D), l[j]? = some x → Rep w H (vals j) x) : Rep w H (.agg vs) (.agg l)
 | ref {b off len k cap : Nat} {cs : Array Value} {T : TypeId} (hb : w.heap[b]? = some (.cells cs T (0, 0))) (hs : off + cap * k = cs.size)
   (hl : len ≤ cap) (hm : cap ≤ maxLen) : Rep w H (.slice (some ⟨b, off, none⟩) len cap) (.ref b off len k)
 | ptr (b off : Nat) : Rep w H (.pointer (some ⟨b, off, none⟩)) (.ptr b off)
 | ipt {k : Nat} {l : List D} {b off i j : Nat} (vals : Nat → Nat → Value)
   (h1 : ∀ (i : Nat) (d : D), l[i]? = some d → (cellsOf d).length = k)
   (h2 : ∀ (i j : Nat) (x : D), cellAt l i j = some x → H b = none ∧ w.cell? ⟨b, off + i * k + j, none⟩ = some (vals i j))
   (h3 : ∀ (i j : Nat) (x : D), cellAt l i j = some x → Rep w H (vals i j) x) : Rep w H (.pointer (some ⟨b, off + i * k + j, none⟩)) (.ipt k l i j)
 | fn (f : FuncId) {caps : List D} {vs : Array Value} (vals : Nat → Value) (hs : vs.size = caps.length) (h2 : ∀ (j : Nat) (x : D), caps[j]? = some x → vs[j]? = some (vals j))
   (h3 : ∀ (j : Nat) (x : D), caps[j]? = some x → Rep w H (vals j) x) : Rep w H (.func (.func f) #[] vs) (.fn f caps)
 | tup {l : List D} {vs : Array Value} (vals : Nat → Value) (hs : vs.size = l.length) (h2 : ∀ (j : Nat) (x : D), l[j]? = some x → vs[j]? = some (vals j))
   (h3 : ∀ (j : Nat) (x : D), l[j]? = some x → Rep w H (vals j) x) : Rep w H (.tuple vs) (.tup l)

structure Kept (w : World) (H : Heap) (w' : World) (H' : Heap) : Prop where
 cell : ∀ (b off : Nat) (v : Value), H b = none → w.cell? ⟨b, off, none⟩ = some v → H' b = none ∧ w'.cell? ⟨b, off, none⟩ = some v
 shape : ∀ (b : Nat) (cs : Array Value) (T : TypeId), w.heap[b]? = some (.cells cs T (0, 0)) → ∃ cs' : Array Value, w'.heap[b]? = some (.cells cs' T (0, 0)) ∧ cs'.size = cs.size

theorem Rep.kept {w w' : World} {H H' : Heap} (hk : Kept w H w' H') {v : Value} {d : D} (h : Rep w H v d) : Rep w' H' v d := by
 induction h with
 | int k n => exact .int k n
 | bool b => exact .bool b
 | str s => exact .str s
 | nil a => exact .nil a
 | list vals hc hm h1 h2 h3 ih =>
  refine .list vals hc hm h1 (fun i j x hx => ?_) ih
  obtain ⟨b, off, ha, hH, hw⟩ := h2 i j x hx
  obtain ⟨hH', hw'⟩ := hk.cell _ _ _ hH hw
  exact ⟨b, off, ha, hH', hw'⟩
 | agg vals hs h2 h3 ih => exact .agg vals hs h2 ih
 | ref hb hs hl hm =>
  obtain ⟨cs', hb', hs'⟩ := hk.shape _ _ _ hb
  exact .ref hb' (by rw [hs', hs]) hl hm
 | ptr b off => exact .ptr b off
 | ipt vals h1 h2 h3 ih =>
  refine .ipt vals h1 (fun i j x hx => ?_) ih
  obtain ⟨hH, hw⟩ := h2 i j x hx
  exact hk.cell _ _ _ hH hw
 | fn f vals hs h2 h3 ih => exact .fn f vals hs h2 ih
 | tup vals hs h2 h3 ih => exact .tup vals hs h2 ih

def tabs : Nat → Option (Array Value) := fun _ => none

def TabsOk (w : World) (H : Heap) : Prop := ∀ (g : Nat) (cs : Array Value), tabs g = some cs → H g = none ∧ ∃ T : TypeId, w.heap[g]? = some (.cells cs T (0, 0))

structure HOK (w : World) (H : Heap) : Prop where
 at' : ∀ (b : Nat) (T : TypeId) (cells : List D), H b = some (T, cells) →
  ∃ cs : Array Value, w.heap[b]? = some (.cells cs T (0, 0)) ∧ cells.length ≤ cs.size ∧ ∀ (j : Nat) (x : D), cells[j]? = some x → x.isCell = true ∧ ∃ v, cs[j]? = some v ∧ Rep w H v x
 inv : TabsOk w H

instance {w : World} {H : Heap} : CoeFun (HOK w H) (fun _ => ∀ (b : Nat) (T : TypeId) (cells : List D), H b = some (T, cells) →
  ∃ cs : Array Value, w.heap[b]? = some (.cells cs T (0, 0)) ∧ cells.length ≤ cs.size ∧ ∀ (j : Nat) (x : D), cells[j]? = some x → x.isCell = true ∧ ∃ v, cs[j]? = some v ∧ Rep w H v x) := ⟨HOK.at'⟩

def Tick (w w' : World) : Prop := w.drawn ≤ w'.drawn

theorem Tick.of_le {w w' : World} (h : w.drawn ≤ w'.drawn) : Tick w w' := by
 unfold Tick
 first | exact h | trivial

theorem Tick.trans {a b c : World} (h : Tick a b) (k : Tick b c) : Tick a c := by
 unfold Tick at *
 first | trivial | omega

theorem ask_drawn {α : Type} (m : Ask α) : ∀ w : World, w.drawn ≤ (w.ask m).2.drawn := by
 induction m with
 | done a => intro w; exact Nat.le_refl _
 | ask what range k ih =>
  intro w
  unfold World.ask
  dsimp only
  split
  ·exact ih _ _
  ·exact Nat.le_trans (Nat.le_succ _) (ih _ { w with drawn := w.drawn + 1 })

theorem sys_drawn (w : World) (c : Sys) : w.drawn ≤ (w.sys c).2.drawn := by
 unfold World.sys
 split
 ·exact Nat.le_refl _
 ·rename_i r os w1 _ h
  have := ask_drawn (Kernel.perform c w.os) w
  rw [h] at this
  exact this

theorem farStore_drawn {p : Program} {w w' : World} {a : Addr} {v : Value} {b : Bool} {l : List Addr} (h : w.farStore p a v b = .ok (w', l)) : w'.drawn = w.drawn := by
 unfold World.farStore at h
 split at h
 ·split at h
  ·rename_i r hr
   cases h
   unfold World.viewStore at hr
   simp only [bind, Except.bind, pure, Except.pure] at hr
   repeat (split at hr <;> try (cases hr))
   all_goals first | rfl | cases hr; rfl
  ·cases h
 ·cases h

theorem run_drawn {α : Type} {p : Program} (m : Sem α) : ∀ {w w' : World} {a : α}, m.run p w = .ok a w' → w.drawn ≤ w'.drawn := by
 induction m with
 | pure a => intro w w' b h; cases h; exact Nat.le_refl _
 | load m a k ih =>
  intro w w' b h
  unfold Sem.run at h
  split at h
  ·exact ih _ h
  ·split at h
   ·exact ih _ h
   ·cases h
 | store m a v k ih =>
  intro w w' b h
  have key : ∀ v : Value, (match w.cell? a with
    | some _ => if w.frozen? a then Result.halt (.unsupported (.unsafePointer "a write to bytes that a string shares")) w else k.run p (w.setCell a v)
    | none => match w.farStore p a v (m == .atomic) with
     | .ok (w, _) => k.run p w
     | .error h => .halt h w) = Result.ok b w' → w.drawn ≤ w'.drawn := fun v h => by
   split at h
   ·split at h
    ·cases h
    ·exact ih (w := w.setCell a v) h
   ·split at h
    ·rename_i w1 l hf
     have e := farStore_drawn hf
     have := ih (w := w1) h
     omega
    ·cases h
  cases v <;> first | (cases h; done) | exact key _ h
 | new o k ih => intro w w' b h; exact ih _ (w := { w with heap := w.heap.push o }) h
 | shape r k ih => intro w w' b h; exact ih _ h
 | freeze a n k ih =>
  intro w w' b h
  have := ih (w := w.freeze a n) h
  have e : (w.freeze a n).drawn = w.drawn := by unfold World.freeze; split <;> rfl
  omega
 | frozen a k ih => intro w w' b h; exact ih _ h
 | getObj r k ih =>
  intro w w' b h
  unfold Sem.run at h
  split at h
  ·cases h
  ·exact ih _ h
  ·cases h
 | setObj r o k ih =>
  intro w w' b h
  unfold Sem.run at h
  split at h
  ·cases h
  ·exact ih (w := { w with heap := w.heap.setIfInBounds r o }) h
  ·cases h
 | choose q k ih =>
  intro w w' b h
  unfold Sem.run at h
  split at h
  ·exact ih _ h
  ·exact Nat.le_trans (Nat.le_succ _) (ih _ (w := { w with drawn := w.drawn + 1 }) h)
 | sys c k ih =>
  intro w w' b h
  have := ih _ (w := (w.sys c).2) h
  have e := sys_drawn w c
  omega
 | program k ih => intro w w' b h; exact ih _ h
 | mark m k ih => intro w w' b h; exact ih h
 | halt h0 => intro w w' b h; cases h

theorem Tick.run {α : Type} {p : Program} {m : Sem α} {w w' : World} {a : α} (h : m.run p w = .ok a w') : Tick w w' := .of_le (run_drawn m h)

structure Ext (w : World) (H : Heap) (w' : World) (H' : Heap) : Prop where
 os : w'.os = w.os
 tape : w'.tape = w.tape
 output : w'.output = w.output
 size : w.heap.size ≤ w'.heap.size
 tick : Tick w w'
 old : ∀ b, b < w.heap.size → H b = none → H' b = none ∧ w'.heap[b]? = w.heap[b]?
 shape : ∀ (b : Nat) (cs : Array Value) (T : TypeId), w.heap[b]? = some (.cells cs T (0, 0)) → ∃ cs' : Array Value, w'.heap[b]? = some (.cells cs' T (0, 0)) ∧ cs'.size = cs.size

theorem lt_of_block {w : World} {b : Nat} {o : Obj} (h : w.heap[b]? = some o) : b < w.heap.size := (Array.getElem?_eq_some_iff.1 h).1

theorem Ext.kept {w w' : World} {H H' : Heap} (h : Ext w H w' H') : Kept w H w' H' := by
 refine ⟨fun b off v hH hw => ?_, h.shape⟩
 have hb : b < w.heap.size := World.block_lt_of_cell? w ⟨b, off, none⟩ hw
 obtain ⟨hH', he⟩ := h.old b hb hH
 exact ⟨hH', (World.cell?_of_block (a := ⟨b, off, none⟩) he).trans hw⟩

theorem TabsOk.ext {w w' : World} {H H' : Heap} (h : TabsOk w H) (he : Ext w H w' H') : TabsOk w' H' := fun g cs hg => by
 obtain ⟨h1, T, h2⟩ := h g cs hg
 obtain ⟨h3, h4⟩ := he.old g (lt_of_block h2) h1
 exact ⟨h3, T, h4.trans h2⟩

theorem Rep.ext {w w' : World} {H H' : Heap} {v : Value} {d : D} (h : Rep w H v d) (he : Ext w H w' H') : Rep w' H' v d := h.kept he.kept

theorem Ext.refl (w : World) (H : Heap) : Ext w H w H := ⟨rfl, rfl, rfl, Nat.le_refl _, .of_le (Nat.le_refl _), fun _ _ h => ⟨h, rfl⟩, fun _ cs _ h => ⟨cs, h, rfl⟩⟩

theorem Ext.trans {a b c : World} {A B C : Heap} (h : Ext a A b B) (k : Ext b B c C) : Ext a A c C := by
 refine ⟨k.os.trans h.os, k.tape.trans h.tape, k.output.trans h.output, Nat.le_trans h.size k.size, h.tick.trans k.tick, fun i hi hA => ?_, fun i cs T hc => ?_⟩
 ·obtain ⟨hB, e1⟩ := h.old i hi hA
  obtain ⟨hC, e2⟩ := k.old i (Nat.lt_of_lt_of_le hi h.size) hB
  exact ⟨hC, e2.trans e1⟩
 ·obtain ⟨cs', h1, s1⟩ := h.shape i cs T hc
  obtain ⟨cs'', h2, s2⟩ := k.shape i cs' T h1
  exact ⟨cs'', h2, s2.trans s1⟩

theorem Ext.drew (w : World) (H : Heap) (n : Nat) (h : w.drawn ≤ n := by omega) : Ext w H { w with drawn := n } H :=
 ⟨rfl, rfl, rfl, Nat.le_refl _, .of_le h, fun _ _ h => ⟨h, rfl⟩, fun _ cs _ h => ⟨cs, h, rfl⟩⟩

theorem heap_push (w : World) (o : Obj) (k : Nat) (h : k < w.heap.size) : (w.alloc o).heap[k]? = w.heap[k]? := Below.heap_alloc w o k h

theorem Ext.alloc (w : World) (H : Heap) (o : Obj) : Ext w H (w.alloc o) H :=
 ⟨rfl, rfl, rfl, by simp, .of_le (Nat.le_refl _), fun b hb h => ⟨h, heap_push w o b hb⟩, fun b cs T h => ⟨cs, by rw [heap_push w o b (lt_of_block h)]; exact h, rfl⟩⟩

theorem HOK.lt {w : World} {H : Heap} (h : HOK w H) {b : Nat} {x : TypeId × List D} (hb : H b = some x) : b < w.heap.size := by
 obtain ⟨T, cells⟩ := x
 obtain ⟨cs, hc, _⟩ := h b T cells hb
 exact lt_of_block hc

theorem HOK.fresh {w : World} {H : Heap} (h : HOK w H) : H w.heap.size = none := by
 cases hx : H w.heap.size with
 | none => rfl
 | some x => exact absurd (h.lt hx) (Nat.lt_irrefl _)

theorem Ext.allocMut (w : World) (H : Heap) (o : Obj) (x : TypeId × List D) : Ext w H (w.alloc o) (H.set w.heap.size x) := by
 refine ⟨rfl, rfl, rfl, by simp, .of_le (Nat.le_refl _), fun b hb h => ⟨?_, heap_push w o b hb⟩, fun b cs T h => ⟨cs, by rw [heap_push w o b (lt_of_block h)]; exact h, rfl⟩⟩
 simp only [Heap.set]
 rw [if_neg (by omega)]
 exact h

theorem HOK.ext {w w' : World} {H : Heap} (h : HOK w H) (he : Ext w H w' H) (hb : ∀ b x, H b = some x → w'.heap[b]? = w.heap[b]?) : HOK w' H := by
 refine ⟨?_, h.inv.ext he⟩
 intro b T cells hx
 obtain ⟨cs, hc, hl, hr⟩ := h b T cells hx
 refine ⟨cs, by rw [hb b _ hx]; exact hc, hl, fun j x hj => ?_⟩
 obtain ⟨h1, v, hv, hrep⟩ := hr j x hj
 exact ⟨h1, v, hv, hrep.ext he⟩

theorem HOK.alloc {w : World} {H : Heap} (h : HOK w H) (o : Obj) : HOK (w.alloc o) H :=
 h.ext (Ext.alloc w H o) fun b x hb => heap_push w o b (h.lt hb)

theorem HOK.drew {w : World} {H : Heap} (h : HOK w H) (n : Nat) (hn : w.drawn ≤ n := by omega) : HOK { w with drawn := n } H :=
 h.ext (Ext.drew w H n hn) fun _ _ _ => rfl

theorem Rep.oneCell {w : World} {H : Heap} {v : Value} {d : D} (h : Rep w H v d) (hd : d.isCell = true) : v.oneCell' = true := by
 cases h <;> first | rfl | cases hd

theorem HOK.allocMut {w : World} {H : Heap} (h : HOK w H) (T : TypeId) (cs : Array Value) (cells : List D) (hl : cells.length ≤ cs.size)
  (hr : ∀ (j : Nat) (x : D), cells[j]? = some x → x.isCell = true ∧ ∃ v, cs[j]? = some v ∧ Rep w H v x) : HOK (w.alloc (.cells cs T)) (H.set w.heap.size (T, cells)) := by
 have he := Ext.allocMut w H (.cells cs T) (T, cells)
 refine ⟨?_, h.inv.ext he⟩
 intro b T' cells' hx
 simp only [Heap.set] at hx
 split at hx
 ·rename_i hb
  subst hb
  cases hx
  refine ⟨cs, heap_alloc_new w _, hl, fun j x hj => ?_⟩
  obtain ⟨h1, v, hv, hrep⟩ := hr j x hj
  exact ⟨h1, v, hv, hrep.ext he⟩
 ·obtain ⟨cs', hc, hl', hr'⟩ := h b T' cells' hx
  refine ⟨cs', by rw [heap_push w _ b (h.lt hx)]; exact hc, hl', fun j x hj => ?_⟩
  obtain ⟨h1, v, hv, hrep⟩ := hr' j x hj
  exact ⟨h1, v, hv, hrep.ext he⟩

def Heap.sub (H' H : Heap) : Prop := ∀ b x, H' b = some x → H b = some x

theorem Heap.sub_del (H : Heap) (b : Nat) : (H.del b).sub H := by
 intro c x hx
 simp only [Heap.del] at hx
 split at hx
 ·cases hx
 ·exact hx

theorem Kept.sub {w : World} {H H' : Heap} (hs : H'.sub H) : Kept w H w H' := by
 refine ⟨fun b off v hH hw => ⟨?_, hw⟩, fun b cs T h => ⟨cs, h, rfl⟩⟩
 cases hx : H' b with
 | none => rfl
 | some x => rw [hs b x hx] at hH; cases hH

theorem HOK.sub {w : World} {H H' : Heap} (h : HOK w H) (hs : H'.sub H) : HOK w H' := by
 refine ⟨?_, fun g cs hg => ⟨?_, (h.inv g cs hg).2⟩⟩
 rotate_left
 ·cases hx : H' g with
  | none => rfl
  | some x => have := (h.inv g cs hg).1; rw [hs g x hx] at this; cases this
 intro b T cells hx
 obtain ⟨cs, hc, hl, hr⟩ := h b T cells (hs _ _ hx)
 exact ⟨cs, hc, hl, fun j x hj => let ⟨h1, v, hv, hrep⟩ := hr j x hj; ⟨h1, v, hv, hrep.kept (.sub hs)⟩⟩

theorem Ext.sub {w w' : World} {H H' H'' : Heap} (h : Ext w H w' H') (hs : H''.sub H') : Ext w H w' H'' := by
 refine ⟨h.os, h.tape, h.output, h.size, h.tick, fun b hb hH => ?_, h.shape⟩
 obtain ⟨h1, h2⟩ := h.old b hb hH
 refine ⟨?_, h2⟩
 cases hx : H'' b with
 | none => rfl
 | some x => rw [hs b x hx] at h1; cases h1

theorem Rep.list_nil {w : World} {H : Heap} (a : Option Addr) (c k : Nat) (hm : c ≤ maxLen) : Rep w H (.slice a 0 c) (.list k []) :=
 .list (l := []) (fun _ _ => .nilFunc) (Nat.zero_le _) hm (fun i d h => by simp at h) (fun i j x h => by simp [cellAt] at h) (fun i j x h => by simp [cellAt] at h)

theorem Rep.nil_list {w : World} {H : Heap} {v : Value} (h : Rep w H v .nil) (k : Nat) : Rep w H v (.list k []) := by
 cases h with
 | nil a => exact Rep.list_nil a 0 k (by unfold maxLen; omega)
end
section
open Go.RowKit

abbrev Env := List (Nat × D)

def Env.get : Env → Nat → Option D
 | [], _ => none
 | (k, d) :: r, t => bif Nat.beq k t then some d else Env.get r t

def constD : Value → Option D
 | .int k n => some (.int k n)
 | .bool b => some (.bool b)
 | .string s => some (.str s)
 | .slice none 0 0 => some .nil
 | _ => none

def Env.ev (e : Env) : Operand → Option D
 | .tmp t => e.get t
 | .const v => constD v
 | .func f => some (.fn f [])
 | .global _ => none

theorem rep_const {w : World} {H : Heap} {v : Value} {d : D} (h : constD v = some d) : Rep w H v d := by
 unfold constD at h
 split at h <;> cases h <;> constructor

def OpTo (P : Program) (ρ : Operand → Value) (o : Oper) (w : World) (K : Value → World → Prop) : Prop :=
 match (execOp ρ o).run P w with
 | .ok (.value v) w' => K v w'
 | .ok .skip w' => K undef w'
 | .ok (.enter f args) w' => Calls P f args w' (fun e w'' => ∃ v, e = .returned v ∧ K v w'')
 | _ => False

theorem OpTo.mono {P : Program} {ρ : Operand → Value} {o : Oper} {w : World} {K K' : Value → World → Prop} (h : OpTo P ρ o w K) (hk : ∀ v w', K v w' → K' v w') : OpTo P ρ o w K' := by
 unfold OpTo at *
 split at h
 ·exact hk _ _ h
 ·exact hk _ _ h
 ·exact h.mono fun e w' ⟨v, he, hv⟩ => ⟨v, he, hk _ _ hv⟩
 ·exact h.elim

structure Agree (ρ : Operand → Value) (w : World) (H : Heap) (e : Env) : Prop where
 rep : ∀ x d, e.ev x = some d → Rep w H (ρ x) d
 const : ∀ v, ρ (.const v) = v

instance {ρ : Operand → Value} {w : World} {H : Heap} {e : Env} : CoeFun (Agree ρ w H e) (fun _ => ∀ x d, e.ev x = some d → Rep w H (ρ x) d) := ⟨Agree.rep⟩

structure Sta (P : Program) (H : Heap) (e : Env) (o : Oper) (d : D) : Prop where
 go : ∀ (ρ : Operand → Value) (w : World), Agree ρ w H e → HOK w H → OpTo P ρ o w fun v w' => Rep w' H v d ∧ HOK w' H ∧ Ext w H w' H

structure OpD (P : Program) (H : Heap) (e : Env) (o : Oper) (K : D → Heap → Prop) : Prop where
 go : ∀ (ρ : Operand → Value) (w : World), Agree ρ w H e → HOK w H → OpTo P ρ o w fun v w' => ∃ d H', K d H' ∧ Rep w' H' v d ∧ HOK w' H' ∧ Ext w H w' H'

theorem OpD.of_sta {P : Program} {H : Heap} {e : Env} {o : Oper} {d : D} {K : D → Heap → Prop} (h : Sta P H e o d) (hk : K d H) : OpD P H e o K :=
 .mk fun ρ w ha ho => (h.go ρ w ha ho).mono fun _ _ ⟨h1, h2, h3⟩ => ⟨d, H, hk, h1, h2, h3⟩

section
variable {P : Program} {H : Heap} {e : Env} {dst : Option Tmp} {ty : TypeId} {pos : String} {af : Array Edge} {gd : Option (Nat × Bool)}

theorem sta_move {x : Operand} {d : D} (hx : e.ev x = some d) : Sta P H e ⟨dst, .move x, ty, pos, af, gd⟩ d := .mk fun ρ w ha ho => by
 simp only [OpTo, execOp, pure, Sem.run]
 exact ⟨ha x d hx, ho, .refl _ _⟩

theorem sta_assign {x : Operand} {d : D} (hx : e.ev x = some d) : Sta P H e ⟨dst, .assign x, ty, pos, af, gd⟩ d := .mk fun ρ w ha ho => by
 simp only [OpTo, execOp, pure, Sem.run]
 exact ⟨ha x d hx, ho, .refl _ _⟩

theorem sta_pick {c x y : Operand} {b : Bool} {d : D} (hc : e.ev c = some (.bool b)) (hx : b = true → e.ev x = some d) (hy : b = false → e.ev y = some d) :
  Sta P H e ⟨dst, .pick c x y, ty, pos, af, gd⟩ d := .mk fun ρ w ha ho => by
 have h := ha c _ hc
 generalize hv : ρ c = v at h
 cases h
 cases b
 ·have := ha y d (hy rfl)
  simpa [OpTo, execOp, hv, asBool, pure, Sem.run, bind, Sem.bind] using ⟨this, ho, Ext.refl _ _⟩
 ·have := ha x d (hx rfl)
  simpa [OpTo, execOp, hv, asBool, pure, Sem.run, bind, Sem.bind] using ⟨this, ho, Ext.refl _ _⟩

theorem rep_int {w : World} {v : Value} {k : IntKind} {n : Int} (h : Rep w H v (.int k n)) : v = .int k n := by cases h; rfl
theorem rep_bool {w : World} {v : Value} {b : Bool} (h : Rep w H v (.bool b)) : v = .bool b := by cases h; rfl
theorem rep_ptr {w : World} {v : Value} {b off : Nat} (h : Rep w H v (.ptr b off)) : v = .pointer (some ⟨b, off, none⟩) := by cases h; rfl

def binI (op : BinOp) (a b : Int) : Option D :=
 match op with
 | .add => some (I (a + b))
 | .sub => some (I (a - b))
 | .mul => some (I (a * b))
 | .eql => some (.bool (a == b))
 | .neq => some (.bool (a != b))
 | .lss => some (.bool (decide (a < b)))
 | .leq => some (.bool (decide (a ≤ b)))
 | .gtr => some (.bool (decide (b < a)))
 | .geq => some (.bool (decide (b ≤ a)))
 | _ => none

def fitsI : D → Prop
 | .int _ n => -9223372036854775808 ≤ n ∧ n ≤ 9223372036854775807
 | _ => True

theorem wrap_of_fits {n : Int} (h : -9223372036854775808 ≤ n ∧ n ≤ 9223372036854775807) : IntKind.i64.wrap n = n :=
 IntWalk.i64_in n ⟨h.1, by omega⟩

theorem sta_binI {op : BinOp} {x y : Operand} {tx t2 : TypeId} {a b : Int} {d : D} (hx : e.ev x = some (I a)) (hy : e.ev y = some (I b)) (hd : binI op a b = some d) (hf : fitsI d) :
  Sta P H e ⟨dst, .binOp op tx x y t2, ty, pos, af, gd⟩ d := .mk fun ρ w ha ho => by
 have h1 := rep_int (ha x _ hx)
 have h2 := rep_int (ha y _ hy)
 cases op <;> simp only [binI, Option.some.injEq, reduceCtorEq] at hd <;> subst hd <;>
  simp only [OpTo, execOp, h1, h2, eqGuard, binOp, Op.intArith, Op.intCmp, bind, pure, Sem.run, Sem.bind, ne_eq, not_true, if_false, Bool.not_eq_true] <;>
  first
   | (simp only [fitsI] at hf; rw [wrap_of_fits hf]; exact ⟨.int _ _, ho, .refl _ _⟩)
   | exact ⟨.bool _, ho, .refl _ _⟩

theorem sta_rem {x y : Operand} {tx t2 : TypeId} {a b : Int} (hx : e.ev x = some (I a)) (hy : e.ev y = some (I b)) (h0 : 0 ≤ a) (hb : 0 < b) :
  Sta P H e ⟨dst, .binOp .rem tx x y t2, ty, pos, af, gd⟩ (I (a % b)) := .mk fun ρ w ha ho => by
 have h1 := rep_int (ha x _ hx)
 have h2 := rep_int (ha y _ hy)
 have hne : ¬ b = 0 := by omega
 simp only [OpTo, execOp, h1, h2, eqGuard, binOp, Op.intDiv, bind, pure, Sem.run, Sem.bind, ne_eq, not_true, if_false, hne, Bool.not_eq_true]
 rw [Int.tmod_eq_emod_of_nonneg h0]
 exact ⟨.int _ _, ho, .refl _ _⟩

theorem sta_not {x : Operand} {tx : TypeId} {b : Bool} (hx : e.ev x = some (.bool b)) : Sta P H e ⟨dst, .unOp .not tx x, ty, pos, af, gd⟩ (.bool (!b)) := .mk fun ρ w ha ho => by
 have h1 := rep_bool (ha x _ hx)
 simp only [OpTo, execOp, h1, Op.unary, bind, pure, Sem.run, Sem.bind]
 exact ⟨.bool _, ho, .refl _ _⟩

theorem sta_max {x y : Operand} {ats : Array TypeId} {a b : Int} (hx : e.ev x = some (I a)) (hy : e.ev y = some (I b)) :
  Sta P H e ⟨dst, .call ⟨.builtin .max, #[x, y], ats⟩, ty, pos, af, gd⟩ (I (if b > a then b else a)) := .mk fun ρ w ha ho => by
 have h1 := rep_int (ha x _ hx)
 have h2 := rep_int (ha y _ hy)
 simp [OpTo, execOp, resolve, invoke, builtin, Builtin.max_, Builtin.max2, h1, h2, bind, pure, Sem.run, Sem.bind]
 exact ⟨.int _ _, ho, .refl _ _⟩

theorem sta_min {x y : Operand} {ats : Array TypeId} {a b : Int} (hx : e.ev x = some (I a)) (hy : e.ev y = some (I b)) :
  Sta P H e ⟨dst, .call ⟨.builtin .min, #[x, y], ats⟩, ty, pos, af, gd⟩ (I (if b < a then b else a)) := .mk fun ρ w ha ho => by
 have h1 := rep_int (ha x _ hx)
 have h2 := rep_int (ha y _ hy)
 simp [OpTo, execOp, resolve, invoke, builtin, Builtin.min_, Builtin.min2, h1, h2, bind, pure, Sem.run, Sem.bind]
 exact ⟨.int _ _, ho, .refl _ _⟩

def lenD : D → Option Nat
 | .nil => some 0
 | .list _ l => some l.length
 | .ref _ _ n _ => some n
 | _ => none

theorem sta_len {x : Operand} {t E : TypeId} {d : D} {n : Nat} (hu : P.underlying t = some (.slice E)) (hx : e.ev x = some d) (hn : lenD d = some n) :
  Sta P H e ⟨dst, .call ⟨.builtin .len, #[x], #[t]⟩, ty, pos, af, gd⟩ (I n) := .mk fun ρ w ha ho => by
 have h := ha x d hx
 generalize hv : ρ x = v at h
 cases h <;> simp only [lenD, Option.some.injEq, reduceCtorEq] at hn <;> subst hn <;>
  simp [OpTo, execOp, resolve, invoke, builtin, Builtin.len_, hv, run_underlying hu, goInt] <;> exact ⟨.int _ _, ho, .refl _ _⟩

theorem sta_extract {x : Operand} {i : Nat} {l : List D} {d : D} (hx : e.ev x = some (.tup l)) (hi : l[i]? = some d) : Sta P H e ⟨dst, .extract x i, ty, pos, af, gd⟩ d := .mk fun ρ w ha ho => by
 have h := ha x _ hx
 generalize hv : ρ x = v at h
 cases h with
 | tup vals hs h2 h3 =>
  simp [OpTo, execOp, Instr.extract, hv, h2 i d hi, bind, pure, Sem.run, Sem.bind]
  exact ⟨h3 i d hi, ho, .refl _ _⟩

theorem sta_indexAddr_list {x y : Operand} {t E : TypeId} {inf : TypeInfo} {k : Nat} {l : List D} {kd : IntKind} {i : Int} (hu : P.underlying t = some (.slice E)) (hi : P.info? E = some inf)
  (hs : inf.size = k) (hk : 0 < k) (hx : e.ev x = some (.list k l)) (hy : e.ev y = some (.int kd i)) (h0 : 0 ≤ i) (hl : i < l.length) :
  Sta P H e ⟨dst, .indexAddr t x y, ty, pos, af, gd⟩ (.ipt k l i.toNat 0) := .mk fun ρ w ha ho => by
 have h := ha x _ hx
 have h2 := rep_int (ha y _ hy)
 generalize hv : ρ x = v at h
 cases h with
 | list vals hc hm h1 h2' h3 =>
  rename_i a c
  obtain ⟨n, rfl⟩ := Int.eq_ofNat_of_zero_le h0
  have hn : n < l.length := by omega
  have hcell : cellAt l n 0 = some ((cellsOf l[n])[0]'(by rw [h1 n l[n] (by simp [hn])]; exact hk)) := by simp [cellAt, hn]
  obtain ⟨b, off, ha', hH, hw⟩ := h2' n 0 _ hcell
  subst ha'
  have hn' : (n : Int) < (l.length : Int) := by omega
  have hadd : (⟨b, off, none⟩ : Addr).add (n * inf.size) = ⟨b, off + n * k + 0, none⟩ := by
   rw [hs]; unfold Addr.add; split <;> simp_all
  simp [OpTo, execOp, Instr.indexAt, hv, h2, asIntOf, sizeOf, typeInfo, run_underlying hu, hi, hn]
  rw [hadd]
  refine ⟨Rep.ipt vals h1 (fun i j x hx => ?_) h3, ho, .refl _ _⟩
  obtain ⟨b', off', hb', hH', hw'⟩ := h2' i j x hx
  cases hb'
  exact ⟨hH', hw'⟩

end
end
section
open Go.RowKit

def RepsA (w : World) (H : Heap) (vs : Array Value) (ds : List D) : Prop := vs.size = ds.length ∧ ∀ (j : Nat) (x : D), ds[j]? = some x → ∃ v, vs[j]? = some v ∧ Rep w H v x

theorem RepsA.agg {w : World} {H : Heap} {vs : Array Value} {ds : List D} (h : RepsA w H vs ds) : Rep w H (.agg vs) (.agg ds) := by
 refine .agg (fun j => vs.getD j undef) h.1 (fun j x hx => ?_) (fun j x hx => ?_)
 ·obtain ⟨v, hv, _⟩ := h.2 j x hx
  simp [Array.getD_eq_getD_getElem?, hv]
 ·obtain ⟨v, hv, hr⟩ := h.2 j x hx
  simpa [Array.getD_eq_getD_getElem?, hv] using hr

theorem RepsA.tup {w : World} {H : Heap} {vs : Array Value} {ds : List D} (h : RepsA w H vs ds) : Rep w H (.tuple vs) (.tup ds) := by
 refine .tup (fun j => vs.getD j undef) h.1 (fun j x hx => ?_) (fun j x hx => ?_)
 ·obtain ⟨v, hv, _⟩ := h.2 j x hx
  simp [Array.getD_eq_getD_getElem?, hv]
 ·obtain ⟨v, hv, hr⟩ := h.2 j x hx
  simpa [Array.getD_eq_getD_getElem?, hv] using hr

theorem RepsA.fn {w : World} {H : Heap} {vs : Array Value} {ds : List D} (f : FuncId) (h : RepsA w H vs ds) : Rep w H (.func (.func f) #[] vs) (.fn f ds) := by
 refine .fn f (fun j => vs.getD j undef) h.1 (fun j x hx => ?_) (fun j x hx => ?_)
 ·obtain ⟨v, hv, _⟩ := h.2 j x hx
  simp [Array.getD_eq_getD_getElem?, hv]
 ·obtain ⟨v, hv, hr⟩ := h.2 j x hx
  simpa [Array.getD_eq_getD_getElem?, hv] using hr

theorem rep_agg {w : World} {H : Heap} {v : Value} {ds : List D} (h : Rep w H v (.agg ds)) : ∃ vs, v = .agg vs ∧ RepsA w H vs ds := by
 cases h with
 | agg vals hs h2 h3 => exact ⟨_, rfl, hs, fun j x hx => ⟨_, h2 j x hx, h3 j x hx⟩⟩

theorem rep_tup {w : World} {H : Heap} {v : Value} {ds : List D} (h : Rep w H v (.tup ds)) : ∃ vs, v = .tuple vs ∧ RepsA w H vs ds := by
 cases h with
 | tup vals hs h2 h3 => exact ⟨_, rfl, hs, fun j x hx => ⟨_, h2 j x hx, h3 j x hx⟩⟩

theorem rep_fn {w : World} {H : Heap} {v : Value} {f : FuncId} {ds : List D} (h : Rep w H v (.fn f ds)) : ∃ vs, v = .func (.func f) #[] vs ∧ RepsA w H vs ds := by
 cases h with
 | fn f vals hs h2 h3 => exact ⟨_, rfl, hs, fun j x hx => ⟨_, h2 j x hx, h3 j x hx⟩⟩

theorem rep_cells {w : World} {H : Heap} {v : Value} {d : D} (h : Rep w H v d) : RepsA w H v.cells (cellsOf d) := by
 have one : ∀ u : Value, Rep w H u d → u.cells = #[u] → cellsOf d = [d] → RepsA w H u.cells (cellsOf d) := fun u hu hc hd => by
  rw [hc, hd]
  exact ⟨rfl, fun j x hx => by cases j with | zero => simp at hx; subst hx; exact ⟨u, rfl, hu⟩ | succ j => simp at hx⟩
 cases h with
 | agg vals hs h2 h3 => exact ⟨hs, fun j x hx => ⟨_, h2 j x hx, h3 j x hx⟩⟩
 | int k n => exact one _ (.int k n) rfl rfl
 | bool b => exact one _ (.bool b) rfl rfl
 | str s => exact one _ (.str s) rfl rfl
 | nil a => exact one _ (.nil a) rfl rfl
 | list vals hc hm h1 h2 h3 => exact one _ (.list vals hc hm h1 h2 h3) rfl rfl
 | ref hb hs hl hm => exact one _ (.ref hb hs hl hm) rfl rfl
 | ptr b off => exact one _ (.ptr b off) rfl rfl
 | ipt vals h1 h2 h3 => exact one _ (.ipt vals h1 h2 h3) rfl rfl
 | fn f vals hs h2 h3 => exact one _ (.fn f vals hs h2 h3) rfl rfl
 | tup vals hs h2 h3 => exact one _ (.tup vals hs h2 h3) rfl rfl

def setMany (cells : List D) (off : Nat) (ds : List D) : List D := cells.take off ++ ds ++ cells.drop (off + ds.length)

theorem setMany_length {cells ds : List D} {off : Nat} (h : off + ds.length ≤ cells.length) : (setMany cells off ds).length = cells.length := by
 simp [setMany]; omega

theorem setMany_get {cells ds : List D} {off : Nat} (h : off + ds.length ≤ cells.length) (j : Nat) :
  (setMany cells off ds)[j]? = if off ≤ j ∧ j < off + ds.length then ds[j - off]? else cells[j]? := by
 simp only [setMany]
 by_cases h1 : j < off
 ·rw [List.append_assoc, List.getElem?_append_left (by simp; omega), if_neg (by omega), List.getElem?_take, if_pos h1]
 ·by_cases h2 : j < off + ds.length
  ·rw [List.append_assoc, List.getElem?_append_right (by simp; omega), List.getElem?_append_left (by simp; omega), if_pos (by omega)]
   congr 1; simp; omega
  ·rw [List.getElem?_append_right (by simp; omega), if_neg (by omega), List.getElem?_drop]
   congr 1; simp; omega

theorem foldl_set (off : Nat) : ∀ (l : List Value) (i : Nat) (base : Array Value) (j : Nat), off + i + l.length ≤ base.size →
  ((l.zipIdx i).foldl (fun cs p => cs.setIfInBounds (off + p.2) p.1) base)[j]? = if off + i ≤ j ∧ j < off + i + l.length then l[j - (off + i)]? else base[j]?
 | [], i, base, j, _ => by simp; omega
 | v :: l, i, base, j, h => by
  simp only [List.zipIdx_cons, List.foldl_cons, List.length_cons] at *
  rw [foldl_set off l (i + 1) _ j (by simp; omega)]
  by_cases h1 : j = off + i
  ·subst h1
   rw [if_neg (by omega), if_pos (by omega)]
   simp [Array.getElem?_setIfInBounds]
   omega
  ·by_cases h2 : off + i ≤ j ∧ j < off + i + (l.length + 1)
   ·rw [if_pos (by omega), if_pos h2]
    have : j - (off + i) = (j - (off + (i + 1))) + 1 := by omega
    rw [this, List.getElem?_cons_succ]
   ·rw [if_neg (by omega), if_neg h2]
    rw [Array.getElem?_setIfInBounds, if_neg (by omega)]

theorem foldl_set_size (off : Nat) : ∀ (l : List (Value × Nat)) (base : Array Value), (l.foldl (fun cs p => cs.setIfInBounds (off + p.2) p.1) base).size = base.size
 | [], base => rfl
 | p :: l, base => by simp only [List.foldl_cons]; rw [foldl_set_size off l]; simp

def fillD (place : Nat → Option (Nat × Nat)) (cells : List D) : List (Nat × D) → Option (List D)
 | [] => some cells
 | (i, d) :: rest =>
  match place i with
  | none => none
  | some (off, size) => if (cellsOf d).length = size ∧ off + size ≤ cells.length then fillD place (setMany cells off (cellsOf d)) rest else none

inductive Parts (w : World) (H : Heap) : List (Nat × Value) → List (Nat × D) → Prop
 | nil : Parts w H [] []
 | cons {i : Nat} {v : Value} {d : D} {vs : List (Nat × Value)} {ds : List (Nat × D)} (h : Rep w H v d) (r : Parts w H vs ds) : Parts w H ((i, v) :: vs) ((i, d) :: ds)

theorem fill_rep {w : World} {H : Heap} (place : Nat → Option (Nat × Nat)) {parts : List (Nat × Value)} {pd : List (Nat × D)} (hp : Parts w H parts pd) :
  ∀ (cells : Array Value) (cd out : List D), RepsA w H cells cd → fillD place cd pd = some out → ∃ vs, Instr.fill place cells parts = some vs ∧ RepsA w H vs out := by
 induction hp with
 | nil =>
  intro cells cd out hc ho
  simp only [fillD, Option.some.injEq] at ho
  subst ho
  exact ⟨cells, rfl, hc⟩
 | cons h r ih =>
  rename_i i v d vs ds
  intro cells cd out hc ho
  simp only [fillD] at ho
  simp only [Instr.fill]
  cases hpl : place i with
  | none => simp [hpl] at ho
  | some os =>
   obtain ⟨off, size⟩ := os
   simp only [hpl] at ho ⊢
   split at ho
   ·rename_i hcond
    have hv := rep_cells h
    have hs : v.cells.size = size := by rw [hv.1]; exact hcond.1
    have hfit : ¬ (v.cells.size ≠ size ∨ off + v.cells.size > cells.size) := by
     rw [hs, hc.1]; omega
    have hcond' : (decide (v.cells.size ≠ size) || decide (off + v.cells.size > cells.size)) = false := by
     simp only [Bool.or_eq_false_iff, decide_eq_false_iff_not]
     exact ⟨fun x => hfit (.inl x), fun x => hfit (.inr x)⟩
    rw [if_neg (by simp only [Bool.not_eq_true]; simpa using hcond')]
    refine ih _ _ out ?_ ho
    have hlen : off + (cellsOf d).length ≤ cd.length := by omega
    have hfold : ∀ base : Array Value, (v.cells.zipIdx.foldl (fun cs (x : Value × Nat) => match x with | (c, j) => cs.setIfInBounds (off + j) c) base) = (v.cells.toList.zipIdx.foldl (fun cs p => cs.setIfInBounds (off + p.2) p.1) base) := fun base => by
     rw [← Array.foldl_toList, Array.toList_zipIdx]
    rw [hfold]
    refine ⟨by rw [foldl_set_size, setMany_length hlen]; exact hc.1, fun j x hx => ?_⟩
    rw [setMany_get hlen] at hx
    have hg := foldl_set off v.cells.toList 0 cells j (by simp; rw [hs, hc.1]; omega)
    simp only [Nat.add_zero] at hg
    rw [hg]
    have hl2 : v.cells.toList.length = (cellsOf d).length := by simp [hv.1]
    rw [hl2]
    split at hx
    ·rename_i hin
     rw [if_pos hin]
     obtain ⟨u, hu, hr⟩ := hv.2 _ x hx
     exact ⟨u, by simpa using hu, hr⟩
    ·rename_i hout
     rw [if_neg hout]
     exact hc.2 j x hx
   ·cases ho

section
variable {P : Program} {H : Heap} {e : Env} {dst : Option Tmp} {ty : TypeId} {pos : String} {af : Array Edge} {gd : Option (Nat × Bool)}

def placesOf (P : Program) (fs : Array Field) : Option (Array (Nat × Nat)) := fs.mapM fun f => (P.info? f.type).map fun i => (f.offset, i.size)

theorem run_sizeOf {t : TypeId} {i : TypeInfo} (h : P.info? t = some i) (w : World) : (sizeOf t).run P w = .ok i.size w := by simp [sizeOf, typeInfo, h]
theorem run_typeInfo {t : TypeId} {i : TypeInfo} (h : P.info? t = some i) (w : World) : (typeInfo t).run P w = .ok i w := by simp [typeInfo, h]
theorem run_zeroValue {t : TypeId} {i : TypeInfo} {z : Value} (h : P.info? t = some i) (hz : i.zero = some z) (w : World) : (zeroValue t).run P w = .ok z w := by simp [zeroValue, typeInfo, h, hz]

theorem run_places (w : World) : ∀ (fs : List Field) (pl : List (Nat × Nat)), (fs.mapM fun f => (P.info? f.type).map fun i => (f.offset, i.size)) = some pl →
  (fs.mapM fun f => (do pure (f.offset, ← sizeOf f.type) : Sem (Nat × Nat))).run P w = .ok pl w
 | [], pl, h => by simp at h; subst h; simp
 | f :: fs, pl, h => by
  rw [List.mapM_cons] at h
  cases hi : P.info? f.type with
  | none => simp [hi] at h
  | some i =>
   simp only [hi, Option.map_some, Option.bind_eq_bind, Option.bind_some] at h
   cases hr : (fs.mapM fun f => (P.info? f.type).map fun i => (f.offset, i.size)) with
   | none => simp [hr] at h
   | some pl' =>
    simp [hr] at h
    subst h
    rw [List.mapM_cons]
    simp only [Sem.run_bind, run_sizeOf hi, Result.andThen_ok, Sem.run_pure, run_places w fs pl' hr]

def evParts (e : Env) : List (Nat × Operand) → Option (List (Nat × D))
 | [] => some []
 | (i, x) :: r => (e.ev x).bind fun d => (evParts e r).map fun ds => (i, d) :: ds

theorem parts_of {w : World} {ρ : Operand → Value} (ha : Agree ρ w H e) : ∀ (ps : List (Nat × Operand)) (pd : List (Nat × D)), evParts e ps = some pd → Parts w H (ps.map fun x => (x.1, ρ x.2)) pd
 | [], pd, h => by simp [evParts] at h; subst h; exact .nil
 | (i, x) :: r, pd, h => by
  simp only [evParts] at h
  cases hx : e.ev x with
  | none => simp [hx] at h
  | some d =>
   cases hr : evParts e r with
   | none => simp [hx, hr] at h
   | some ds =>
    simp [hx, hr] at h
    subst h
    exact .cons (ha x d hx) (parts_of ha r ds hr)

def litV : D → Value
 | .int k n => .int k n
 | .bool b => .bool b
 | .str s => .string s
 | _ => .slice none 0 0
def litOk : D → Bool
 | .int _ _ | .bool _ | .str _ | .nil => true
 | _ => false

theorem rep_lit (w : World) (H : Heap) {d : D} (h : litOk d = true) : Rep w H (litV d) d := by
 cases d <;> simp [litOk] at h <;> constructor

theorem sta_build {t : TypeId} {parts : Array (Nat × Operand)} {inf : TypeInfo} {fs : Array Field} {z : Value} {pl : Array (Nat × Nat)} {pd : List (Nat × D)} {zd out : List D}
  (hi : P.info? t = some inf) (hz : inf.zero = some z) (hu : P.underlying t = some (.struct fs)) (hpl : placesOf P fs = some pl) (hzd : z = .agg (zd.map litV).toArray)
  (hzc : zd.all litOk = true) (hp : evParts e parts.toList = some pd) (ho : fillD (pl[·]?) zd pd = some out) :
  Sta P H e ⟨dst, .build t parts, ty, pos, af, gd⟩ (.agg out) := .mk fun ρ w ha hok => by
 have hz2 : RepsA w H z.cells zd := by
  subst hzd
  refine ⟨by simp [Value.cells], fun j x hx => ?_⟩
  exact ⟨litV x, by simp [Value.cells, hx], rep_lit w H (List.all_eq_true.1 hzc x (List.mem_of_getElem? hx))⟩
 obtain ⟨vs, hf, hr⟩ := fill_rep (w := w) (H := H) (pl[·]?) (parts_of ha parts.toList pd hp) z.cells zd out hz2 ho
 have hpl' : (fs.mapM fun f => (do pure (f.offset, ← sizeOf f.type) : Sem (Nat × Nat))).run P w = .ok pl w := by
  have h1 : (fs.toList.mapM fun f => (P.info? f.type).map fun i => (f.offset, i.size)) = some pl.toList := by
   have := hpl
   unfold placesOf at this
   rw [← Array.toList_mapM, this]
   rfl
  have h2 := run_places (P := P) w fs.toList pl.toList h1
  rw [← Array.toArray_toList (xs := fs), List.mapM_toArray, Sem.run_map, h2]
  rfl
 simp only [OpTo, execOp, Instr.build, Sem.run_bind, run_zeroValue hi hz, run_underlying hu, Result.andThen_ok, hpl']
 have hmap : (Array.map (fun x => (x.1, ρ x.2)) parts).toList = parts.toList.map fun x => (x.1, ρ x.2) := by simp
 first
  | rw [hf]
  | (simp only [← hmap] at hf; rw [hf])
 simp
 exact ⟨hr.agg, hok, .refl _ _⟩

end
end
section
open Go.RowKit

theorem addr_add (b o j : Nat) : (⟨b, o, none⟩ : Addr).add j = ⟨b, o + j, none⟩ := by unfold Addr.add; split <;> simp_all

def aggD : TypeDesc → Bool
 | .struct _ => true
 | .array _ _ => true
 | _ => false

section
variable {P : Program} {H : Heap} {e : Env} {dst : Option Tmp} {ty : TypeId} {pos : String} {af : Array Edge} {gd : Option (Nat × Bool)}

theorem run_isAgg {t : TypeId} {d : TypeDesc} (h : P.underlying t = some d) (w : World) : (isAgg t).run P w = .ok (aggD d) w := by
 unfold isAgg
 rw [Sem.run_bind, run_underlying h]
 cases d <;> simp [aggD]

theorem run_load_cell {t : TypeId} {d : TypeDesc} (h : P.underlying t = some d) (hd : aggD d = false) (w : World) {a : Addr} {v : Value} (hc : w.cell? a = some v) :
  (Instr.loadAt t (.pointer (some a))).run P w = .ok v w := by
 simp [Instr.loadAt, Instr.sureAddr, loadVar, run_isAgg h, hd, load, Sem.run, hc]

theorem run_load_agg {t : TypeId} {d : TypeDesc} {inf : TypeInfo} (h : P.underlying t = some d) (hd : aggD d = true) (hi : P.info? t = some inf) (w : World) {a : Addr} {vs : List Value} (hl : vs.length = inf.size)
  (hc : ∀ (j : Nat) (v : Value), vs[j]? = some v → w.cell? (a.add j) = some v) : (Instr.loadAt t (.pointer (some a))).run P w = .ok (.agg vs.toArray) w := by
 have := run_loadCells_list (P := P) w a vs hc
 simp [Instr.loadAt, Instr.sureAddr, loadVar, run_isAgg h, hd, run_sizeOf hi, ← hl, this]

theorem sta_load_cell {t : TypeId} {td : TypeDesc} {x : Operand} {k i j : Nat} {l : List D} {d : D} (hu : P.underlying t = some td) (hd : aggD td = false) (hx : e.ev x = some (.ipt k l i j)) (hc : cellAt l i j = some d) :
  Sta P H e ⟨dst, .load t x, ty, pos, af, gd⟩ d := .mk fun ρ w ha ho => by
 have h := ha x _ hx
 generalize hv : ρ x = v at h
 cases h with
 | ipt vals h1 h2 h3 =>
  simp [OpTo, execOp, hv, run_load_cell hu hd w (h2 i j d hc).2]
  exact ⟨h3 i j d hc, ho, .refl _ _⟩

theorem sta_load_agg {t : TypeId} {td : TypeDesc} {inf : TypeInfo} {x : Operand} {k i j : Nat} {l : List D} {el : D} {ds : List D} (hu : P.underlying t = some td) (hd : aggD td = true) (hi : P.info? t = some inf)
  (hx : e.ev x = some (.ipt k l i j)) (hl : l[i]? = some el) (hds : ((cellsOf el).drop j).take inf.size = ds) (hn : ds.length = inf.size) :
  Sta P H e ⟨dst, .load t x, ty, pos, af, gd⟩ (.agg ds) := .mk fun ρ w ha ho => by
 have h := ha x _ hx
 generalize hv : ρ x = v at h
 cases h with
 | ipt vals h1 h2 h3 =>
  rename_i b off
  have hcell : ∀ (m : Nat) (y : D), ds[m]? = some y → cellAt l i (j + m) = some y := fun m y hy => by
   subst hds
   rw [List.getElem?_take] at hy
   split at hy
   ·rw [List.getElem?_drop] at hy
    simp [cellAt, hl, hy]
   ·cases hy
  have hvs : ∀ (m : Nat) (v : Value), ((List.range inf.size).map fun m => vals i (j + m))[m]? = some v → w.cell? ((⟨b, off + i * k + j, none⟩ : Addr).add m) = some v := fun m v hm => by
   simp only [List.getElem?_map, Option.map_eq_some_iff] at hm
   obtain ⟨m', hm', rfl⟩ := hm
   have hlt : m < inf.size := by
    have := (List.getElem?_eq_some_iff.1 hm').1
    simpa using this
   rw [List.getElem?_range hlt] at hm'
   cases hm'
   have hy : ds[m]? = some ds[m] := by simp [hn, hlt]
   have := (h2 i (j + m) _ (hcell m _ hy)).2
   rw [addr_add, Nat.add_assoc, this]
  rw [show (OpTo P ρ ⟨dst, .load t x, ty, pos, af, gd⟩ w) = fun K => OpTo P ρ ⟨dst, .load t x, ty, pos, af, gd⟩ w K from rfl]
  simp [OpTo, execOp, hv, run_load_agg hu hd hi w (by simp) hvs]
  refine ⟨RepsA.agg ⟨by simp [hn], fun m y hy => ?_⟩, ho, .refl _ _⟩
  have hlt : m < inf.size := by rw [← hn]; exact (List.getElem?_eq_some_iff.1 hy).1
  exact ⟨vals i (j + m), by simp [hlt], h3 i (j + m) y (hcell m y hy)⟩

theorem sta_load_el {t : TypeId} {td : TypeDesc} {inf : TypeInfo} {x : Operand} {k i : Nat} {l : List D} {ds : List D} (hu : P.underlying t = some td) (hd : aggD td = true) (hi : P.info? t = some inf) (hs : inf.size = ds.length)
  (hx : e.ev x = some (.ipt k l i 0)) (hl : l[i]? = some (.agg ds)) : Sta P H e ⟨dst, .load t x, ty, pos, af, gd⟩ (.agg ds) :=
 sta_load_agg hu hd hi hx hl (by simp [cellsOf, hs]) hs.symm

theorem sta_load_mut {t T0 : TypeId} {td : TypeDesc} {x : Operand} {b off : Nat} {cells : List D} {d : D} (hu : P.underlying t = some td) (hd : aggD td = false) (hx : e.ev x = some (.ptr b off)) (hH : H b = some (T0, cells)) (hc : cells[off]? = some d) :
  Sta P H e ⟨dst, .load t x, ty, pos, af, gd⟩ d := .mk fun ρ w ha ho => by
 have h := rep_ptr (ha x _ hx)
 obtain ⟨cs, hb, _, hr⟩ := ho b T0 cells hH
 obtain ⟨_, v, hv, hrep⟩ := hr off d hc
 have hcell : w.cell? ⟨b, off, none⟩ = some v := by rw [cell_of_row w b off cs T0 (0, 0) hb]; exact hv
 simp [OpTo, execOp, h, run_load_cell hu hd w hcell]
 exact ⟨hrep, ho, .refl _ _⟩

theorem sta_load_mut_agg {t T0 : TypeId} {td : TypeDesc} {inf : TypeInfo} {x : Operand} {b off : Nat} {cells ds : List D} (hu : P.underlying t = some td) (hd : aggD td = true) (hi : P.info? t = some inf)
  (hx : e.ev x = some (.ptr b off)) (hH : H b = some (T0, cells)) (hds : (cells.drop off).take inf.size = ds) (hn : ds.length = inf.size) :
  Sta P H e ⟨dst, .load t x, ty, pos, af, gd⟩ (.agg ds) := .mk fun ρ w ha ho => by
 have h := rep_ptr (ha x _ hx)
 obtain ⟨cs, hb, hlen, hr⟩ := ho b T0 cells hH
 have hcell : ∀ (m : Nat) (y : D), ds[m]? = some y → cells[off + m]? = some y := fun m y hy => by
  subst hds
  rw [List.getElem?_take] at hy
  split at hy
  ·rwa [List.getElem?_drop] at hy
  ·cases hy
 have hvs : ∀ (m : Nat) (v : Value), ((List.range inf.size).map fun m => cs.getD (off + m) undef)[m]? = some v → w.cell? ((⟨b, off, none⟩ : Addr).add m) = some v := fun m v hm => by
  simp only [List.getElem?_map, Option.map_eq_some_iff] at hm
  obtain ⟨m', hm', rfl⟩ := hm
  have hlt : m < inf.size := by
   have := (List.getElem?_eq_some_iff.1 hm').1
   simpa using this
  rw [List.getElem?_range hlt] at hm'
  cases hm'
  have hy : ds[m]? = some ds[m] := by simp [hn, hlt]
  obtain ⟨_, u, hu', _⟩ := hr (off + m) _ (hcell m _ hy)
  rw [addr_add, cell_of_row w b (off + m) cs T0 (0, 0) hb, hu']
  simp [Array.getD_eq_getD_getElem?, hu']
 simp [OpTo, execOp, h, run_load_agg hu hd hi w (by simp) hvs]
 refine ⟨RepsA.agg ⟨by simp [hn], fun m y hy => ?_⟩, ho, .refl _ _⟩
 have hlt : m < inf.size := by rw [← hn]; exact (List.getElem?_eq_some_iff.1 hy).1
 obtain ⟨_, u, hu', hrep⟩ := hr (off + m) y (hcell m y hy)
 exact ⟨u, by simp [hlt, Array.getD_eq_getD_getElem?, hu'], hrep⟩

theorem run_fieldAt {t : TypeId} {fs : Array Field} {f : Nat} {fl : Field} {inf : TypeInfo} (hu : P.underlying t = some (.struct fs)) (hf : fs[f]? = some fl) (hi : P.info? fl.type = some inf) (hs : inf.size ≠ 0) (w : World) (b o : Nat) :
  (Instr.fieldAt t (.pointer (some ⟨b, o, none⟩)) f).run P w = .ok (.pointer (some ⟨b, o + fl.offset, none⟩)) w := by
 simp [Instr.fieldAt, run_underlying hu, hf, Instr.sureAddr, fieldPlace, run_sizeOf hi, hs, addr_add]

def fieldOff (P : Program) (t : TypeId) (f : Nat) : Option Nat :=
 match P.underlying t with
 | some (.struct fs) => (fs[f]?).bind fun fl => (P.info? fl.type).bind fun i => if i.size = 0 then none else some fl.offset
 | _ => none

theorem run_fieldOff {t : TypeId} {f o : Nat} (h : fieldOff P t f = some o) (w : World) (b off : Nat) :
  (Instr.fieldAt t (.pointer (some ⟨b, off, none⟩)) f).run P w = .ok (.pointer (some ⟨b, off + o, none⟩)) w := by
 unfold fieldOff at h
 split at h
 ·rename_i fs hu
  cases hf : fs[f]? with
  | none => simp [hf] at h
  | some fl =>
   cases hi : P.info? fl.type with
   | none => simp [hf, hi] at h
   | some i =>
    simp only [hf, hi, Option.bind_some] at h
    split at h
    ·cases h
    ·rename_i hs
     cases h
     exact run_fieldAt hu hf hi hs w b off
 ·cases h

theorem sta_fieldAddr_ipt {t : TypeId} {x : Operand} {f o k i j : Nat} {l : List D} (hf : fieldOff P t f = some o) (hx : e.ev x = some (.ipt k l i j)) :
  Sta P H e ⟨dst, .fieldAddr t x f, ty, pos, af, gd⟩ (.ipt k l i (j + o)) := .mk fun ρ w ha ho => by
 have h := ha x _ hx
 generalize hv : ρ x = v at h
 cases h with
 | ipt vals h1 h2 h3 =>
  simp [OpTo, execOp, hv, run_fieldOff hf, Nat.add_assoc]
  rw [← Nat.add_assoc]
  exact ⟨.ipt vals h1 h2 h3, ho, .refl _ _⟩

theorem sta_fieldAddr_ptr {t : TypeId} {x : Operand} {f o b off : Nat} (hf : fieldOff P t f = some o) (hx : e.ev x = some (.ptr b off)) :
  Sta P H e ⟨dst, .fieldAddr t x f, ty, pos, af, gd⟩ (.ptr b (off + o)) := .mk fun ρ w ha ho => by
 have h := rep_ptr (ha x _ hx)
 simp [OpTo, execOp, h, run_fieldOff hf]
 exact ⟨.ptr _ _, ho, .refl _ _⟩

theorem sta_indexAddr_ref {x y : Operand} {t E : TypeId} {inf : TypeInfo} {k b off n : Nat} {kd : IntKind} {i : Int} (hu : P.underlying t = some (.slice E)) (hi : P.info? E = some inf)
  (hs : inf.size = k) (hx : e.ev x = some (.ref b off n k)) (hy : e.ev y = some (.int kd i)) (h0 : 0 ≤ i) (hl : i < n) :
  Sta P H e ⟨dst, .indexAddr t x y, ty, pos, af, gd⟩ (.ptr b (off + i.toNat * k)) := .mk fun ρ w ha ho => by
 have h := ha x _ hx
 have h2 := rep_int (ha y _ hy)
 generalize hv : ρ x = v at h
 cases h with
 | ref hb hs' hl' hm =>
  obtain ⟨m, rfl⟩ := Int.eq_ofNat_of_zero_le h0
  have hn : m < n := by omega
  simp [OpTo, execOp, Instr.indexAt, hv, h2, asIntOf, sizeOf, typeInfo, run_underlying hu, hi, hn, addr_add, hs]
  exact ⟨.ptr _ _, ho, .refl _ _⟩

def boundD (e : Env) : Option Operand → Nat → Option Nat
 | none, n => some n
 | some x, _ => match e.ev x with
  | some (.int .i64 i) => if 0 ≤ i then some i.toNat else none
  | _ => none

theorem bound_some {ρ : Operand → Value} {w : World} (ha : Agree ρ w H e) {x : Operand} {n m : Nat} (h : boundD e (some x) n = some m) : ρ x = .int .i64 m := by
 simp only [boundD] at h
 split at h
 ·rename_i i hx
  split at h
  ·rename_i h0
   cases h
   rw [rep_int (ha x _ hx)]
   congr
   omega
  ·cases h
 ·cases h

theorem run_sliceBounds {ρ : Operand → Value} {w : World} (ha : Agree ρ w H e) {lo hi : Option Operand} {n cap a b : Nat} (hlo : boundD e lo 0 = some a) (hhi : boundD e hi n = some b) (hab : a ≤ b) (hbc : b ≤ cap) :
  (Instr.sliceBounds true n cap (lo.map ρ) (hi.map ρ) none).run P w = .ok (a, b, cap) w := by
 have h1 : ((match hi.map ρ, (none : Option Value) with
  | some v, some _ => Instr.sliceBound v cap .slice3B
  | some v, none => Instr.sliceBound v cap .sliceAcap
  | none, none => pure n
  | none, some _ => stuck "Slice: max without high" : Sem Nat)).run P w = .ok b w := by
  cases hi with
  | none => simp [boundD] at hhi; subst hhi; simp
  | some x =>
   have := bound_some ha hhi
   simp [Instr.sliceBound, this, asIntOf, hbc]
 cases lo with
 | none =>
  simp [boundD] at hlo
  subst hlo
  cases hi with
  | none => simp [boundD] at hhi; subst hhi; simp [Instr.sliceBounds]
  | some x =>
   have := bound_some ha hhi
   simp [Instr.sliceBounds, Instr.sliceBound, this, asIntOf, hbc]
 | some y =>
  have hy := bound_some ha hlo
  cases hi with
  | none => simp [boundD] at hhi; subst hhi; simp [Instr.sliceBounds, Instr.sliceBound, hy, asIntOf, hab]
  | some x =>
   have := bound_some ha hhi
   simp [Instr.sliceBounds, Instr.sliceBound, this, hy, asIntOf, hbc, hab]

theorem cellAt_cut {l : List D} {a b i j : Nat} {x : D} (h : cellAt ((l.take b).drop a) i j = some x) : cellAt l (a + i) j = some x := by
 simp only [cellAt, List.getElem?_drop, List.getElem?_take] at h ⊢
 split at h
 ·exact h
 ·cases h

theorem sta_slice_list {t E : TypeId} {inf : TypeInfo} {x : Operand} {lo hi : Option Operand} {k a b : Nat} {l : List D} (hu : P.underlying t = some (.slice E)) (hi' : P.info? E = some inf) (hs : inf.size = k)
  (hx : e.ev x = some (.list k l)) (hlo : boundD e lo 0 = some a) (hhi : boundD e hi l.length = some b) (hab : a ≤ b) (hb : b ≤ l.length) :
  Sta P H e ⟨dst, .slice t x lo hi none, ty, pos, af, gd⟩ (.list k ((l.take b).drop a)) := .mk fun ρ w ha ho => by
 have h := ha x _ hx
 generalize hv : ρ x = v at h
 cases h with
 | list vals hc hm h1 h2 h3 =>
  rename_i ao c
  have hbd := run_sliceBounds (P := P) ha hlo hhi hab (Nat.le_trans hb hc)
  have hr : (Instr.sliceAt t (.slice ao l.length c) (lo.map ρ) (hi.map ρ) none).run P w = .ok (.slice (if c = a then ao else ao.map (·.add (a * inf.size))) (b - a) (c - a)) w := by
   simp [Instr.sliceAt, Instr.slice, run_underlying hu, hbd, run_sizeOf hi']
  simp [OpTo, execOp, hv, hr]
  refine ⟨?_, ho, .refl _ _⟩
  have hlen : b - a = ((l.take b).drop a).length := by simp; omega
  rw [hlen]
  refine .list (fun i j => vals (a + i) j) (by rw [← hlen]; omega) (by omega) (fun i d hd => ?_) (fun i j y hy => ?_) (fun i j y hy => h3 _ _ _ (cellAt_cut hy))
  ·refine h1 (a + i) d ?_
   simp only [List.getElem?_drop, List.getElem?_take] at hd
   split at hd
   ·exact hd
   ·cases hd
  ·obtain ⟨b', off, ha', hH, hw⟩ := h2 _ _ _ (cellAt_cut hy)
   have hlt : i < b - a := by
    rw [hlen]
    simp only [cellAt] at hy
    cases hq : ((l.take b).drop a)[i]? with
    | none => simp [hq] at hy
    | some q => exact (List.getElem?_eq_some_iff.1 hq).1
   have hne : ¬ c = a := by omega
   subst ha'
   refine ⟨b', off + a * k, ?_, hH, ?_⟩
   ·simp [hne, addr_add, hs]
   ·rw [← hw]; congr 2; rw [Nat.add_mul]; omega

theorem sta_slice_nil {t E : TypeId} {inf : TypeInfo} {x : Operand} {lo hi : Option Operand} {k : Nat} (hu : P.underlying t = some (.slice E)) (hi' : P.info? E = some inf) (hx : e.ev x = some .nil) (hlo : boundD e lo 0 = some 0) (hhi : boundD e hi 0 = some 0) :
  Sta P H e ⟨dst, .slice t x lo hi none, ty, pos, af, gd⟩ .nil := .mk fun ρ w ha ho => by
 have h := ha x _ hx
 generalize hv : ρ x = v at h
 cases h with
 | nil ao =>
  have hbd := run_sliceBounds (P := P) (n := 0) (cap := 0) ha hlo hhi (Nat.le_refl _) (Nat.le_refl _)
  simp [OpTo, execOp, hv, Instr.sliceAt, Instr.slice, run_underlying hu, hbd, run_sizeOf hi']
  exact ⟨.nil _, ho, .refl _ _⟩

theorem row_vals {w : World} {H : Heap} {b : Nat} {T : TypeId} {cs : Array Value} {fr : Nat × Nat} {l : List D} {k : Nat} (hb : w.heap[b]? = some (.cells cs T fr)) (h1 : ∀ (i : Nat) (d : D), l[i]? = some d → (cellsOf d).length = k)
  (hr : ∀ (j : Nat) (x : D), (l.flatMap cellsOf)[j]? = some x → ∃ v, cs[j]? = some v ∧ Rep w H v x) :
  ∀ (i j : Nat) (x : D), cellAt l i j = some x → w.cell? ⟨b, 0 + i * k + j, none⟩ = some (cs.getD (i * k + j) undef) ∧ Rep w H (cs.getD (i * k + j) undef) x := by
 have hflat : ∀ (l : List D), (∀ (i : Nat) (d : D), l[i]? = some d → (cellsOf d).length = k) → ∀ (i j : Nat) (x : D), cellAt l i j = some x → (l.flatMap cellsOf)[i * k + j]? = some x := by
  intro l
  induction l with
  | nil => intro _ i j x hx; simp [cellAt] at hx
  | cons d l ih =>
   intro hk i j x hx
   have hd : (cellsOf d).length = k := hk 0 d rfl
   cases i with
   | zero =>
    simp [cellAt] at hx
    simp only [List.flatMap_cons, Nat.zero_mul, Nat.zero_add]
    rw [List.getElem?_append_left (List.getElem?_eq_some_iff.1 hx).1]
    exact hx
   | succ i =>
    simp only [List.flatMap_cons]
    rw [List.getElem?_append_right (by rw [hd, Nat.add_mul]; omega)]
    have := ih (fun i d h => hk (i + 1) d (by simpa using h)) i j x (by simpa [cellAt] using hx)
    rw [← this]
    congr 1
    rw [hd, Nat.add_mul]; omega
 intro i j x hx
 obtain ⟨v, hv, hrep⟩ := hr _ x (hflat l h1 i j x hx)
 rw [Nat.zero_add, cell_of_row w b _ cs T fr hb, hv]
 simp [Array.getD_eq_getD_getElem?, hv, hrep]

theorem rep_row {w : World} {H : Heap} {b : Nat} {T : TypeId} {cs : Array Value} {fr : Nat × Nat} {l : List D} {k cap : Nat} (hb : w.heap[b]? = some (.cells cs T fr)) (hH : H b = none) (h1 : ∀ (i : Nat) (d : D), l[i]? = some d → (cellsOf d).length = k)
  (hr : ∀ (j : Nat) (x : D), (l.flatMap cellsOf)[j]? = some x → ∃ v, cs[j]? = some v ∧ Rep w H v x) (hc : l.length ≤ cap) (hm : cap ≤ maxLen) : Rep w H (.slice (some ⟨b, 0, none⟩) l.length cap) (.list k l) :=
 .list (fun i j => cs.getD (i * k + j) undef) hc hm h1 (fun i j x hx => ⟨b, 0, rfl, hH, (row_vals hb h1 hr i j x hx).1⟩) (fun i j x hx => (row_vals hb h1 hr i j x hx).2)

theorem sta_box {t : TypeId} {x : Operand} {d : D} {k : Nat} (hx : e.ev x = some d) (hk : (cellsOf d).length = k) : Sta P H e ⟨dst, .box t x, ty, pos, af, gd⟩ (.ipt k [d] 0 0) := .mk fun ρ w ha ho => by
 have h := ha x d hx
 have hc := rep_cells h
 simp [OpTo, execOp, Instr.box, newVar, newRow, newObj, Sem.run]
 refine ⟨?_, ho.alloc _, Ext.alloc w H _⟩
 have hb := heap_alloc_new w (.cells (ρ x).cells t)
 have h1 : ∀ (i : Nat) (y : D), [d][i]? = some y → (cellsOf y).length = k := fun i y hy => by
  cases i with
  | zero => simp at hy; subst hy; exact hk
  | succ i => simp at hy
 have hr : ∀ (j : Nat) (y : D), ([d].flatMap cellsOf)[j]? = some y → ∃ v, (ρ x).cells[j]? = some v ∧ Rep (w.alloc (.cells (ρ x).cells t)) H v y := fun j y hy => by
  simp at hy
  obtain ⟨v, hv, hr⟩ := hc.2 j y hy
  exact ⟨v, hv, hr.ext (Ext.alloc w H _)⟩
 have := Rep.ipt (w := w.alloc (.cells (ρ x).cells t)) (H := H) (k := k) (l := [d]) (b := w.heap.size) (off := 0) (i := 0) (j := 0) _ h1
  (fun i j y hy => ⟨ho.fresh, (row_vals hb h1 hr i j y hy).1⟩) (fun i j y hy => (row_vals hb h1 hr i j y hy).2)
 simpa using this

end
end
end Go.Proofs.YtfjmdhemlfafbaaGreat
