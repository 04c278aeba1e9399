/-
  Package mono, more of what its functions do. No condition.
-/
import Derived.Test.YtfjmdhemlfafbaaGreatKHc12
import Derived.Test.YtfjmdhemlfafbaaGreatKHc3
import Derived.Test.YtfjmdhemlfafbaaGreatKHc7
import Derived.Test.YtfjmdhemlfafbaaGreatKHc5
import Derived.Test.YtfjmdhemlfafbaaGreatKHc9
import Derived.Test.YtfjmdhemlfafbaaGreatKHc4
set_option linter.unusedVariables false
set_option linter.unusedSimpArgs false

namespace Go.Proofs.YtfjmdhemlfafbaaGreat
section
open Go.RowKit

def monZ (n : Nat) (d : Int) : List (List Int) := if d < 0 then [] else monosT n d.toNat

theorem monZ_mem {n : Nat} {d : Int} {e : List Int} (hn : 0 < n) : e ∈ monZ n d ↔ Mn n e ∧ e.sum = d := by
 unfold monZ
 split
 ·rename_i h
  constructor
  ·intro h; cases h
  ·rintro ⟨h1, h2⟩
   have := h1.sum0
   omega
 ·rw [monosT_mem hn]
  constructor
  ·rintro ⟨h1, h2⟩; exact ⟨h1, by omega⟩
  ·rintro ⟨h1, h2⟩; exact ⟨h1, by omega⟩

def outM (l : List (List Int)) (e : List Int) : Bool := !(l.any fun x => goesM e x)

def cntO (n : Nat) (l : List (List Int)) (d : Int) : Nat := ((monZ n d).filter (outM l)).length
def frN (n : Nat) (d : Int) : Nat := (monZ n d).length

theorem cntO_le (n : Nat) (l : List (List Int)) (d : Int) : cntO n l d ≤ frN n d := List.length_filter_le _ _

def quoM (x e : List Int) : List Int := zipE (· - ·) (zipE max e x) x

theorem quo_ok {n : Nat} {x e : List Int} (hx : Mn n x) (he : Mn n e) : Mn n (quoM x e) ∧ (quoM x e).sum ≤ e.sum := by
 have hl := hx.len
 have hl2 := he.len
 have h1 : (zipE max e x).length = n := zipE_same_len hl2 hl
 have h0 : Mn n (zipE max e x) := ⟨h1, fun y hy => by
  unfold zipE at hy
  obtain ⟨i, hi, rfl⟩ := List.getElem_of_mem hy
  rw [List.length_zipWith] at hi
  rw [List.getElem_zipWith]
  have := he.pos _ (List.getElem_mem (show i < e.length by omega))
  omega⟩
 obtain ⟨g1, g2, g3⟩ := goes_rest h0 hx (goes_of_max (by omega)).2
 refine ⟨g1, ?_⟩
 unfold quoM
 rw [g3]
 have hsum : ∀ (a b : List Int), a.length = b.length → (∀ y ∈ a, 0 ≤ y) → (∀ y ∈ b, 0 ≤ y) → (zipE max a b).sum ≤ a.sum + b.sum := by
  intro a
  induction a with
  | nil => intro b hb _ _; cases b with
   | nil => simp [zipE]
   | cons y b => simp at hb
  | cons z a ih =>
   intro b hb p1 p2
   cases b with
   | nil => simp at hb
   | cons y b =>
    have := ih b (by simpa using hb) (fun w hw => p1 w (by simp [hw])) fun w hw => p2 w (by simp [hw])
    have q1 := p1 z (by simp)
    have q2 := p2 y (by simp)
    show (max z y :: zipE max a b).sum ≤ (z :: a).sum + (y :: b).sum
    simp only [List.sum_cons]
    omega
 have := hsum e x (by omega) he.pos hx.pos
 omega

theorem len_split {α : Type} (p q : α → Bool) : ∀ (l : List α), (l.filter p).length = (l.filter fun x => p x && q x).length + (l.filter fun x => p x && !q x).length
 | [] => rfl
 | x :: l => by
  have ih := len_split p q l
  simp only [List.filter_cons]
  cases p x <;> cases q x <;> simp <;> omega

def padT (o : List Int) (n : Nat) : List Int := o ++ List.replicate (n - o.length) 0

theorem padT_len (o : List Int) (n : Nat) : (padT o n).length = max o.length n := by
 unfold padT
 rw [List.length_append, List.length_replicate]
 omega

theorem padT_get (o : List Int) (n j : Nat) : (padT o n).getD j 0 = o.getD j 0 := by
 unfold padT
 rw [List.getD_eq_getElem?_getD, List.getD_eq_getElem?_getD, List.getElem?_append]
 split
 ·rfl
 ·rename_i h
  rw [List.getElem?_eq_none (l := o) (by omega), List.getElem?_replicate]
  split <;> rfl

def plusU (a b : List Int) (t : Int) (f : Nat) : Nat → List Int
 | 0 => a
 | i + 1 => (padT (plusU a b t f i) (i + f + 1)).set (i + f) (wrap64 ((plusU a b t f i).getD (i + f) 0 + wrap64 (t * b.getD i 0)))

def plusT (a b : List Int) (t : Int) (f : Nat) : List Int := plusU a b t f b.length

theorem plusU_len (a b : List Int) (t : Int) (f : Nat) : ∀ i, (plusU a b t f i).length = if i = 0 then a.length else max a.length (i + f)
 | 0 => rfl
 | i + 1 => by
  have ih := plusU_len a b t f i
  unfold plusU
  rw [List.length_set, padT_len, ih]
  split <;> split <;> omega

theorem plusT_len (a b : List Int) (t : Int) (f : Nat) : (plusT a b t f).length ≤ max a.length (b.length + f) := by
 unfold plusT
 rw [plusU_len]
 split <;> omega

def numF : Nat → List (List Int) → List Int
 | 0, _ => [1]
 | _ + 1, [] => [1]
 | L + 1, x :: l => plusT (numF L l) (numF L (l.map (quoM x))) (-1) x.sum.toNat

def numT (l : List (List Int)) : List Int := numF l.length l.reverse

theorem numT_snoc (l : List (List Int)) (x : List Int) : numT (l ++ [x]) = plusT (numT l) (numT (l.map (quoM x))) (-1) x.sum.toNat := by
 unfold numT
 rw [List.reverse_append, List.length_append]
 show plusT (numF l.length l.reverse) (numF l.length (l.reverse.map (quoM x))) (-1) x.sum.toNat = _
 rw [← List.map_reverse, List.length_map]

theorem numF_len {n : Nat} : ∀ (L : Nat) (l : List (List Int)), (∀ e ∈ l, Mn n e) → ((numF L l).length : Int) ≤ 1 + (l.map List.sum).sum
 | 0, l, hm => by
  have : 0 ≤ (l.map List.sum).sum := sum_nonneg fun y hy => by
   obtain ⟨e, he, rfl⟩ := List.mem_map.1 hy
   exact (hm e he).sum0
  show (([1] : List Int).length : Int) ≤ _
  simp
  omega
 | L + 1, [], hm => by simp [numF]
 | L + 1, x :: l, hm => by
  have hx := hm x (by simp)
  have hml : ∀ e ∈ l, Mn n e := fun e he => hm e (by simp [he])
  have h0 := hx.sum0
  have h1 := numF_len L l hml
  have h2 := numF_len (n := n) L (l.map (quoM x)) fun e he => by
   obtain ⟨y, hy, rfl⟩ := List.mem_map.1 he
   exact (quo_ok hx (hml y hy)).1
  have h3 : ((l.map (quoM x)).map List.sum).sum ≤ (l.map List.sum).sum := by
   rw [List.map_map]
   exact sum_le fun e he => (quo_ok hx (hml e he)).2
  have h4 := plusT_len (numF L l) (numF L (l.map (quoM x))) (-1) x.sum.toNat
  show ((plusT (numF L l) (numF L (l.map (quoM x))) (-1) x.sum.toNat).length : Int) ≤ _
  rw [List.map_cons, List.sum_cons]
  omega
end
section
open Go.RowKit Go.Maps

theorem made_ints (n : Nat) (hn : n ≤ 3) (w : World) : (Instr.makeSlice 24 (.int .i64 n) (.int .i64 n)).run Tryz.prog w = .ok (.slice (some ⟨w.heap.size, 0, none⟩) n n) (w.alloc (.cells (intsV (List.replicate n 0)) 3)) := by
 obtain ⟨inf, z, hi, hz1, hz2, hz3⟩ := (ElT.z (P := Tryz.prog) (E := 3) (k := 1) (zd := [I 0]) (bytes := 8)).is
 have hb := ElT.b (P := Tryz.prog) (E := 3) (k := 1) (zd := [I 0]) (bytes := 8) inf hi
 have hr := run_make (P := Tryz.prog) w 24 3 inf z Tryz.underlying24 hi hz1 .i64 .i64 (n : Int) (n : Int) (by omega) (by omega) (bytes_int (by rw [hb]; omega)) (by omega)
 rw [Int.toNat_natCast, hz2, hz3] at hr
 rw [hr]
 have e : madeCells (([I 0] : List D).map litV).toArray (n * 1) = intsV (List.replicate n 0) := by
  unfold madeCells intsV
  apply Array.ext_getElem?
  intro j
  rw [Array.getElem?_map, Array.getElem?_range, List.getElem?_toArray, List.getElem?_map, List.getElem?_replicate, Nat.mul_one]
  by_cases h : j < n
  ·rw [if_pos h, if_pos h]
   have : j % 1 = 0 := Nat.mod_one j
   simp [this, litV]
  ·rw [if_neg h, if_neg h]
   rfl
 rw [e]

set_option maxRecDepth 100000 in
set_option maxHeartbeats 8000000 in
theorem mono1_calls (n : Nat) (d : Int) (l bn on bd od : Nat) (hn : 1 ≤ n ∧ n ≤ 3) (hd : d ≤ 1000000) (W0 : World) (hbn : W0.cell? ⟨bn, on, none⟩ = some (.int .i64 n)) (hbd : W0.cell? ⟨bd, od, none⟩ = some (.int .i64 d)) (J : List (List Int) → World → Prop)
  (h0 : ∀ W, RowKit.Below W0.heap.size W0 W → W.drawn = W0.drawn → W.heap.size = W0.heap.size + 4 → W.heap[W0.heap.size + 1]? = some (.cells (intsV (List.replicate n 0)) 3 (0, 0)) → J [] W)
  (hst : ∀ pre W j x, j < n → J pre W → J pre (W.setCell ⟨W0.heap.size + 1, j, none⟩ (.int .i64 x)))
  (hY : ∀ pre W es, J pre W → es.length = n → MoW n l bn on (W0.heap.size + 1 + 1) W0.heap.size (W0.heap.size + 1 + 1 + 1) (W0.heap.size + 1) W → W.heap[W0.heap.size + 1]? = some (.cells (intsV es) 3 (0, 0)) →
   YieldAt Fence.wide 0 Tryz.prog l #[.slice (some ⟨W0.heap.size + 1, 0, none⟩) n n] W fun en W' => en = .returned (.bool true) ∧ J (pre ++ [es]) W' ∧ ∀ b, b = bn ∨ b = W0.heap.size + 1 + 1 ∨ b = W0.heap.size ∨ b = W0.heap.size + 1 + 1 + 1 ∨ b = W0.heap.size + 1 → W'.heap[b]? = W.heap[b]?) :
  CallsIn Fence.wide 0 Tryz.prog 33 #[.func (.yield l) #[] #[], .pointer (some ⟨bn, on, none⟩), .pointer (some ⟨bd, od, none⟩)] W0 fun en W' => (∃ v, en = .returned v) ∧ J (monZ n d) W' := by
 have hbnl : bn < W0.heap.size := World.block_lt_of_cell? W0 ⟨bn, on, none⟩ hbn
 have hbdl : bd < W0.heap.size := World.block_lt_of_cell? W0 ⟨bd, od, none⟩ hbd
 have hmk := made_ints n hn.2
 refine callsIn_of_wp Tryz.func33 rfl trivial ?_ rfl
 simp only [Tryz.ntmps33, List.size_toArray, List.length_cons, List.length_nil, Nat.reduceAdd, Nat.reduceSub, Array.replicate_succ, Array.replicate_zero, List.push_toArray, List.append_toArray, List.nil_append, List.cons_append]
 obtain ⟨Wx, hWx⟩ : ∃ Wx, (((W0.alloc (Obj.cells #[Value.func (Fn.yield l) #[] #[]] 45)).alloc (Obj.cells (intsV (List.replicate n 0)) 3)).alloc (Obj.cells #[Value.slice (some { block := W0.heap.size + 1, off := 0 }) n n] 24)).alloc (Obj.cells #[Value.nilFunc] 69) = Wx := ⟨_, rfl⟩
 obtain ⟨fv, hfv⟩ : ∃ fv, fv = Value.func (Fn.func 34) #[] #[Value.pointer (some ⟨bn, on, none⟩), Value.pointer (some ⟨W0.heap.size + 1 + 1, 0, none⟩), Value.pointer (some ⟨W0.heap.size, 0, none⟩), Value.pointer (some ⟨W0.heap.size + 1 + 1 + 1, 0, none⟩)] := ⟨_, rfl⟩
 have hsx : Wx.heap.size = W0.heap.size + 4 := by rw [← hWx]; simp
 have hbx : RowKit.Below W0.heap.size W0 Wx := by
  rw [← hWx]
  exact ((((Below.refl _ W0).alloc (Nat.le_refl _) _).alloc (by simp) _).alloc (by simp <;> omega) _).alloc (by simp <;> omega) _
 have hdx : Wx.drawn = W0.drawn := by rw [← hWx]; rfl
 have g0 : Wx.heap[W0.heap.size]? = some (.cells #[Value.func (Fn.yield l) #[] #[]] 45 (0, 0)) := by
  rw [← hWx]
  exact (heap_push _ _ _ (by simp <;> omega)).trans ((heap_push _ _ _ (by simp <;> omega)).trans ((heap_push _ _ _ (by simp)).trans (World.alloc_heap_new _ _)))
 have g1 : Wx.heap[W0.heap.size + 1]? = some (.cells (intsV (List.replicate n 0)) 3 (0, 0)) := by
  rw [← hWx]
  refine (heap_push _ _ _ (by simp <;> omega)).trans ((heap_push _ _ _ (by simp)).trans ?_)
  have := World.alloc_heap_new (W0.alloc (Obj.cells #[Value.func (Fn.yield l) #[] #[]] 45)) (Obj.cells (intsV (List.replicate n 0)) 3)
  rwa [World.size_alloc] at this
 have g2 : Wx.heap[W0.heap.size + 1 + 1]? = some (.cells #[Value.slice (some { block := W0.heap.size + 1, off := 0 }) n n] 24 (0, 0)) := by
  rw [← hWx]
  refine (heap_push _ _ _ (by simp)).trans ?_
  have := World.alloc_heap_new ((W0.alloc (Obj.cells #[Value.func (Fn.yield l) #[] #[]] 45)).alloc (Obj.cells (intsV (List.replicate n 0)) 3)) (Obj.cells #[Value.slice (some { block := W0.heap.size + 1, off := 0 }) n n] 24)
  rwa [World.size_alloc, World.size_alloc] at this
 have g3 : Wx.heap[W0.heap.size + 1 + 1 + 1]? = some (.cells #[Value.nilFunc] 69 (0, 0)) := by
  rw [← hWx]
  have := World.alloc_heap_new (((W0.alloc (Obj.cells #[Value.func (Fn.yield l) #[] #[]] 45)).alloc (Obj.cells (intsV (List.replicate n 0)) 3)).alloc (Obj.cells #[Value.slice (some { block := W0.heap.size + 1, off := 0 }) n n] 24)) (Obj.cells #[Value.nilFunc] 69)
  rwa [World.size_alloc, World.size_alloc, World.size_alloc] at this
 have c3 : Wx.cell? ⟨W0.heap.size + 1 + 1 + 1, 0, none⟩ = some .nilFunc := by simp [World.cell?, g3]
 have f3 : Wx.frozen? ⟨W0.heap.size + 1 + 1 + 1, 0, none⟩ = false := by simp [World.frozen?, g3]
 obtain ⟨W4, hW4⟩ : ∃ W4, Wx.setCell ⟨W0.heap.size + 1 + 1 + 1, 0, none⟩ fv = W4 := ⟨_, rfl⟩
 have k3 : W4.heap[W0.heap.size + 1 + 1 + 1]? = some (.cells #[fv] 69 (0, 0)) := by rw [← hW4, setCell_self g3]; rfl
 have kb : ∀ b, b ≠ W0.heap.size + 1 + 1 + 1 → W4.heap[b]? = Wx.heap[b]? := fun b hb => by rw [← hW4]; exact setCell_other hb
 have hb4 : RowKit.Below W0.heap.size W0 W4 := by
  rw [← hW4]
  exact hbx.setCell (p := ⟨W0.heap.size + 1 + 1 + 1, 0, none⟩) (by show W0.heap.size ≤ W0.heap.size + 1 + 1 + 1; omega) _
 have hd4 : W4.drawn = W0.drawn := by rw [← hW4]; exact hdx
 have hst4 : (store ⟨W0.heap.size + 1 + 1 + 1, 0, none⟩ fv).run Tryz.prog Wx = .ok () W4 := by
  rw [hfv] at hW4 ⊢
  rw [run_store _ _ _ _ _ rfl]
  simp [stored, c3, f3, hW4]
 have q1 : W4.cell? ⟨bd, od, none⟩ = some (.int .i64 d) := (hb4.cell (p := ⟨bd, od, none⟩) hbdl).trans hbd
 have q2 : W4.cell? ⟨W0.heap.size + 1 + 1 + 1, 0, none⟩ = some fv := by simp [World.cell?, k3]
 have hM : MoW n l bn on (W0.heap.size + 1 + 1) W0.heap.size (W0.heap.size + 1 + 1 + 1) (W0.heap.size + 1) W4 := by
  refine ⟨(hb4.cell (p := ⟨bn, on, none⟩) hbnl).trans hbn, ?_, ?_, by rw [q2, hfv]⟩
  ·simp [World.cell?, kb (W0.heap.size + 1 + 1) (by omega), g2]
  ·simp [World.cell?, kb W0.heap.size (by omega), g0]
 have hJ4 := h0 W4 hb4 hd4 (by rw [← hW4]; simpa [World.setCell] using hsx) ((kb _ (by omega)).trans g1)
 have hbe4 : W4.heap[W0.heap.size + 1]? = some (.cells (intsV (List.replicate n 0)) 3 (0, 0)) := (kb _ (by omega)).trans g1
 have hfill : 0 ≤ d → CallsIn Fence.wide 0 Tryz.prog 34 #[.int .i64 0, .int .i64 d, .pointer (some ⟨bn, on, none⟩), .pointer (some ⟨W0.heap.size + 1 + 1, 0, none⟩), .pointer (some ⟨W0.heap.size, 0, none⟩), .pointer (some ⟨W0.heap.size + 1 + 1 + 1, 0, none⟩)] W4
   fun en W' => en = .returned (.bool true) ∧ J (monZ n d) W' := fun h => by
  have := fill_calls n l bn on (W0.heap.size + 1 + 1) W0.heap.size (W0.heap.size + 1 + 1 + 1) (W0.heap.size + 1) (by omega) ⟨by omega, by omega, by omega, by omega⟩ J hst hY (n - 1) 0 d.toNat [] W4 [] (List.replicate n 0) (by omega) (by omega) hJ4 hM rfl (by simp) hbe4
  rw [show ((d.toNat : Nat) : Int) = d by omega, show n - 1 + 1 = n by omega] at this
  refine CallsIn.mono this fun en W' ⟨h1, h2, _⟩ => ⟨h1, ?_⟩
  unfold monZ
  rw [if_neg (by omega)]
  simpa using h2
 have hneg : d < 0 → monZ n d = [] := fun h => by unfold monZ; rw [if_pos h]
 clear hst hY h0 hbx hsx hdx g0 g1 g2 g3 k3 kb hb4 hd4 hM hbe4 hn hd
 by_cases hd0 : 0 ≤ d
 ·have hf := hfill hd0
  clear hfill hneg hJ4
  subst hfv
  gi_wp2_with ((try refine ⟨trivial, rfl, ?_⟩); gi_at_call 34; refine hf.mono ?_; clear hf; rintro en W5 ⟨rfl, hJ5⟩)
  go_end0
  exact ⟨⟨_, rfl⟩, hJ5⟩
 ·rw [hneg (by omega)]
  clear hfill hneg
  subst hfv
  gi_wp2
  go_end0
  exact ⟨⟨_, rfl⟩, hJ4⟩
end
section
open Go.RowKit

theorem Marks.mem {w0 : World} : ∀ {ds : List Deferred} {w : World}, Marks w0 ds w → ∀ x ∈ ds, ∃ D, x.target = .collected D ∧ w.heap[D]? = some (.deferred (some []))
 | [], _, _, x, h => by cases h
 | d :: ds, w, ⟨⟨D, h1, h2, h3, h4⟩, h5⟩, x, h => by
  rcases List.mem_cons.1 h with rfl | h
  ·exact ⟨D, by rw [h1], h3⟩
  ·exact h5.mem x h

theorem ext_row {H : Heap} {w w' : World} {b : Nat} {T : TypeId} {cs cs' : Array Value} {cells cells' : List D} (ho : HOK w H) (hH : H b = some (T, cells)) (hb : w.heap[b]? = some (.cells cs T (0, 0))) (hs : cs'.size = cs.size)
  (h1 : w'.os = w.os) (h2 : w'.tape = w.tape) (h3 : w'.output = w.output) (h4 : w'.drawn = w.drawn) (h5 : w'.heap.size = w.heap.size) (hheap : ∀ c, c ≠ b → w'.heap[c]? = w.heap[c]?) (hself : w'.heap[b]? = some (.cells cs' T (0, 0)))
  (hl : cells'.length ≤ cs'.size) (hr : ∀ (j : Nat) (x : D), cells'[j]? = some x → x.isCell = true ∧ ∃ v, cs'[j]? = some v ∧ Rep w H v x) :
  HOK w' (H.set b (T, cells')) ∧ Ext w H w' (H.set b (T, cells')) := by
 have he : Ext w H w' (H.set b (T, cells')) := by
  refine ⟨h1, h2, h3, by rw [h5]; exact Nat.le_refl _, .of_le (by rw [h4]; exact Nat.le_refl _), fun c hc hHc => ?_, fun c cs2 T2 hc => ?_⟩
  ·have hne : c ≠ b := fun x => by subst x; rw [hH] at hHc; cases hHc
   exact ⟨by simp [Heap.set, hne, hHc], hheap c hne⟩
  ·by_cases hcb : c = b
   ·subst hcb
    rw [hb] at hc
    cases hc
    exact ⟨cs', hself, hs⟩
   ·exact ⟨cs2, by rw [hheap c hcb]; exact hc, rfl⟩
 refine ⟨⟨fun c T2 cells2 hc => ?_, ho.inv.ext he⟩, he⟩
 simp only [Heap.set] at hc
 split at hc
 ·rename_i hcb
  subst hcb
  cases hc
  refine ⟨cs', hself, hl, fun j x hx => ?_⟩
  obtain ⟨h1, v, hv, hrep⟩ := hr j x hx
  exact ⟨h1, v, hv, hrep.ext he⟩
 ·rename_i hcb
  obtain ⟨cs2, h1, h2, h3⟩ := ho c T2 cells2 hc
  refine ⟨cs2, by rw [hheap c hcb]; exact h1, h2, fun j x hx => ?_⟩
  obtain ⟨h4, v, hv, hrep⟩ := h3 j x hx
  exact ⟨h4, v, hv, hrep.ext he⟩

def intCells (es : List Int) : List D := es.map fun x => I x

theorem intCells_get {es : List Int} {j : Nat} (h : j < es.length) : (intCells es)[j]? = some (I es[j]) := by simp [intCells, h]

structure MJ (w : World) (H : Heap) (rec : Loop) (b n : Nat) (Inv : List (List Int) → Heap → Prop) (pre : List (List Int)) (W : World) : Prop where
 go : ∃ (Hk : Heap) (es : List Int), Inv pre Hk ∧ es.length = n ∧ Hk b = none ∧ HOK W (Hk.set b (3, intCells es)) ∧ Ext w H W (Hk.set b (3, intCells es)) ∧ W.heap[w.heap.size + 1]? = some (.loop rec) ∧ W.heap[w.heap.size]? = some (.deferred (some [])) ∧
  (∃ cs : Array Value, W.heap[b]? = some (.cells cs 3 (0, 0)) ∧ cs.size = n) ∧ ∀ c, c = w.heap.size + 2 ∨ c = w.heap.size + 4 ∨ c = w.heap.size + 5 → Hk c = none ∧ c < W.heap.size

theorem cells_are {W : World} {H : Heap} {b n : Nat} {es : List Int} {cs : Array Value} (ho : HOK W H) (hH : H b = some (3, intCells es)) (hb : W.heap[b]? = some (.cells cs 3 (0, 0))) (hs : cs.size = n) (hl : es.length = n) : cs = intsV es := by
 obtain ⟨cs', h1, h2, h3⟩ := ho.at' _ _ _ hH
 rw [hb] at h1
 cases h1
 apply Array.ext_getElem?
 intro j
 by_cases hj : j < es.length
 ·obtain ⟨_, v, hv, hr⟩ := h3 j _ (intCells_get hj)
  rw [hv, intsV_get hj, rep_int hr]
 ·rw [Array.getElem?_eq_none (by omega), Array.getElem?_eq_none (by unfold intsV; simp; omega)]

theorem intsV_inj {es es' : List Int} (h : intsV es = intsV es') : es = es' := by
 unfold intsV at h
 have h1 : es.map (fun x => Value.int .i64 x) = es'.map fun x => Value.int .i64 x := by simpa using h
 exact (List.map_inj_right fun a b hab => by cases hab; rfl).1 h1

theorem DW.monos {N : Nat} {w0 : World} {H0 : Heap} {e : Env} {H : Heap} {Q : Post} {g : Operand} {p : Tmp} {assign body : Code} {n : Nat} {d : Int}
  (hg : e.ev g = some (.fn 33 [.ipt 1 [I n] 0 0, .ipt 1 [I d] 0 0])) (hn : 1 ≤ n ∧ n ≤ 3) (hd : d ≤ 1000000) (hp : p < N) (Inv : List (List Int) → Heap → Prop) (h0 : Inv [] H)
  (hround : ∀ (pre : List (List Int)) (x : List Int) (Hk : Heap) (b r : Nat), Inv pre Hk → x.length = n → Hk b = none → ∀ w1 H1, DR ⟨Tryz.prog, N, w1, H1⟩ r assign ((p, .ref b 0 n 1) :: e) (Hk.set b (3, intCells x)) fun y e1 Ha => y = .normal ∧
   ∀ w1 H1, DR ⟨Tryz.prog, N, w1, H1⟩ r body e1 Ha fun y e2 Hb => y = .normal ∧ ∃ Hc, Inv (pre ++ [x]) Hc ∧ Hc b = none ∧ (Hc.set b (3, intCells x)).sub Hb)
  (hdone : ∀ Hk, Inv (monZ n d) Hk → Q .normal e Hk) : DW ⟨Tryz.prog, N, w0, H0⟩ (.rangeFunc g #[p] assign body) e H Q := .mk fun a w hs => by
 refine (wpIn_wide (n := 0)).1 (wpIn_rangeFunc fun fn _ => ?_)
 obtain ⟨vs, hev, hvs⟩ := rep_fn (hs.agree g _ hg)
 obtain ⟨vn, hvn, hrn⟩ := hvs.2 0 _ rfl
 obtain ⟨vd, hvd, hrd⟩ := hvs.2 1 _ rfl
 have hvsz : vs.size = 2 := hvs.1
 have hptr : ∀ {v : Value} {x : Int}, Rep w H v (.ipt 1 [I x] 0 0) → ∃ b off : Nat, v = .pointer (some ⟨b, off, none⟩) ∧ H b = none ∧ w.cell? ⟨b, off, none⟩ = some (.int .i64 x) := fun {v x} h => by
  cases h with
  | @ipt k l b off i j vals h1 h2 h3 =>
   obtain ⟨g1, g2⟩ := h2 0 0 (I x) rfl
   have g3 := rep_int (h3 0 0 (I x) rfl)
   rw [g3] at g2
   exact ⟨b, off + 0 * 1 + 0, rfl, g1, g2⟩
 obtain ⟨bn, on, rfl, hHn, hcn⟩ := hptr hrn
 obtain ⟨bd, od, rfl, hHd, hcd⟩ := hptr hrd
 have hvs2 : vs = #[.pointer (some ⟨bn, on, none⟩), .pointer (some ⟨bd, od, none⟩)] := by
  apply Array.ext_getElem?
  intro j
  match j with
  | 0 => exact hvn
  | 1 => exact hvd
  | j + 2 => rw [Array.getElem?_eq_none (by omega), Array.getElem?_eq_none (by simp)]
 subst hvs2
 obtain ⟨rec, hrec⟩ : ∃ rec : Loop, rec = { state := .ready, pending := none, fn, tmps := a.tmps, params := #[p], assign, body, defers := w.heap.size } := ⟨_, rfl⟩
 obtain ⟨W1, hW1⟩ : ∃ W1, (w.alloc (.deferred (some []))).alloc (.loop rec) = W1 := ⟨_, rfl⟩
 have hs1 : W1.heap.size = w.heap.size + 2 := by rw [← hW1]; simp
 have hL1 : W1.heap[w.heap.size + 1]? = some (.loop rec) := by
  rw [← hW1]; have := World.alloc_heap_new (w.alloc (.deferred (some []))) (.loop rec); rwa [World.size_alloc] at this
 have hK1 : W1.heap[w.heap.size]? = some (.deferred (some [])) := by
  rw [← hW1]; exact (heap_push _ _ _ (by simp)).trans (World.alloc_heap_new w _)
 have hold1 : ∀ k, k < w.heap.size → W1.heap[k]? = w.heap[k]? := fun k hk => by
  rw [← hW1]; exact (heap_push _ _ _ (by simp; omega)).trans (heap_push _ _ _ hk)
 have ho1 : HOK W1 H := by rw [← hW1]; exact (hs.heap.alloc _).alloc _
 have hx1 : Ext w H W1 H := by rw [← hW1]; exact (Ext.alloc w H _).trans (Ext.alloc _ H _)
 have hbnl : bn < w.heap.size := World.block_lt_of_cell? w ⟨bn, on, none⟩ hcn
 have hHlt : ∀ b, w.heap.size ≤ b → H b = none := fun b hb => by
  cases hx : H b with
  | none => rfl
  | some x => have := hs.heap.lt hx; omega
 have hcn1 : W1.cell? ⟨bn, on, none⟩ = some (.int .i64 n) := (hx1.kept.cell bn on _ hHn hcn).2
 have hcd1 : W1.cell? ⟨bd, od, none⟩ = some (.int .i64 d) := (hx1.kept.cell bd od _ hHd hcd).2
 refine ⟨w.heap.size + 1, [{ target := .collected w.heap.size, args := #[] }], W1, { target := .fn (.func 33) #[.pointer (some ⟨bn, on, none⟩), .pointer (some ⟨bd, od, none⟩)], args := #[.func (.yield (w.heap.size + 1)) #[] #[]] }, W1, 33,
  #[.func (.yield (w.heap.size + 1)) #[] #[], .pointer (some ⟨bn, on, none⟩), .pointer (some ⟨bd, od, none⟩)], W1, ?_, ?_, fun _ _ => trivial, ?_, fun h => (by cases h), ?_⟩
 ·rw [← hW1, hrec]; exact run_enterLoop_outer _ _ _ _ _
 ·simp only [resolve, hev]
  simp [go_sem]
 ·have eg := Tryz.call33
  simp [invoke, go_sem, eg]
 ·have hcall := mono1_calls n d (w.heap.size + 1) bn on bd od hn hd W1 hcn1 hcd1 (MJ w H rec (w.heap.size + 3) n Inv) ?_ ?_ ?_
  ·refine CallsIn.mono hcall ?_
   rintro en W2 ⟨⟨v, rfl⟩, ⟨Hk, es, hI, hesl, hkb, hok, hext, hl2, hk2, _, _⟩⟩
   have hend := run_endLoop (P := Tryz.prog) hl2 (by rw [hrec]; simp)
   have hpn : rec.pending = none := by rw [hrec]
   refine ⟨none, _, hend.trans (congrArg (fun x => Result.ok x _) hpn), ?_⟩
   have hsub : Hk.sub (Hk.set (w.heap.size + 3) (3, intCells es)) := Heap.sub_set _ hkb
   have hok2 := hok_put (o' := .loop { rec with state := .exhausted }) (hok.sub hsub) hl2 rfl
   have hext2 := ext_put (o' := .loop { rec with state := .exhausted }) (hext.sub hsub) hl2 rfl (by omega : w.heap.size ≤ w.heap.size + 1)
   have hkk : (W2.putObj (w.heap.size + 1) (.loop { rec with state := .exhausted })).heap[w.heap.size]? = some (.deferred (some [])) := (World.putObj_heap_other (by omega)).trans hk2
   refine ⟨e, Hk, hdone Hk hI, hs.size, ⟨⟨w.heap.size, rfl, hs.ext.size, hkk, fun x hx hxt => ?_⟩, hs.defers.ext hs.heap hext2⟩, fun t dd hdd => ?_, hok2, hs.ext.trans hext2⟩
   ·obtain ⟨D, g1, g2⟩ := hs.defers.mem x hx
    rw [g1] at hxt
    cases hxt
    exact absurd (lt_of_block g2) (Nat.lt_irrefl _)
   ·obtain ⟨u, g1, g2⟩ := hs.env t dd hdd
    exact ⟨u, g1, g2.ext hext2⟩
  ·-- the start
   intro W hbw hdw hszW hbe
   rw [hs1] at hbw hbe hszW
   have hsz := hbw.size
   have hold : ∀ k, k < w.heap.size → W.heap[k]? = w.heap[k]? := fun k hk => (hbw.block k (by omega)).trans (hold1 k hk)
   have hdr : W.drawn = w.drawn := by rw [hdw, ← hW1]; rfl
   have hlt : w.heap.size + 5 < W.heap.size := by omega
   have hx : Ext w H W (H.set (w.heap.size + 3) (3, intCells (List.replicate n 0))) := by
    refine ⟨hbw.os.trans hx1.os, hbw.tape.trans hx1.tape, hbw.output.trans hx1.output, by omega, .of_le (by rw [hdr]; exact Nat.le_refl _), fun c hc hHc => ⟨by rw [Heap.set_other _ _ (by omega)]; exact hHc, hold c hc⟩, fun c cs T hc => ⟨cs, (hold c (lt_of_block hc)).trans hc, rfl⟩⟩
   refine ⟨H, List.replicate n 0, h0, by simp, hHlt _ (by omega), ⟨fun b T cells hb => ?_, hs.heap.inv.ext hx⟩, hx, (hbw.block _ (by omega)).trans hL1, (hbw.block _ (by omega)).trans hK1, ⟨_, hbe, by simp [intsV]⟩, fun c hc => ⟨hHlt _ (by omega), by omega⟩⟩
   by_cases hbb : b = w.heap.size + 3
   ·subst hbb
    rw [Heap.set_self] at hb
    cases hb
    refine ⟨_, hbe, by simp [intsV, intCells], fun j x hj => ?_⟩
    have hjl : j < (List.replicate n (0 : Int)).length := by
     have := (List.getElem?_eq_some_iff.1 hj).1
     simpa [intCells] using this
    rw [intCells_get hjl] at hj
    cases hj
    exact ⟨rfl, _, intsV_get hjl, .int _ _⟩
   ·rw [Heap.set_other _ _ hbb] at hb
    obtain ⟨cs, g1, g2, g3⟩ := hs.heap.at' b T cells hb
    refine ⟨cs, (hold b (lt_of_block g1)).trans g1, g2, fun j x hj => ?_⟩
    obtain ⟨k1, v, k2, k3⟩ := g3 j x hj
    exact ⟨k1, v, k2, k3.ext hx⟩
  ·-- the iterator writes its monomial
   rintro pre W j x hj ⟨Hk, es, hI, hesl, hkb, hok, hext, hl2, hk2, ⟨cs, hcb, hcs⟩, hkp⟩
   rw [hs1]
   have hcs2 := cells_are hok (Heap.set_self _ _ _) hcb hcs hesl
   have hset := setCell_self (j := j) (v := .int .i64 x) hcb
   have hoth : ∀ c, c ≠ w.heap.size + 3 → (W.setCell ⟨w.heap.size + 3, j, none⟩ (.int .i64 x)).heap[c]? = W.heap[c]? := fun c hc => setCell_other hc
   obtain ⟨g1, g2⟩ := ext_row (w' := W.setCell ⟨w.heap.size + 3, j, none⟩ (.int .i64 x)) (cells' := intCells (es.set j x)) hok (Heap.set_self _ _ _) hcb (by simp : (cs.setIfInBounds j (.int .i64 x)).size = cs.size) rfl rfl rfl rfl (by simp [World.setCell]) hoth hset (by simp [intCells]; omega) fun i y hi => by
    have hil : i < (es.set j x).length := by
     have := (List.getElem?_eq_some_iff.1 hi).1
     simpa [intCells] using this
    rw [intCells_get hil] at hi
    cases hi
    refine ⟨rfl, .int .i64 (es.set j x)[i], ?_, .int _ _⟩
    have hil2 : i < es.length := by simpa using hil
    rw [Array.getElem?_setIfInBounds, List.getElem_set]
    by_cases hij : j = i
    ·rw [if_pos hij, if_pos (by omega), if_pos hij]
    ·rw [if_neg hij, if_neg hij, hcs2, intsV_get hil2]
   rw [Heap.set_set] at g1 g2
   refine ⟨Hk, es.set j x, hI, by simpa using hesl, hkb, g1, hext.trans g2, (hoth _ (by omega)).trans hl2, (hoth _ (by omega)).trans hk2, ⟨_, hset, by simpa using hcs⟩, fun c hc => ⟨(hkp c hc).1, by simpa [World.setCell] using (hkp c hc).2⟩⟩
  ·-- a round
   rintro pre W es' ⟨Hk, es, hI, hesl, hkb, hok, hext, hl2, hk2, ⟨cs, hcb, hcs⟩, hkp⟩ hes' hM hbe
   rw [hs1] at hbe ⊢
   have hcs2 := cells_are hok (Heap.set_self _ _ _) hcb hcs hesl
   rw [hcb] at hbe
   obtain rfl : es' = es := by
    have e1 := Option.some.inj hbe
    have e2 : cs = intsV es' := (Obj.cells.inj e1).1
    exact intsV_inj (e2.symm.trans hcs2)
   have hy := yield_of (P := Tryz.prog) (N := N) (r := w.heap.size + 1) (w := w) (W := W) (H := H) (Hk := Hk.set (w.heap.size + 3) (3, intCells es')) (rec := rec) (p := p) (v := .slice (some ⟨w.heap.size + 3, 0, none⟩) n n) (d := .ref (w.heap.size + 3) 0 n 1) (e := e)
    (K := fun Hb => ∃ Hc, Inv (pre ++ [es']) Hc ∧ Hc (w.heap.size + 3) = none ∧ (Hc.set (w.heap.size + 3) (3, intCells es')).sub Hb)
    hl2 (by rw [hrec]) (by rw [hrec]) (by rw [hrec]) (by omega) (by rw [hrec]; exact hs.size) hp (fun t dd hdd => by
     obtain ⟨u, g1, g2⟩ := hs.env t dd hdd
     exact ⟨u, by rw [hrec]; exact g1, g2.ext hext⟩) (.ref hcb (by omega) (Nat.le_refl _) (by unfold maxLen; omega)) hok hext (by
     have := hround pre es' Hk (w.heap.size + 3) (w.heap.size + 1) hI hes' hkb
     rw [hrec]
     exact this)
   obtain ⟨f1, t1, as1, b1, hy1, hR⟩ := hy
   refine ⟨f1, t1, as1, b1, hy1, hR.mono ?_⟩
   rintro en W' ⟨rfl, Hb, ⟨Hc, hIc, hcn, hsub⟩, hob, hxb, hlb, hWs, hold, hshape⟩
   have hcl : ∀ c, c ≠ w.heap.size + 1 → c < W.heap.size → Hk c = none → c ≠ w.heap.size + 3 → Hc c = none ∧ W'.heap[c]? = W.heap[c]? := fun c h1 h2 h3 h4 => by
    obtain ⟨g1, g2⟩ := hold c h2 h1 (by rw [Heap.set_other _ _ h4]; exact h3)
    refine ⟨?_, g2⟩
    cases hx : Hc c with
    | none => rfl
    | some z =>
     have := hsub c z (by rw [Heap.set_other _ _ h4]; exact hx)
     rw [g1] at this
     cases this
   have hDn : Hk w.heap.size = none := by
    cases hx : Hk w.heap.size with
    | none => rfl
    | some z =>
     obtain ⟨T, cells⟩ := z
     obtain ⟨cs9, h1, _⟩ := hok.at' w.heap.size T cells (by rw [Heap.set_other _ _ (by omega)]; exact hx)
     rw [hk2] at h1
     cases h1
   have hob2 := hob.sub hsub
   have hxb2 := hxb.sub hsub
   obtain ⟨cs3, hc3, hs3⟩ := hshape _ _ _ hcb
   have hcs3 := cells_are hob2 (Heap.set_self _ _ _) hc3 (hs3.trans hcs) hes'
   refine ⟨rfl, ⟨Hc, es', hIc, hes', hcn, hob2, hxb2, hlb, ?_, ⟨cs3, hc3, hs3.trans hcs⟩, fun c hc => ⟨(hcl c (by omega) (hkp c hc).2 (hkp c hc).1 (by omega)).1, Nat.lt_of_lt_of_le (hkp c hc).2 hWs⟩⟩, fun b hb => ?_⟩
   ·exact (hcl w.heap.size (by omega) (lt_of_block hk2) hDn (by omega)).2.trans hk2
   ·have hbc : b = bn ∨ (b = w.heap.size + 2 ∨ b = w.heap.size + 4 ∨ b = w.heap.size + 5) ∨ b = w.heap.size + 3 := by
     rcases hb with h | h | h | h | h
     ·exact .inl h
     all_goals omega
    rcases hbc with rfl | h | rfl
    ·obtain ⟨g1, g2⟩ := hext.old b hbnl hHn
     rw [Heap.set_other _ _ (by omega)] at g1
     exact (hcl b (by omega) (by have := hext.size; omega) g1 (by omega)).2
    ·exact (hcl b (by omega) (hkp b h).2 (hkp b h).1 (by omega)).2
    ·rw [hc3, hcs3, hcb, hcs2]
end
section
open Go.RowKit
set_option maxHeartbeats 4000000

theorem ringCk_3 {r : Rg} (h : ckP r.p = 0) (hn : ¬ (1 ≤ r.n ∧ r.n ≤ 3)) : ringCk r = 3 := by
 unfold ringCk
 rw [if_pos h, if_neg (by simpa using hn)]

theorem ringCk_6 {r : Rg} (h : ckP r.p = 0) (hn : 1 ≤ r.n ∧ r.n ≤ 3) (hk : ¬ ((1 ≤ r.order ∧ r.order ≤ 2) ∧ (1 ≤ r.over ∧ r.over ≤ 2))) : ringCk r = 6 := by
 unfold ringCk
 rw [if_pos h, if_pos (by simpa using hn), if_neg (by simpa using hk)]

theorem ringCk_0 {r : Rg} (h : ckP r.p = 0) (hn : 1 ≤ r.n ∧ r.n ≤ 3) (hk : (1 ≤ r.order ∧ r.order ≤ 2) ∧ (1 ≤ r.over ∧ r.over ≤ 2)) : ringCk r = 0 := by
 unfold ringCk
 rw [if_pos h, if_pos (by simpa using hn), if_pos (by simpa using hk)]

theorem Ring_pure (r : Rg) : Pure Tryz.prog 56 [rgD r] (I (ringCk r)) := by
 intro H
 refine PureH.of_body Tryz.func56 rfl (by decide) (Nat.le_of_ble_eq_true rfl) fun w0 => ?_
 (repeat(first|refine zC ?_|refine zD ?_|refine zE rfl (by decide) rfl ?_|refine zF ?_|refine zG ?_|refine zH ?_|refine zI ?_|refine zJ ?_|refine zK ?_|refine zL rfl ?_|refine zM rfl ?_))
 refine RO.sta (sta_call rfl rfl (check_pure _ _)) rfl ?_
 (repeat(first|refine zC ?_|refine zD ?_|refine zE rfl (by decide) rfl ?_|refine zF ?_|refine zG ?_|refine zH ?_|refine zI ?_|refine zJ ?_|refine zK ?_|refine zL rfl ?_|refine zM rfl ?_))
 refine DW.cond rfl (fun hb => ?_) (fun hb => ?_)
 ·have h : ¬ ckP r.p = 0 := by simpa using hb
  have : ringCk r = ckP r.p := by unfold ringCk; rw [if_neg h]
  rw [this]
  (repeat(first|refine zC ?_|refine zD ?_|refine zE rfl (by decide) rfl ?_|refine zF ?_|refine zG ?_|refine zH ?_|refine zI ?_|refine zJ ?_|refine zK ?_|refine zL rfl ?_|refine zM rfl ?_))
  exact DW.ret ⟨.inl rfl, _, rfl, Over.refl _, .same _⟩
 ·have h : ckP r.p = 0 := by simpa using hb
  (repeat(first|refine zC ?_|refine zD ?_|refine zE rfl (by decide) rfl ?_|refine zF ?_|refine zG ?_|refine zH ?_|refine zI ?_|refine zJ ?_|refine zK ?_|refine zL rfl ?_|refine zM rfl ?_))
  cases hc : decide (r.n < 1)
  ·(repeat(first|refine zC ?_|refine zD ?_|refine zE rfl (by decide) rfl ?_|refine zF ?_|refine zG ?_|refine zH ?_|refine zI ?_|refine zJ ?_|refine zK ?_|refine zL rfl ?_|refine zM rfl ?_))
   refine DW.cond rfl (fun hb => ?_) (fun hb => ?_)
   ·have : ringCk r = 3 := ringCk_3 h (by simp at hb hc; omega)
    rw [this]
    (repeat(first|refine zC ?_|refine zD ?_|refine zE rfl (by decide) rfl ?_|refine zF ?_|refine zG ?_|refine zH ?_|refine zI ?_|refine zJ ?_|refine zK ?_|refine zL rfl ?_|refine zM rfl ?_))
    exact DW.ret ⟨.inl rfl, _, rfl, Over.refl _, .same _⟩
   ·have hn : 1 ≤ r.n ∧ r.n ≤ 3 := by simp at hb hc; omega
    (repeat(first|refine zC ?_|refine zD ?_|refine zE rfl (by decide) rfl ?_|refine zF ?_|refine zG ?_|refine zH ?_|refine zI ?_|refine zJ ?_|refine zK ?_|refine zL rfl ?_|refine zM rfl ?_))
    cases hc1 : (r.order != 1)
    ·(repeat(first|refine zC ?_|refine zD ?_|refine zE rfl (by decide) rfl ?_|refine zF ?_|refine zG ?_|refine zH ?_|refine zI ?_|refine zJ ?_|refine zK ?_|refine zL rfl ?_|refine zM rfl ?_))
     cases hc3 : (r.over != 1)
     ·rw [ringCk_0 h hn (by simp at hc1 hc3; omega)]
      (repeat(first|refine zC ?_|refine zD ?_|refine zE rfl (by decide) rfl ?_|refine zF ?_|refine zG ?_|refine zH ?_|refine zI ?_|refine zJ ?_|refine zK ?_|refine zL rfl ?_|refine zM rfl ?_))
      exact DW.ret ⟨.inl rfl, _, rfl, Over.refl _, .same _⟩
     ·(repeat(first|refine zC ?_|refine zD ?_|refine zE rfl (by decide) rfl ?_|refine zF ?_|refine zG ?_|refine zH ?_|refine zI ?_|refine zJ ?_|refine zK ?_|refine zL rfl ?_|refine zM rfl ?_))
      cases hc4 : (r.over != 2)
      ·rw [ringCk_0 h hn (by simp at hc1 hc3 hc4; omega)]
       (repeat(first|refine zC ?_|refine zD ?_|refine zE rfl (by decide) rfl ?_|refine zF ?_|refine zG ?_|refine zH ?_|refine zI ?_|refine zJ ?_|refine zK ?_|refine zL rfl ?_|refine zM rfl ?_))
       exact DW.ret ⟨.inl rfl, _, rfl, Over.refl _, .same _⟩
      ·rw [ringCk_6 h hn (by simp at hc1 hc3 hc4; omega)]
       (repeat(first|refine zC ?_|refine zD ?_|refine zE rfl (by decide) rfl ?_|refine zF ?_|refine zG ?_|refine zH ?_|refine zI ?_|refine zJ ?_|refine zK ?_|refine zL rfl ?_|refine zM rfl ?_))
       exact DW.ret ⟨.inl rfl, _, rfl, Over.refl _, .same _⟩
    ·(repeat(first|refine zC ?_|refine zD ?_|refine zE rfl (by decide) rfl ?_|refine zF ?_|refine zG ?_|refine zH ?_|refine zI ?_|refine zJ ?_|refine zK ?_|refine zL rfl ?_|refine zM rfl ?_))
     cases hc2 : (r.order != 2)
     ·(repeat(first|refine zC ?_|refine zD ?_|refine zE rfl (by decide) rfl ?_|refine zF ?_|refine zG ?_|refine zH ?_|refine zI ?_|refine zJ ?_|refine zK ?_|refine zL rfl ?_|refine zM rfl ?_))
      cases hc3 : (r.over != 1)
      ·rw [ringCk_0 h hn (by simp at hc1 hc2 hc3; omega)]
       (repeat(first|refine zC ?_|refine zD ?_|refine zE rfl (by decide) rfl ?_|refine zF ?_|refine zG ?_|refine zH ?_|refine zI ?_|refine zJ ?_|refine zK ?_|refine zL rfl ?_|refine zM rfl ?_))
       exact DW.ret ⟨.inl rfl, _, rfl, Over.refl _, .same _⟩
      ·(repeat(first|refine zC ?_|refine zD ?_|refine zE rfl (by decide) rfl ?_|refine zF ?_|refine zG ?_|refine zH ?_|refine zI ?_|refine zJ ?_|refine zK ?_|refine zL rfl ?_|refine zM rfl ?_))
       cases hc4 : (r.over != 2)
       ·rw [ringCk_0 h hn (by simp at hc1 hc2 hc3 hc4; omega)]
        (repeat(first|refine zC ?_|refine zD ?_|refine zE rfl (by decide) rfl ?_|refine zF ?_|refine zG ?_|refine zH ?_|refine zI ?_|refine zJ ?_|refine zK ?_|refine zL rfl ?_|refine zM rfl ?_))
        exact DW.ret ⟨.inl rfl, _, rfl, Over.refl _, .same _⟩
       ·rw [ringCk_6 h hn (by simp at hc1 hc2 hc3 hc4; omega)]
        (repeat(first|refine zC ?_|refine zD ?_|refine zE rfl (by decide) rfl ?_|refine zF ?_|refine zG ?_|refine zH ?_|refine zI ?_|refine zJ ?_|refine zK ?_|refine zL rfl ?_|refine zM rfl ?_))
        exact DW.ret ⟨.inl rfl, _, rfl, Over.refl _, .same _⟩
     ·rw [ringCk_6 h hn (by simp at hc1 hc2; omega)]
      (repeat(first|refine zC ?_|refine zD ?_|refine zE rfl (by decide) rfl ?_|refine zF ?_|refine zG ?_|refine zH ?_|refine zI ?_|refine zJ ?_|refine zK ?_|refine zL rfl ?_|refine zM rfl ?_))
      exact DW.ret ⟨.inl rfl, _, rfl, Over.refl _, .same _⟩
  ·have : ringCk r = 3 := ringCk_3 h (by simp at hc; omega)
   rw [this]
   (repeat(first|refine zC ?_|refine zD ?_|refine zE rfl (by decide) rfl ?_|refine zF ?_|refine zG ?_|refine zH ?_|refine zI ?_|refine zJ ?_|refine zK ?_|refine zL rfl ?_|refine zM rfl ?_))
   exact DW.ret ⟨.inl rfl, _, rfl, Over.refl _, .same _⟩

theorem Degree_pure {e : List Int} (h : MOk e) : Pure Tryz.prog 42 [intsD e] (I e.sum) := by
 intro H
 refine PureH.of_body Tryz.func42 rfl (by decide) (Nat.le_of_ble_eq_true rfl) fun w0 => ?_
 (repeat(first|refine zC ?_|refine zD ?_|refine zE rfl (by decide) rfl ?_|refine zF ?_|refine zG ?_|refine zH ?_|refine zI ?_|refine zJ ?_|refine zK ?_|refine zL rfl ?_|refine zM rfl ?_))
 refine DW.loopI (fun k : Nat => k ≤ e.length) (fun k => [(6, intsD e), (7, I e.length), (8, I k), (3, I (e.take k).sum)]) (fun _ => H) (fun k => e.length - k) 0 (Nat.zero_le _) rfl ⟨rfl, rfl, rfl, rfl, trivial⟩ fun k hk => ?_
 have hl := h.len
 have hs := (h.take k).sum
 (repeat(first|refine zC ?_|refine zD ?_|refine zE rfl (by decide) rfl ?_|refine zF ?_|refine zG ?_|refine zH ?_|refine zI ?_|refine zJ ?_|refine zK ?_|refine zL rfl ?_|refine zM rfl ?_))
 refine DW.cond rfl (fun hb => ?_) (fun hb => ?_)
 ·have hlt : k < e.length := by have := of_decide_eq_true hb; omega
  have hx := h.at hlt
  (repeat(first|refine zC ?_|refine zD ?_|refine zE rfl (by decide) rfl ?_|refine zF ?_|refine zG ?_|refine zH ?_|refine zI ?_|refine zJ ?_|refine zK ?_|refine zL rfl ?_|refine zM rfl ?_))
  rw [← sum_take_succ e hlt]
  exact ⟨k + 1, hlt, by dsimp only; omega, rfl, rfl, rfl, rfl, rfl, trivial⟩
 ·have hge : k = e.length := by have := of_decide_eq_false hb; omega
  subst hge
  (repeat(first|refine zC ?_|refine zD ?_|refine zE rfl (by decide) rfl ?_|refine zF ?_|refine zG ?_|refine zH ?_|refine zI ?_|refine zJ ?_|refine zK ?_|refine zL rfl ?_|refine zM rfl ?_))
  rw [List.take_length]
  exact DW.ret ⟨.inl rfl, _, rfl, Over.refl _, .same _⟩

theorem Own_pure (r : Rg) (e : List Int) (hr : r.n ≤ 3) : Pure Tryz.prog 115 [rgD r, intsD e] (I (monoCk r e)) := by
 intro H
 refine PureH.of_body Tryz.func115 rfl (by decide) (Nat.le_of_ble_eq_true rfl) fun w0 => ?_
 (repeat(first|refine zC ?_|refine zD ?_|refine zE rfl (by decide) rfl ?_|refine zF ?_|refine zG ?_|refine zH ?_|refine zI ?_|refine zJ ?_|refine zK ?_|refine zL rfl ?_|refine zM rfl ?_))
 refine DW.cond rfl (fun hb => ?_) (fun hb => ?_)
 ·have h : ¬ (e.length : Int) = r.n := by simp at hb; exact hb
  have : monoCk r e = 1 := by unfold monoCk; rw [if_neg h]
  rw [this]
  (repeat(first|refine zC ?_|refine zD ?_|refine zE rfl (by decide) rfl ?_|refine zF ?_|refine zG ?_|refine zH ?_|refine zI ?_|refine zJ ?_|refine zK ?_|refine zL rfl ?_|refine zM rfl ?_))
  exact DW.ret ⟨.inl rfl, _, rfl, Over.refl _, .same _⟩
 ·have h : (e.length : Int) = r.n := by simp at hb; exact hb
  have hl : e.length ≤ 3 := by omega
  (repeat(first|refine zC ?_|refine zD ?_|refine zE rfl (by decide) rfl ?_|refine zF ?_|refine zG ?_|refine zH ?_|refine zI ?_|refine zJ ?_|refine zK ?_|refine zL rfl ?_|refine zM rfl ?_))
  refine DW.loopI (fun k : Nat => k ≤ e.length ∧ (e.take k).all inE = true) (fun k => [(13, intsD e), (14, I e.length), (15, I k), (5, I (e.take k).sum)]) (fun _ => H) (fun k => e.length - k) 0 ⟨Nat.zero_le _, rfl⟩ rfl ⟨rfl, rfl, rfl, rfl, trivial⟩ fun k ⟨hk, ha⟩ => ?_
  have hs := ownSum _ ha k
  rw [List.take_take, Nat.min_self] at hs
  have hs2 : (e.take k).length ≤ 3 := by rw [List.length_take]; omega
  (repeat(first|refine zC ?_|refine zD ?_|refine zE rfl (by decide) rfl ?_|refine zF ?_|refine zG ?_|refine zH ?_|refine zI ?_|refine zJ ?_|refine zK ?_|refine zL rfl ?_|refine zM rfl ?_))
  refine DW.cond rfl (fun hb => ?_) (fun hb => ?_)
  ·have hlt : k < e.length := by have := of_decide_eq_true hb; omega
   (repeat(first|refine zC ?_|refine zD ?_|refine zE rfl (by decide) rfl ?_|refine zF ?_|refine zG ?_|refine zH ?_|refine zI ?_|refine zJ ?_|refine zK ?_|refine zL rfl ?_|refine zM rfl ?_))
   cases hc : decide (e[k] < 0)
   ·(repeat(first|refine zC ?_|refine zD ?_|refine zE rfl (by decide) rfl ?_|refine zF ?_|refine zG ?_|refine zH ?_|refine zI ?_|refine zJ ?_|refine zK ?_|refine zL rfl ?_|refine zM rfl ?_))
    refine DW.cond rfl (fun hb => ?_) (fun hb => ?_)
    ·have hc1 : inE e[k] = false := by simp [inE]; simp at hb; omega
     have : monoCk r e = 3 := by
      unfold monoCk
      rw [if_pos h, if_neg]
      intro hh
      simp only [Bool.and_eq_true] at hh
      have := List.all_eq_true.1 hh.1 _ (List.getElem_mem hlt)
      rw [hc1] at this; cases this
     rw [this]
     (repeat(first|refine zC ?_|refine zD ?_|refine zE rfl (by decide) rfl ?_|refine zF ?_|refine zG ?_|refine zH ?_|refine zI ?_|refine zJ ?_|refine zK ?_|refine zL rfl ?_|refine zM rfl ?_))
     exact DW.ret ⟨.inl rfl, _, rfl, Over.refl _, .same _⟩
    ·have hc1 : inE e[k] = true := by simp [inE]; simp at hb hc; omega
     have hc2 := inE_iff.1 hc1
     (repeat(first|refine zC ?_|refine zD ?_|refine zE rfl (by decide) rfl ?_|refine zF ?_|refine zG ?_|refine zH ?_|refine zI ?_|refine zJ ?_|refine zK ?_|refine zL rfl ?_|refine zM rfl ?_))
     rw [← sum_take_succ e hlt]
     refine ⟨k + 1, ⟨hlt, ?_⟩, by dsimp only; omega, rfl, rfl, rfl, rfl, rfl, trivial⟩
     rw [List.take_succ_eq_append_getElem hlt, List.all_append, ha]
     simp [hc1]
   ·have hc1 : inE e[k] = false := by simp [inE]; simp at hc; omega
    have : monoCk r e = 3 := by
     unfold monoCk
     rw [if_pos h, if_neg]
     intro hh
     simp only [Bool.and_eq_true] at hh
     have := List.all_eq_true.1 hh.1 _ (List.getElem_mem hlt)
     rw [hc1] at this; cases this
    rw [this]
    (repeat(first|refine zC ?_|refine zD ?_|refine zE rfl (by decide) rfl ?_|refine zF ?_|refine zG ?_|refine zH ?_|refine zI ?_|refine zJ ?_|refine zK ?_|refine zL rfl ?_|refine zM rfl ?_))
    exact DW.ret ⟨.inl rfl, _, rfl, Over.refl _, .same _⟩
  ·have hge : k = e.length := by have := of_decide_eq_false hb; omega
   subst hge
   rw [List.take_length] at ha
   (repeat(first|refine zC ?_|refine zD ?_|refine zE rfl (by decide) rfl ?_|refine zF ?_|refine zG ?_|refine zH ?_|refine zI ?_|refine zJ ?_|refine zK ?_|refine zL rfl ?_|refine zM rfl ?_))
   rw [List.take_length]
   refine DW.cond rfl (fun hb => ?_) (fun hb => ?_)
   ·have : monoCk r e = 3 := by
     unfold monoCk
     rw [if_pos h, if_neg]
     rw [ha]; simp at hb ⊢; exact hb
    rw [this]
    (repeat(first|refine zC ?_|refine zD ?_|refine zE rfl (by decide) rfl ?_|refine zF ?_|refine zG ?_|refine zH ?_|refine zI ?_|refine zJ ?_|refine zK ?_|refine zL rfl ?_|refine zM rfl ?_))
    exact DW.ret ⟨.inl rfl, _, rfl, Over.refl _, .same _⟩
   ·have : monoCk r e = 0 := by
     unfold monoCk
     rw [if_pos h, if_pos]
     rw [ha]; simp at hb ⊢; exact hb
    rw [this]
    (repeat(first|refine zC ?_|refine zD ?_|refine zE rfl (by decide) rfl ?_|refine zF ?_|refine zG ?_|refine zH ?_|refine zI ?_|refine zJ ?_|refine zK ?_|refine zL rfl ?_|refine zM rfl ?_))
    exact DW.ret ⟨.inl rfl, _, rfl, Over.refl _, .same _⟩
end
section
open Go.RowKit
set_option maxHeartbeats 4000000

theorem each_pure {f : FuncId} {caps : List D} (g : Int → Int → Int) (a b : List Int) (hab : a.length = b.length) (hl : a.length ≤ 3) (hg : ∀ (i : Nat) (h1 : i < a.length) (h2 : i < b.length), Pure Tryz.prog f (I a[i] :: I b[i] :: caps) (I (g a[i] b[i]))) :
  Pure Tryz.prog 61 [intsD a, intsD b, .fn f caps] (intsD (zipE g a b)) := by
 intro H
 refine PureH.of_body Tryz.func61 rfl (by decide) (Nat.le_of_ble_eq_true rfl) fun w0 => ?_
 have hz := zipE_len (g := g) hab
 (repeat(first|refine zC ?_|refine zD ?_|refine zE rfl (by decide) rfl ?_|refine zF ?_|refine zG ?_|refine zH ?_|refine zI ?_|refine zJ ?_|refine zK ?_|refine zL rfl ?_|refine zM rfl ?_))
 refine RO.dyn rfl (d_make rfl rfl (Nat.le_refl _) (by omega) (by omega) fun x hx => ?_)
 (repeat(first|refine zC ?_|refine zD ?_|refine zE rfl (by decide) rfl ?_|refine zF ?_|refine zG ?_|refine zH ?_|refine zI ?_|refine zJ ?_|refine zK ?_|refine zL rfl ?_|refine zM rfl ?_))
 rw [flatten_replicate1]
 refine DW.loopI (fun k : Nat => k ≤ a.length) (fun k => [(0, intsD a), (1, intsD b), (2, .fn f caps), (12, intsD a), (13, I a.length), (14, I k), (7, .ref x 0 a.length 1)]) (fun k => H.set x (3, rowTo ((zipE g a b).map I) (I 0) k)) (fun k => a.length - k) 0 (Nat.zero_le _)
  (by rw [rowTo_zero, List.length_map, hz]) ⟨rfl, rfl, rfl, rfl, rfl, rfl, rfl, trivial⟩ fun k hk => ?_
 (repeat(first|refine zC ?_|refine zD ?_|refine zE rfl (by decide) rfl ?_|refine zF ?_|refine zG ?_|refine zH ?_|refine zI ?_|refine zJ ?_|refine zK ?_|refine zL rfl ?_|refine zM rfl ?_))
 refine DW.cond rfl (fun hb => ?_) (fun hb => ?_)
 ·have hlt : k < a.length := by have := of_decide_eq_true hb; omega
  have hlt2 : k < b.length := by omega
  have hlt3 : k < (zipE g a b).length := by omega
  (repeat(first|refine zC ?_|refine zD ?_|refine zE rfl (by decide) rfl ?_|refine zF ?_|refine zG ?_|refine zH ?_|refine zI ?_|refine zJ ?_|refine zK ?_|refine zL rfl ?_|refine zM rfl ?_))
  refine DW.drawS 13 Tryz.mixed (by kernel_rfl) (by decide) ?_
  dsimp only [List.take, List.drop]
  (repeat(first|refine zP ?_|refine zQ ?_|refine zR rfl (by decide) rfl ?_|refine zS ?_))
  refine RS.sta (fun H' hov => sta_call rfl rfl (hg k hlt hlt2 H')) rfl ?_
  refine RS.sta (fun H' hov => s_indexRef rfl rfl hlt) rfl ?_
  (repeat(first|refine zP ?_|refine zQ ?_|refine zR rfl (by decide) rfl ?_|refine zS ?_))
  refine RO.dyn rfl (d_store (k := 1) rfl rfl rfl (Heap.set_self _ _ _) (by rw [rowTo_len _ _ (by simp; omega)]; simp [cellsOf]; omega) (by simp [cellsOf, D.isCell]) ?_)
  (repeat(first|refine zC ?_|refine zD ?_|refine zE rfl (by decide) rfl ?_|refine zF ?_|refine zG ?_|refine zH ?_|refine zI ?_|refine zJ ?_|refine zK ?_|refine zL rfl ?_|refine zM rfl ?_))
  refine ⟨k + 1, hlt, by dsimp only; omega, ?_, rfl, rfl, rfl, rfl, rfl, rfl, rfl, trivial⟩
  rw [Heap.set_set]
  dsimp only
  have h1 := rowTo_set (l := (zipE g a b).map I) (z := I 0) (k := k) (by simp; omega)
  rw [← h1]
  simp only [List.getElem_map, zipE_get, cellsOf, Nat.zero_add, Nat.mul_one]
 ·have hge : k = a.length := by have := of_decide_eq_false hb; omega
  subst hge
  (repeat(first|refine zC ?_|refine zD ?_|refine zE rfl (by decide) rfl ?_|refine zF ?_|refine zG ?_|refine zH ?_|refine zI ?_|refine zJ ?_|refine zK ?_|refine zL rfl ?_|refine zM rfl ?_))
  refine DW.ret ⟨.inl rfl, _, rfl, (Over.refl _).set hx, ?_⟩
  have : rowTo ((zipE g a b).map I) (I 0) a.length = ((zipE g a b).map I).flatMap cellsOf := by
   rw [flat_cells1 (fun _ => rfl)]
   have := rowTo_all ((zipE g a b).map I) (I 0)
   rwa [List.length_map, hz] at this
  refine Frz.list (T := 3) (by rw [Heap.set_self, this]) hx (uni_I _) (by simp [hz])

theorem addE_pure (x y : Int) (hx : 0 ≤ x ∧ x ≤ 1000000) (hy : 0 ≤ y ∧ y ≤ 1000000) : Pure Tryz.prog 116 [I x, I y] (I (x + y)) := by
 intro H
 refine PureH.of_body Tryz.func116 rfl (by decide) (Nat.le_of_ble_eq_true rfl) fun w0 => ?_
 (repeat(first|refine zC ?_|refine zD ?_|refine zE rfl (by decide) rfl ?_|refine zF ?_|refine zG ?_|refine zH ?_|refine zI ?_|refine zJ ?_|refine zK ?_|refine zL rfl ?_|refine zM rfl ?_))
 exact DW.ret ⟨.inl rfl, _, rfl, Over.refl _, .same _⟩

theorem subE_pure (x y : Int) (hx : 0 ≤ x ∧ x ≤ 1000000) (hy : 0 ≤ y ∧ y ≤ 1000000) : Pure Tryz.prog 62 [I x, I y] (I (x - y)) := by
 intro H
 refine PureH.of_body Tryz.func62 rfl (by decide) (Nat.le_of_ble_eq_true rfl) fun w0 => ?_
 (repeat(first|refine zC ?_|refine zD ?_|refine zE rfl (by decide) rfl ?_|refine zF ?_|refine zG ?_|refine zH ?_|refine zI ?_|refine zJ ?_|refine zK ?_|refine zL rfl ?_|refine zM rfl ?_))
 exact DW.ret ⟨.inl rfl, _, rfl, Over.refl _, .same _⟩

theorem maxE_pure (x y : Int) : Pure Tryz.prog 63 [I x, I y] (I (max x y)) := by
 intro H
 refine PureH.of_body Tryz.func63 rfl (by decide) (Nat.le_of_ble_eq_true rfl) fun w0 => ?_
 (repeat(first|refine zC ?_|refine zD ?_|refine zE rfl (by decide) rfl ?_|refine zF ?_|refine zG ?_|refine zH ?_|refine zI ?_|refine zJ ?_|refine zK ?_|refine zL rfl ?_|refine zM rfl ?_))
 refine RO.sta (sta_max rfl rfl) rfl ?_
 (repeat(first|refine zC ?_|refine zD ?_|refine zE rfl (by decide) rfl ?_|refine zF ?_|refine zG ?_|refine zH ?_|refine zI ?_|refine zJ ?_|refine zK ?_|refine zL rfl ?_|refine zM rfl ?_))
 have : max x y = if y > x then y else x := by split <;> omega
 rw [this]
 exact DW.ret ⟨.inl rfl, _, rfl, Over.refl _, .same _⟩

theorem Product_pure {a b : List Int} (ha : MOk a) (hb : MOk b) (hab : a.length = b.length) : Pure Tryz.prog 103 [intsD a, intsD b] (intsD (zipE (· + ·) a b)) := by
 intro H
 refine PureH.of_body Tryz.func103 rfl (by decide) (Nat.le_of_ble_eq_true rfl) fun w0 => ?_
 (repeat(first|refine zC ?_|refine zD ?_|refine zE rfl (by decide) rfl ?_|refine zF ?_|refine zG ?_|refine zH ?_|refine zI ?_|refine zJ ?_|refine zK ?_|refine zL rfl ?_|refine zM rfl ?_))
 refine RO.sta (sta_call rfl rfl (each_pure (· + ·) a b hab ha.len (fun i h1 h2 => addE_pure _ _ (ha.at h1) (hb.at h2)) _)) rfl ?_
 (repeat(first|refine zC ?_|refine zD ?_|refine zE rfl (by decide) rfl ?_|refine zF ?_|refine zG ?_|refine zH ?_|refine zI ?_|refine zJ ?_|refine zK ?_|refine zL rfl ?_|refine zM rfl ?_))
 exact DW.ret ⟨.inl rfl, _, rfl, Over.refl _, .same _⟩

theorem Quotient_pure {a b : List Int} (ha : MOk a) (hb : MOk b) (hab : a.length = b.length) : Pure Tryz.prog 47 [intsD a, intsD b] (intsD (zipE (· - ·) a b)) := by
 intro H
 refine PureH.of_body Tryz.func47 rfl (by decide) (Nat.le_of_ble_eq_true rfl) fun w0 => ?_
 (repeat(first|refine zC ?_|refine zD ?_|refine zE rfl (by decide) rfl ?_|refine zF ?_|refine zG ?_|refine zH ?_|refine zI ?_|refine zJ ?_|refine zK ?_|refine zL rfl ?_|refine zM rfl ?_))
 refine RO.sta (sta_call rfl rfl (each_pure (· - ·) a b hab ha.len (fun i h1 h2 => subE_pure _ _ (ha.at h1) (hb.at h2)) _)) rfl ?_
 (repeat(first|refine zC ?_|refine zD ?_|refine zE rfl (by decide) rfl ?_|refine zF ?_|refine zG ?_|refine zH ?_|refine zI ?_|refine zJ ?_|refine zK ?_|refine zL rfl ?_|refine zM rfl ?_))
 exact DW.ret ⟨.inl rfl, _, rfl, Over.refl _, .same _⟩

theorem Common_pure {a b : List Int} (ha : MOk a) (hab : a.length = b.length) : Pure Tryz.prog 48 [intsD a, intsD b] (intsD (zipE max a b)) := by
 intro H
 refine PureH.of_body Tryz.func48 rfl (by decide) (Nat.le_of_ble_eq_true rfl) fun w0 => ?_
 (repeat(first|refine zC ?_|refine zD ?_|refine zE rfl (by decide) rfl ?_|refine zF ?_|refine zG ?_|refine zH ?_|refine zI ?_|refine zJ ?_|refine zK ?_|refine zL rfl ?_|refine zM rfl ?_))
 refine RO.sta (sta_call rfl rfl (each_pure max a b hab ha.len (fun i h1 h2 => maxE_pure _ _) _)) rfl ?_
 (repeat(first|refine zC ?_|refine zD ?_|refine zE rfl (by decide) rfl ?_|refine zF ?_|refine zG ?_|refine zH ?_|refine zI ?_|refine zJ ?_|refine zK ?_|refine zL rfl ?_|refine zM rfl ?_))
 exact DW.ret ⟨.inl rfl, _, rfl, Over.refl _, .same _⟩

theorem Goes_pure {a b : List Int} (hab : a.length = b.length) (hl : a.length ≤ 1000000) : Pure Tryz.prog 17 [intsD a, intsD b] (.bool (goesM a b)) := by
 intro H
 refine PureH.of_body Tryz.func17 rfl (by decide) (Nat.le_of_ble_eq_true rfl) fun w0 => ?_
 (repeat(first|refine zC ?_|refine zD ?_|refine zE rfl (by decide) rfl ?_|refine zF ?_|refine zG ?_|refine zH ?_|refine zI ?_|refine zJ ?_|refine zK ?_|refine zL rfl ?_|refine zM rfl ?_))
 refine DW.loopI (fun k : Nat => k ≤ a.length ∧ goesM (a.drop k) (b.drop k) = goesM a b) (fun k => [(0, intsD a), (1, intsD b), (6, intsD a), (7, I a.length), (8, I k)]) (fun _ => H) (fun k => a.length - k) 0 ⟨Nat.zero_le _, rfl⟩ rfl ⟨rfl, rfl, rfl, rfl, rfl, trivial⟩ fun k ⟨hk, hg⟩ => ?_
 (repeat(first|refine zC ?_|refine zD ?_|refine zE rfl (by decide) rfl ?_|refine zF ?_|refine zG ?_|refine zH ?_|refine zI ?_|refine zJ ?_|refine zK ?_|refine zL rfl ?_|refine zM rfl ?_))
 refine DW.cond rfl (fun hb => ?_) (fun hb => ?_)
 ·have hlt : k < a.length := by have := of_decide_eq_true hb; omega
  have hlt2 : k < b.length := by omega
  rw [goesM_drop hlt hlt2] at hg
  (repeat(first|refine zC ?_|refine zD ?_|refine zE rfl (by decide) rfl ?_|refine zF ?_|refine zG ?_|refine zH ?_|refine zI ?_|refine zJ ?_|refine zK ?_|refine zL rfl ?_|refine zM rfl ?_))
  refine DW.drawS 9 Tryz.mixed (by kernel_rfl) (by decide) ?_
  dsimp only [List.take, List.drop]
  (repeat(first|refine zP ?_|refine zQ ?_|refine zR rfl (by decide) rfl ?_|refine zS ?_))
  (repeat(first|refine zC ?_|refine zD ?_|refine zE rfl (by decide) rfl ?_|refine zF ?_|refine zG ?_|refine zH ?_|refine zI ?_|refine zJ ?_|refine zK ?_|refine zL rfl ?_|refine zM rfl ?_))
  refine DW.cond rfl (fun hb => ?_) (fun hb => ?_)
  ·have hc : b[k] > a[k] := of_decide_eq_true hb
   rw [if_pos hc] at hg
   rw [← hg]
   (repeat(first|refine zC ?_|refine zD ?_|refine zE rfl (by decide) rfl ?_|refine zF ?_|refine zG ?_|refine zH ?_|refine zI ?_|refine zJ ?_|refine zK ?_|refine zL rfl ?_|refine zM rfl ?_))
   exact DW.ret ⟨.inl rfl, _, rfl, Over.refl _, .same _⟩
  ·have hc : ¬ b[k] > a[k] := of_decide_eq_false hb
   rw [if_neg hc] at hg
   (repeat(first|refine zC ?_|refine zD ?_|refine zE rfl (by decide) rfl ?_|refine zF ?_|refine zG ?_|refine zH ?_|refine zI ?_|refine zJ ?_|refine zK ?_|refine zL rfl ?_|refine zM rfl ?_))
   exact ⟨k + 1, ⟨hlt, hg⟩, by dsimp only; omega, rfl, rfl, rfl, rfl, rfl, rfl, trivial⟩
 ·have hge : k = a.length := by have := of_decide_eq_false hb; omega
  subst hge
  have : goesM a b = true := by rw [← hg]; simp [goesM]
  rw [this]
  (repeat(first|refine zC ?_|refine zD ?_|refine zE rfl (by decide) rfl ?_|refine zF ?_|refine zG ?_|refine zH ?_|refine zI ?_|refine zJ ?_|refine zK ?_|refine zL rfl ?_|refine zM rfl ?_))
  exact DW.ret ⟨.inl rfl, _, rfl, Over.refl _, .same _⟩
end
end Go.Proofs.YtfjmdhemlfafbaaGreat
