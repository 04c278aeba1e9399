/-
  More rules: nil as an empty list, min and max, pairs, a row that is filled place by place. No condition.
-/
import Derived.Test.YtejpadofecboiaaE13
namespace Go.Proofs.Ytejpadofecboiaa
open Go.RowKit
set_option linter.unusedVariables false
set_option linter.unusedSimpArgs false

section
variable {P : Program} {H : Heap} {e : Env} {dst : Option Tmp} {ty : TypeId} {pos : String} {af : Array Edge} {gd : Option (Nat × Bool)}

theorem sta_nilMove (k : Nat) {x : Operand} (hx : e.ev x = some .nil) : Sta P H e ⟨dst, .move x, ty, pos, af, gd⟩ (.list k []) := .mk fun ρ w ha ho => by
  have := (sta_move (P := P) (H := H) (dst := dst) (ty := ty) (pos := pos) (af := af) (gd := gd) hx).go ρ w ha ho
  exact this.mono fun v w' ⟨h1, h2, h3⟩ => ⟨h1.nil_list k, h2, h3⟩

theorem sta_nilAssign (k : Nat) {x : Operand} (hx : e.ev x = some .nil) : Sta P H e ⟨dst, .assign x, ty, pos, af, gd⟩ (.list k []) := .mk fun ρ w ha ho => by
  have := (sta_assign (P := P) (H := H) (dst := dst) (ty := ty) (pos := pos) (af := af) (gd := gd) hx).go ρ w ha ho
  exact this.mono fun v w' ⟨h1, h2, h3⟩ => ⟨h1.nil_list k, h2, h3⟩

theorem r_loadM {α : Type} {f : α → D} {l : List α} {k i : Nat} {t : TypeId} {x : Operand} [CellT P t] (hf : ∀ a, cellsOf (f a) = [f a]) (hx : e.ev x = some (.ipt k (l.map f) i 0)) (hi : i < l.length) : ∀ H', Over H H' → Sta P H' e ⟨dst, .load t x, ty, pos, af, gd⟩ (f l[i]) :=
  fun _ _ => s_loadM hf hx hi
theorem r_loadTm {f : Pl} {i : Nat} {t : TypeId} {x : Operand} [AggT P t 2] (hx : e.ev x = some (.ipt 2 (f.map tmD) i 0)) (hi : i < f.length) : ∀ H', Over H H' → Sta P H' e ⟨dst, .load t x, ty, pos, af, gd⟩ (tmD f[i]) :=
  fun _ _ => s_loadTm hx hi
theorem r_loadC {f : Pl} {i : Nat} {t : TypeId} {x : Operand} [CellT P t] (hx : e.ev x = some (.ipt 2 (f.map tmD) i 0)) (hi : i < f.length) : ∀ H', Over H H' → Sta P H' e ⟨dst, .load t x, ty, pos, af, gd⟩ (I f[i].c) :=
  fun _ _ => s_loadC hx hi
theorem r_loadE {f : Pl} {i : Nat} {t : TypeId} {x : Operand} [CellT P t] (hx : e.ev x = some (.ipt 2 (f.map tmD) i 1)) (hi : i < f.length) : ∀ H', Over H H' → Sta P H' e ⟨dst, .load t x, ty, pos, af, gd⟩ (intsD f[i].e) :=
  fun _ _ => s_loadE hx hi

end

theorem Frz.tup2 {H H' : Heap} {a b a' b' : D} (h1 : Frz H H' a a') (h2 : Frz H H' b b') : Frz H H' (.tup [a, b]) (.tup [a', b']) :=
  .tup rfl fun j x y hx hy => by
    match j, hx, hy with
    | 0, hx, hy => cases hx; cases hy; exact h1
    | 1, hx, hy => cases hx; cases hy; exact h2
    | j + 2, hx, hy => simp at hx

theorem Frz.tup3 {H H' : Heap} {a b c a' b' c' : D} (h1 : Frz H H' a a') (h2 : Frz H H' b b') (h3 : Frz H H' c c') : Frz H H' (.tup [a, b, c]) (.tup [a', b', c']) :=
  .tup rfl fun j x y hx hy => by
    match j, hx, hy with
    | 0, hx, hy => cases hx; cases hy; exact h1
    | 1, hx, hy => cases hx; cases hy; exact h2
    | 2, hx, hy => cases hx; cases hy; exact h3
    | j + 3, hx, hy => simp at hx

/-- A row, the first k places of which are filled. -/
def rowTo (l : List D) (z : D) (k : Nat) : List D := l.take k ++ List.replicate (l.length - k) z

theorem rowTo_len (l : List D) (z : D) {k : Nat} (h : k ≤ l.length) : (rowTo l z k).length = l.length := by simp [rowTo]; omega

theorem rowTo_zero (l : List D) (z : D) : rowTo l z 0 = List.replicate l.length z := by simp [rowTo]

theorem rowTo_all (l : List D) (z : D) : rowTo l z l.length = l := by simp [rowTo]

theorem rowTo_set {l : List D} {z : D} {k : Nat} (h : k < l.length) : setMany (rowTo l z k) k [l[k]] = rowTo l z (k + 1) := by
  apply List.ext_getElem?
  intro j
  rw [setMany_get (by rw [rowTo_len l z (by omega)]; simp; omega)]
  simp only [List.length_singleton]
  unfold rowTo
  by_cases h1 : j = k
  · subst h1
    rw [if_pos (by omega), Nat.sub_self, List.getElem?_append_left (by simp; omega)]
    simp [h]
  · rw [if_neg (by omega)]
    by_cases h2 : j < k
    · rw [List.getElem?_append_left (by simp; omega), List.getElem?_append_left (by simp; omega)]
      simp [h2, show j < k + 1 by omega]
    · rw [List.getElem?_append_right (by simp; omega), List.getElem?_append_right (by simp; omega)]
      simp only [List.length_take]
      rw [Nat.min_eq_left (by omega), Nat.min_eq_left (by omega)]
      by_cases h3 : j < l.length
      · rw [List.getElem?_replicate_of_lt (by omega), List.getElem?_replicate_of_lt (by omega)]
      · rw [List.getElem?_eq_none (by simp; omega), List.getElem?_eq_none (by simp; omega)]

theorem Heap.set_set (H : Heap) (b : Nat) (x y : TypeId × List D) : (H.set b x).set b y = H.set b y := by
  funext c
  simp only [Heap.set]
  split <;> rfl

theorem Heap.set_self (H : Heap) (b : Nat) (x : TypeId × List D) : H.set b x b = some x := by simp [Heap.set]

theorem flat_cells1 {α : Type} {f : α → D} (hf : ∀ a, cellsOf (f a) = [f a]) (l : List α) : (l.map f).flatMap cellsOf = l.map f := by
  induction l with
  | nil => rfl
  | cons a l ih => simp [hf, ih]

theorem flatten_replicate1 (n : Nat) (z : D) : (List.replicate n [z]).flatten = List.replicate n z := by
  induction n with
  | zero => rfl
  | succ n ih => rw [List.replicate_succ, List.flatten_cons, ih]; rfl

end Go.Proofs.Ytejpadofecboiaa
