/-
  Fewer cells of a mutable block are kept in mind; parts of mutable slices, by instances. No condition.
-/
import Derived.Test.YtfjmdhemlfafbaaGreatKHc5
import Derived.Test.YtfjmdhemlfafbaaGreatKHc7
import Derived.Laws.Strings
import Derived.Laws.BytesArg
set_option linter.unusedVariables false
set_option linter.unusedSimpArgs false

namespace Go.Proofs.YtfjmdhemlfafbaaGreat
section
open Go.RowKit

theorem Acc.done {H H' : Heap} {d : D} {k : Nat} {T : TypeId} {l : List D} (h : Acc H H' d k T l) : Frz H' H d (.list k l) := h.frz fun b hb => by
 rcases h.is with ⟨g, _⟩ | ⟨c, g1, g2, _⟩
 ·rw [g] at hb; cases hb
 ·rw [g2] at hb; cases hb; exact g1

theorem Acc.over' {H0 H H' : Heap} {d : D} {k : Nat} {T : TypeId} {l : List D} (h : Acc H0 H d k T l) (ho : Over H H') : Acc H0 H' d k T l :=
 ⟨h.uni, h.is.imp id fun ⟨b, h1, h2, h3⟩ => ⟨b, h1, h2, ho _ _ h3⟩⟩

theorem Acc.len' {H0 H : Heap} {d : D} {k : Nat} {T : TypeId} {l : List D} (h : Acc H0 H d k T l) : lenD d = some l.length := by
 rcases h.is with ⟨rfl, rfl⟩ | ⟨b, _, rfl, _⟩ <;> rfl

theorem Acc.ref {H0 H : Heap} {d : D} {k : Nat} {T : TypeId} {l : List D} (h : Acc H0 H d k T l) (hl : 0 < l.length) : ∃ b, H0 b = none ∧ d = .ref b 0 l.length k ∧ H b = some (T, l.flatMap cellsOf) := by
 rcases h.is with ⟨_, h2⟩ | h
 ·rw [h2] at hl; simp at hl
 ·exact h

theorem flat_set {k : Nat} (hk : 0 < k) {l : List D} (hl : ∀ d ∈ l, (cellsOf d).length = k) {i : Nat} (hi : i < l.length) {d : D} (hd : (cellsOf d).length = k) : setMany (l.flatMap cellsOf) (i * k) (cellsOf d) = (l.set i d).flatMap cellsOf := by
 have hlen : ∀ {l : List D}, (∀ d ∈ l, (cellsOf d).length = k) → (l.flatMap cellsOf).length = l.length * k := by
  intro l
  induction l with
  | nil => intro _; simp
  | cons x l ih =>
   intro h
   simp only [List.flatMap_cons, List.length_append, List.length_cons, h x (by simp), ih fun y hy => h y (by simp [hy]), Nat.add_mul]
   omega
 have hl2 : ∀ x ∈ l.set i d, (cellsOf x).length = k := fun x hx => by
  rcases List.mem_or_eq_of_mem_set hx with h | rfl
  ·exact hl x h
  ·exact hd
 have hfit : i * k + (cellsOf d).length ≤ (l.flatMap cellsOf).length := by
  rw [hlen hl, hd, show i * k + k = (i + 1) * k by rw [Nat.add_mul]; omega]
  exact Nat.mul_le_mul_right k hi
 apply List.ext_getElem?
 intro q
 rw [setMany_get hfit, hd]
 have hq : (q / k) * k + q % k = q := by rw [Nat.mul_comm]; exact Nat.div_add_mod q k
 have hm : q % k < k := Nat.mod_lt _ hk
 have e1 := flat_cell (k := k) (l := l) (fun i d h => hl d (List.mem_of_getElem? h)) (q / k) (q % k) hm
 have e2 := flat_cell (k := k) (l := l.set i d) (fun i d h => hl2 d (List.mem_of_getElem? h)) (q / k) (q % k) hm
 rw [hq] at e1 e2
 rw [e1, e2]
 unfold cellAt
 by_cases hqi : q / k = i
 ·have h1 : i * k ≤ q := by rw [← hqi]; exact Nat.div_mul_le_self q k
  have h2 : q - i * k = q % k := by rw [← hqi]; omega
  have h3 : q < i * k + k := by omega
  rw [if_pos ⟨h1, h3⟩, h2, hqi]
  simp [hi]
 ·rw [if_neg]
  ·rw [List.getElem?_set_ne (Ne.symm hqi)]
  ·rintro ⟨h1, h2⟩
   apply hqi
   have h3 : i ≤ q / k := (Nat.le_div_iff_mul_le hk).2 h1
   have h4 : q / k < i + 1 := (Nat.div_lt_iff_lt_mul hk).2 (by rw [Nat.add_mul]; omega)
   omega

theorem rowTo_put {l : List D} {z : D} {k : Nat} (h : k < l.length) : (rowTo l z k).set k l[k] = rowTo l z (k + 1) := by
 unfold rowTo
 apply List.ext_getElem?
 intro j
 rw [List.getElem?_set]
 simp only [List.length_append, List.length_take, List.length_replicate]
 by_cases h1 : k = j
 ·subst h1
  rw [if_pos rfl, if_pos (by omega), List.getElem?_append_left (by simp; omega)]
  simp [h]
 ·rw [if_neg h1]
  by_cases h2 : j < k
  ·rw [List.getElem?_append_left (by simp; omega), List.getElem?_append_left (by simp; omega)]
   simp [h2, show j < k + 1 by omega]
  ·rw [List.getElem?_append_right (by simp; omega), List.getElem?_append_right (by simp; omega)]
   simp only [List.length_take]
   rw [Nat.min_eq_left (by omega), Nat.min_eq_left (by omega)]
   by_cases h3 : j < l.length
   ·rw [List.getElem?_replicate_of_lt (by omega), List.getElem?_replicate_of_lt (by omega)]
   ·rw [List.getElem?_eq_none (by simp; omega), List.getElem?_eq_none (by simp; omega)]

section
variable {P : Program} {H : Heap} {e : Env} {dst : Option Tmp} {ty : TypeId} {pos : String} {af : Array Edge} {gd : Option (Nat × Bool)}

inductive Frzs (H H' : Heap) : List D → List D → Prop
 | nil : Frzs H H' [] []
 | cons {a b : D} {l m : List D} (h : Frz H H' a b) (r : Frzs H H' l m) : Frzs H H' (a :: l) (b :: m)

theorem Frzs.same (H H' : Heap) : ∀ l, Frzs H H' l l
 | [] => .nil
 | a :: l => .cons (.same a) (Frzs.same H H' l)

theorem Frzs.reps {w : World} {H H' : Heap} (ho : HOK w H) (hs : H'.sub H) {l m : List D} (h : Frzs H H' l m) : ∀ {vs : List Value}, RepsA w H vs.toArray l → RepsA w H' vs.toArray m := by
 induction h with
 | nil => intro vs hv; exact ⟨hv.1, fun j x hx => by simp at hx⟩
 | cons hf r ih =>
  intro vs hv
  cases vs with
  | nil => have := hv.1; simp at this
  | cons v vs =>
   have hv' : RepsA w H vs.toArray _ := ⟨by have := hv.1; simpa using this, fun j x hx => by
    have := hv.2 (j + 1) x (by simpa using hx)
    simpa using this⟩
   have hi := ih hv'
   refine ⟨by have := hi.1; simpa using this, fun j x hx => ?_⟩
   cases j with
   | zero =>
    simp at hx
    subst hx
    obtain ⟨u, hu, hr⟩ := hv.2 0 _ rfl
    exact ⟨u, hu, Rep.frz ho hs hf hr⟩
   | succ j =>
    obtain ⟨u, hu, hr⟩ := hi.2 j x (by simpa using hx)
    exact ⟨u, by simpa using hu, hr⟩

theorem opD_callF {g : Operand} {xs : Array Operand} {ats : Array TypeId} {f : FuncId} {caps ds ds' : List D} {d : D} {H' : Heap} {K : D → Heap → Prop} (hg : e.ev g = some (.fn f caps)) (hx : evList e xs.toList = some ds) (hs : H'.sub H) (hf : Frzs H H' (ds ++ caps) ds') (hp : PureH P H' f ds' d) (hK : K d H') :
  OpD P H e ⟨dst, .call ⟨.value g, xs, ats⟩, ty, pos, af, gd⟩ K := .mk fun ρ w ha ho => by
 obtain ⟨vs, hv, hr⟩ := rep_fn (ha g _ hg)
 simp only [OpTo, run_exec_call hp.body hv]
 have hargs : RepsA w H (xs.map ρ ++ vs) (ds ++ caps) := by
  have := (reps_list (H := H) ha xs.toList ds hx).append hr
  have he : (xs.toList.map ρ).toArray = xs.map ρ := by apply Array.ext'; simp
  rwa [he] at this
 have hargs' : RepsA w H' (xs.map ρ ++ vs) ds' := by
  have := hf.reps (vs := (xs.map ρ ++ vs).toList) ho hs (by rw [Array.toArray_toList]; exact hargs)
  rwa [Array.toArray_toList] at this
 refine (hp.calls w _ (ho.sub hs) hargs').mono fun en w' ⟨v, h1, h2, h3, h4⟩ => ⟨v, h1, d, H', hK, h2, h3, ?_⟩
 refine ⟨h4.os, h4.tape, h4.output, h4.size, h4.tick, fun b hb hHb => ?_, h4.shape⟩
 have hb' : H' b = none := by
  cases hx : H' b with
  | none => rfl
  | some x => rw [hs b x hx] at hHb; cases hHb
 exact ⟨hb', (h4.old b hb hb').2⟩

theorem s_outE {t T0 : TypeId} {x : Operand} {b off i : Nat} {f : Pl} [CellT P t] (hx : e.ev x = some (.ptr b off)) (hH : H b = some (T0, (f.map tmD).flatMap cellsOf)) (ho : off = i * 2 + 1) (hi : i < f.length) : Sta P H e ⟨dst, .load t x, ty, pos, af, gd⟩ (intsD f[i].e) := by
 refine s_loadMut hx hH ?_
 rw [ho, flat_cell (k := 2) (fun j d hd => by have := List.mem_of_getElem? hd; obtain ⟨y, _, rfl⟩ := List.mem_map.1 this; rfl) i 1 (by omega)]
 simp [cellAt, hi, tmD, cellsOf]

theorem s_outC {t T0 : TypeId} {x : Operand} {b off i : Nat} {f : Pl} [CellT P t] (hx : e.ev x = some (.ptr b off)) (hH : H b = some (T0, (f.map tmD).flatMap cellsOf)) (ho : off = i * 2) (hi : i < f.length) : Sta P H e ⟨dst, .load t x, ty, pos, af, gd⟩ (I f[i].c) := by
 refine s_loadMut hx hH ?_
 have := flat_cell (k := 2) (l := f.map tmD) (fun j d hd => by have := List.mem_of_getElem? hd; obtain ⟨y, _, rfl⟩ := List.mem_map.1 this; rfl) i 0 (by omega)
 rw [ho, ← Nat.add_zero (i * 2), this]
 simp [cellAt, hi, tmD, cellsOf]

theorem tm_flat : ∀ (f : Pl) (i : Nat) (h : i < f.length), (((f.map tmD).flatMap cellsOf).drop (i * 2)).take 2 = [I f[i].c, intsD f[i].e]
 | t :: f, 0, _ => by simp [tmD, cellsOf]
 | t :: f, i + 1, h => by
  have ih := tm_flat f i (by simpa using h)
  have e1 : ((t :: f).map tmD).flatMap cellsOf = [I t.c, intsD t.e] ++ (f.map tmD).flatMap cellsOf := rfl
  rw [e1, show (i + 1) * 2 = 2 + i * 2 by omega, ← List.drop_drop]
  exact ih

theorem s_outTm {t T0 : TypeId} {x : Operand} {b off i : Nat} {f : Pl} [AggT P t 2] (hx : e.ev x = some (.ptr b off)) (hH : H b = some (T0, (f.map tmD).flatMap cellsOf)) (ho : off = i * 2) (hi : i < f.length) : Sta P H e ⟨dst, .load t x, ty, pos, af, gd⟩ (tmD f[i]) := by
 subst ho
 exact s_loadMutAgg hx hH (tm_flat f i hi) rfl

theorem s_ix2 {t E : TypeId} {x y : Operand} {b n bytes i : Nat} {zd : List D} {m : Int} [SliceT P t E] [ElT P E 2 zd bytes] (hx : e.ev x = some (.ref b 0 n 2)) (hy : e.ev y = some (I m)) (hm : m = i) (hl : i < n) :
  Sta P H e ⟨dst, .indexAddr t x y, ty, pos, af, gd⟩ (.ptr b (i * 2)) := by
 subst hm
 have := s_indexRef (P := P) (H := H) (dst := dst) (ty := ty) (pos := pos) (af := af) (gd := gd) (t := t) (E := E) (zd := zd) (bytes := bytes) hx hy hl
 simpa using this

end
end
section
open Go.RowKit

def existQ {α : Type} (P : α → Prop) (l : α → Env) (H' : α → Heap) (Q : Post) : Post
 | .normal, e, H => ∃ a, P a ∧ (H' a).sub H ∧ HasG e H (H' a) (l a)
 | x, e, H => Q x e H

theorem DW.cutB {C : Ctx} {α : Type} {id : Nat} {x y : Code} {e : Env} {H : Heap} {Q : Post} (P : α → Prop) (l : α → Env) (H' : α → Heap) (h2 : ∀ a, P a → DW C y (l a) (H' a) Q) (h1 : DW C x e H (blockQ id (existQ P l H' Q))) : DW C x e H (blockQ id (thenQ C y Q)) := by
 have key : ∀ z e' H'', existQ P l H' Q z e' H'' → thenQ C y Q z e' H'' := fun z e' H'' h => by
  cases z with
  | normal =>
   obtain ⟨a, ha, hs, hg⟩ := h
   exact DW.freezeG (l a) (H' a) hs hg (h2 a ha)
  | exit id => exact h
  | goto l => exact h
  | ret => exact h
  | panic c => exact h
  | outgrown => exact h
 refine h1.mono fun z e' H'' h => ?_
 cases z with
 | exit id' =>
  simp only [blockQ] at h ⊢
  cases hb : Nat.beq id' id with
  | true => rw [hb] at h; exact key .normal _ _ h
  | false => rw [hb] at h; exact key (.exit id') _ _ h
 | normal => exact key .normal _ _ h
 | goto l => exact h
 | ret => exact h
 | panic c => exact h
 | outgrown => exact h

theorem DW.cutE {C : Ctx} {α : Type} {x y : Code} {e : Env} {H : Heap} {Q : Post} (P : α → Prop) (l : α → Env) (H' : α → Heap) (h2 : ∀ a, P a → DW C y (l a) (H' a) Q) (h1 : DW C x e H (existQ P l H' Q)) : DW C x e H (thenQ C y Q) := by
 refine h1.mono fun z e' H'' h => ?_
 cases z with
 | normal =>
  obtain ⟨a, ha, hs, hg⟩ := h
  exact DW.freezeG (l a) (H' a) hs hg (h2 a ha)
 | exit id => exact h
 | goto l => exact h
 | ret => exact h
 | panic c => exact h
 | outgrown => exact h

def dropD : D → Nat → D
 | .ref b off n k, m => if m < n then .ref b (off + m * k) (n - m) k else .list k []
 | d, _ => d

def takeD : D → Nat → D
 | .ref b off _ k, m => .ref b off m k
 | d, _ => d

def SrcOk (H : Heap) (d : D) (k : Nat) (xs : List D) : Prop := ∀ (w : World) (v : Value), HOK w H → Rep w H v d → NewsOf w H v k xs

theorem SrcOk.list {H : Heap} {k : Nat} {xs : List D} (hu : Uni k xs) (hk : 0 < k) : SrcOk H (.list k xs) k xs := fun w v _ hr => .list hr hu hk
theorem SrcOk.nil {H : Heap} (k : Nat) : SrcOk H .nil k [] := fun w v _ hr => .nil hr k

theorem Acc.weaken {H H1 H2 : Heap} {d : D} {k : Nat} {T : TypeId} {l : List D} (h : Acc H1 H2 d k T l) (ho : Over H H1) : Acc H H2 d k T l := ⟨h.uni, h.is.imp id fun ⟨b, h1, h2, h3⟩ => ⟨b, ho.none h1, h2, h3⟩⟩

theorem SrcOk.acc {H0 H : Heap} {d : D} {k : Nat} {T : TypeId} {l : List D} (h : Acc H0 H d k T l) : SrcOk H d k l := by
 rcases h.is with ⟨rfl, rfl⟩ | ⟨b, _, rfl, hb⟩
 ·exact .nil k
 ·exact fun w v ho hr => NewsOf.ref hr ho hb h.uni rfl fun j x hx => by simpa using hx

theorem SrcOk.take {H0 H : Heap} {d : D} {k m : Nat} {T : TypeId} {l : List D} (h : Acc H0 H d k T l) (hm : m ≤ l.length) : SrcOk H (takeD d m) k (l.take m) := by
 rcases h.is with ⟨rfl, rfl⟩ | ⟨b, _, rfl, hb⟩
 ·rw [List.take_nil]; exact .nil k
 ·refine fun w v ho hr => NewsOf.ref hr ho hb (fun d hd => h.uni d (List.mem_of_mem_take hd)) (by simp; omega) fun j x hx => ?_
  have : l.flatMap cellsOf = (l.take m).flatMap cellsOf ++ (l.drop m).flatMap cellsOf := by rw [← List.flatMap_append, List.take_append_drop]
  rw [this, Nat.zero_add, List.getElem?_append_left (List.getElem?_eq_some_iff.1 hx).1]
  exact hx

theorem SrcOk.drop {H0 H : Heap} {d : D} {k m : Nat} {T : TypeId} {l : List D} (h : Acc H0 H d k T l) (hk : 0 < k) (hm : m ≤ l.length) : SrcOk H (dropD d m) k (l.drop m) := by
 rcases h.is with ⟨rfl, rfl⟩ | ⟨b, _, rfl, hb⟩
 ·rw [List.drop_nil]; exact .nil k
 ·by_cases hlt : m < l.length
  ·rw [show dropD (.ref b 0 l.length k) m = .ref b (0 + m * k) (l.length - m) k from if_pos hlt]
   refine fun w v ho hr => NewsOf.ref hr ho hb (fun d hd => h.uni d (List.mem_of_mem_drop hd)) (by simp) fun j x hx => ?_
   have : l.flatMap cellsOf = (l.take m).flatMap cellsOf ++ (l.drop m).flatMap cellsOf := by rw [← List.flatMap_append, List.take_append_drop]
   have hu : Uni k (l.take m) := fun d hd => h.uni d (List.mem_of_mem_take hd)
   have hl : ((l.take m).flatMap cellsOf).length = m * k := by rw [hu.length, List.length_take, Nat.min_eq_left hm]
   rw [this, List.getElem?_append_right (by omega), hl]
   rw [show 0 + m * k + j - m * k = j by omega]
   exact hx
  ·rw [show dropD (.ref b 0 l.length k) m = .list k [] from if_neg hlt, List.drop_eq_nil_of_le (by omega)]
   exact .list (Uni.nil k) hk

section
variable {P : Program} {H : Heap} {e : Env} {dst : Option Tmp} {ty : TypeId} {pos : String} {af : Array Edge} {gd : Option (Nat × Bool)}

theorem x_loadM {α : Type} {f : α → D} {l : List α} {k i : Nat} {t : TypeId} {x : Operand} [CellT P t] (hf : ∀ a, cellsOf (f a) = [f a]) (hx : e.ev x = some (.ipt k (l.map f) i 0)) (hi : i < l.length) : ∀ H', Sta P H' e ⟨dst, .load t x, ty, pos, af, gd⟩ (f l[i]) :=
 fun _ => s_loadM hf hx hi
theorem x_loadTm {f : Pl} {i : Nat} {t : TypeId} {x : Operand} [AggT P t 2] (hx : e.ev x = some (.ipt 2 (f.map tmD) i 0)) (hi : i < f.length) : ∀ H', Sta P H' e ⟨dst, .load t x, ty, pos, af, gd⟩ (tmD f[i]) :=
 fun _ => s_loadTm hx hi
theorem x_loadC {f : Pl} {i : Nat} {t : TypeId} {x : Operand} [CellT P t] (hx : e.ev x = some (.ipt 2 (f.map tmD) i 0)) (hi : i < f.length) : ∀ H', Sta P H' e ⟨dst, .load t x, ty, pos, af, gd⟩ (I f[i].c) :=
 fun _ => s_loadC hx hi
theorem x_loadE {f : Pl} {i : Nat} {t : TypeId} {x : Operand} [CellT P t] (hx : e.ev x = some (.ipt 2 (f.map tmD) i 1)) (hi : i < f.length) : ∀ H', Sta P H' e ⟨dst, .load t x, ty, pos, af, gd⟩ (intsD f[i].e) :=
 fun _ => s_loadE hx hi

theorem s_dropAcc {H0 H1 : Heap} {t E : TypeId} {x y : Operand} {k bytes m : Nat} {zd : List D} {d : D} {l : List D} {T : TypeId} {i : Int} [SliceT P t E] [ElT P E k zd bytes] (hx : e.ev x = some d) (hacc : Acc H0 H1 d k T l) (hy : e.ev y = some (I i)) (hi : i = m) (hm : m ≤ l.length) :
  Sta P H e ⟨dst, .slice t x (some y) none none, ty, pos, af, gd⟩ (dropD d m) := by
 subst hi
 rcases hacc.is with ⟨rfl, rfl⟩ | ⟨b, _, rfl, hb⟩
 ·obtain ⟨inf, z, hi', hz1, hz2, hz3⟩ := (ElT.z (P := P) (E := E) (k := k) (zd := zd) (bytes := bytes)).is
  have hm0 : m = 0 := by simpa using hm
  subst hm0
  exact sta_slice_nil (k := k) SliceT.h hi' hx (by simp [boundD, hy]) rfl
 ·by_cases hlt : m < l.length
  ·rw [show dropD (.ref b 0 l.length k) m = .ref b (0 + m * k) (l.length - m) k from if_pos hlt]
   exact s_fromRef (zd := zd) (bytes := bytes) hx hy hlt
  ·rw [show dropD (.ref b 0 l.length k) m = .list k [] from if_neg hlt]
   have : m = l.length := by omega
   subst this
   exact s_fromRefEnd (zd := zd) (bytes := bytes) hx hy

theorem s_takeAcc {H0 H1 : Heap} {t E : TypeId} {x y : Operand} {k bytes m : Nat} {zd : List D} {d : D} {l : List D} {T : TypeId} {i : Int} [SliceT P t E] [ElT P E k zd bytes] (hx : e.ev x = some d) (hacc : Acc H0 H1 d k T l) (hy : e.ev y = some (I i)) (hi : i = m) (hm : m ≤ l.length) :
  Sta P H e ⟨dst, .slice t x none (some y) none, ty, pos, af, gd⟩ (takeD d m) := by
 subst hi
 obtain ⟨inf, z, hi', hz1, hz2, hz3⟩ := (ElT.z (P := P) (E := E) (k := k) (zd := zd) (bytes := bytes)).is
 rcases hacc.is with ⟨rfl, rfl⟩ | ⟨b, _, rfl, hb⟩
 ·have hm0 : m = 0 := by simpa using hm
  subst hm0
  exact sta_slice_nil (k := k) SliceT.h hi' hx rfl (by simp [boundD, hy])
 ·refine .mk fun ρ w ha ho => ?_
  have h := ha x _ hx
  generalize hv : ρ x = v at h
  cases h with
  | ref hb' hs hl hcm =>
   rename_i cap cs T0
   have hbd := run_sliceBounds (P := P) (w := w) (n := l.length) (cap := cap) (a := 0) (b := m) ha (lo := none) (hi := some y) rfl (by simp [boundD, hy]) (Nat.zero_le _) (by omega)
   simp only [Option.map_some, Option.map_none] at hbd
   have hr : (Instr.sliceAt t (.slice (some ⟨b, 0, none⟩) l.length cap) none (some (ρ y)) none).run P w = .ok (.slice (some ⟨b, 0, none⟩) m cap) w := by
    simp only [Instr.sliceAt, Instr.slice, Sem.run_bind, run_underlying (SliceT.h (P := P) (t := t) (E := E)), Result.andThen_ok]
    simp [hbd, run_sizeOf hi', addr_add]
   simp only [OpTo, execOp, hv, Sem.run_bind]
   simp only [Option.map_some, Option.map_none]
   rw [hr]
   simp only [Result.andThen_ok, Sem.run_pure]
   exact ⟨.ref hb' hs (by omega) hcm, ho, .refl _ _⟩

theorem d_appendSrc {H0 : Heap} {t E : TypeId} {x y : Operand} {k bytes : Nat} {zd : List D} {d dy : D} {l xs : List D} {K : D → Heap → Prop} [SliceT P t E] [ElT P E k zd bytes] (hx : e.ev x = some d) (hacc : Acc H0 H d k E l) (hover : Over H0 H)
  (hy : e.ev y = some dy) (hsrc : SrcOk H dy k xs) (hxs : Uni k xs) (hb : (l.length + xs.length) * bytes ≤ 140737488355328) (hlen : l.length + xs.length ≤ 4611686018427387904)
  (hK : ∀ d' H', Acc H0 H' d' k E (l ++ xs) → Over H0 H' → (∀ c z, H c = some z → d.blk ≠ some c → H' c = some z) → K d' H') :
  OpD P H e ⟨dst, .call ⟨.builtin .append, #[x, y], #[t, t]⟩, ty, pos, af, gd⟩ K :=
 opD_appendS SliceT.h (ElT.z (E := E) (bytes := bytes)) (ElT.pos (P := P) (E := E) (zd := zd) (bytes := bytes)) hx hacc hover (fun ρ w ha ho => hsrc w _ ho (ha y _ hy)) hxs (fun inf hi => by rw [ElT.b (P := P) (E := E) (k := k) (zd := zd) (bytes := bytes) inf hi]; exact hb) hlen hK

end

theorem tm_setC : ∀ (f : Pl) (i : Nat) (h : i < f.length) (c : Int), setMany ((f.map tmD).flatMap cellsOf) (i * 2) [I c] = ((f.set i ⟨c, f[i].e⟩).map tmD).flatMap cellsOf
 | t :: f, 0, _, c => by
  show setMany ([I t.c, intsD t.e] ++ (f.map tmD).flatMap cellsOf) 0 [I c] = [I c, intsD t.e] ++ (f.map tmD).flatMap cellsOf
  simp [setMany]
 | t :: f, i + 1, h, c => by
  have ih := tm_setC f i (by simpa using h) c
  have e1 : ((t :: f).map tmD).flatMap cellsOf = [I t.c, intsD t.e] ++ (f.map tmD).flatMap cellsOf := rfl
  have e2 : (((t :: f).set (i + 1) ⟨c, (t :: f)[i + 1].e⟩).map tmD).flatMap cellsOf = [I t.c, intsD t.e] ++ ((f.set i ⟨c, (f[i]'(by simpa using h)).e⟩).map tmD).flatMap cellsOf := rfl
  rw [e1, e2, ← ih]
  unfold setMany
  rw [show (i + 1) * 2 = 2 + i * 2 by omega]
  simp only [List.length_singleton, List.cons_append, List.nil_append]
  rw [show 2 + i * 2 = i * 2 + 1 + 1 by omega, List.take_succ_cons, List.take_succ_cons, show i * 2 + 1 + 1 + 1 = (i * 2 + 1) + 1 + 1 by omega, List.drop_succ_cons, List.drop_succ_cons]
  simp
end
section
open Go.RowKit

inductive ResR (P : Program) (e : Env) (H : Heap) : List ResultVar → List D → Prop
 | nil : ResR P e H [] []
 | tmp {t : Tmp} {d : D} {l : List ResultVar} {ds : List D} (h : e.get t = some d) (r : ResR P e H l ds) : ResR P e H (.tmp t :: l) (d :: ds)
 | cell {x : Tmp} {t T0 : TypeId} {b : Nat} {cells : List D} {l : List ResultVar} {ds : List D} (ht : AggT P t cells.length) (h : e.get x = some (.ptr b 0)) (hH : H b = some (T0, cells)) (r : ResR P e H l ds) : ResR P e H (.cell x t :: l) (.agg cells :: ds)

theorem run_cellRes {P : Program} {w : World} {H : Heap} {t T0 : TypeId} {b : Nat} {cells : List D} [AggT P t cells.length] (ho : HOK w H) (hH : H b = some (T0, cells)) : ∃ v, (loadVar t ⟨b, 0, none⟩).run P w = .ok v w ∧ Rep w H v (.agg cells) := by
 obtain ⟨td, inf, hu, hd, hi, hs⟩ := AggT.h (P := P) (t := t) (k := cells.length)
 obtain ⟨cs, hcb, hcl, hcr⟩ := ho b T0 cells hH
 have hvs : ∀ (m : Nat) (v : Value), ((List.range inf.size).map fun m => cs.getD m undef)[m]? = some v → w.cell? ((⟨b, 0, none⟩ : Addr).add m) = some v := fun m v hm => by
  simp only [List.getElem?_map, Option.map_eq_some_iff] at hm
  obtain ⟨m', hm', rfl⟩ := hm
  have hlt : m < inf.size := by
   have := (List.getElem?_eq_some_iff.1 hm').1
   simpa using this
  rw [List.getElem?_range hlt] at hm'
  cases hm'
  have hy : cells[m]? = some (cells[m]'(by omega)) := by simp
  obtain ⟨_, u, hu', _⟩ := hcr m _ hy
  rw [addr_add, cell_of_row w b (0 + m) cs T0 (0, 0) hcb, Nat.zero_add, hu']
  simp [Array.getD_eq_getD_getElem?, hu']
 have hload := run_load_agg hu hd hi w (by simp) hvs
 simp only [Instr.loadAt, Instr.sureAddr, Sem.run_bind, Sem.run_pure, Result.andThen_ok] at hload
 refine ⟨_, hload, RepsA.agg ⟨by simp [hs], fun m y hy => ?_⟩⟩
 have hlt : m < inf.size := by rw [hs]; exact (List.getElem?_eq_some_iff.1 hy).1
 obtain ⟨_, u, hu', hrep⟩ := hcr m y hy
 exact ⟨u, by simp [hlt, Array.getD_eq_getD_getElem?, hu'], hrep⟩

theorem run_resultsR {C : Ctx} {a : Act} {w : World} {e : Env} {H : Heap} (hs : St C a w e H) (fn : Func) {ds : List D} (h : ResR C.P e H fn.results.toList ds) : ∃ v, (results fn a.tmps).run C.P w = .ok v w ∧ Rep w H v (resOne ds) := by
 have key : ∀ (l : List ResultVar) (ds : List D), ResR C.P e H l ds → ∃ vs : List Value, (l.mapM (resSem a.tmps)).run C.P w = .ok vs w ∧ RepsA w H vs.toArray ds := by
  intro l ds h
  induction h with
  | nil => exact ⟨[], by simp, rfl, fun j x hx => by simp at hx⟩
  | @tmp t d l ds hx r ih =>
   obtain ⟨vs, h1, h2⟩ := ih
   obtain ⟨v, hv, hrep⟩ := hs.env t d hx
   have hvd : a.tmps.getD t undef = v := by simp [Array.getD_eq_getD_getElem?, hv]
   refine ⟨v :: vs, ?_, by simpa using h2.1, fun j y hy => ?_⟩
   ·rw [List.mapM_cons]
    simp only [resSem, Sem.run_bind, hvd, Sem.run_pure, Result.andThen_ok, h1]
   ·cases j with
    | zero => simp at hy; subst hy; exact ⟨v, by simp, hrep⟩
    | succ j =>
     obtain ⟨u, hu, hrep'⟩ := h2.2 j y (by simpa using hy)
     exact ⟨u, by simpa using hu, hrep'⟩
  | @cell x t T0 b cells l ds ht hx hH r ih =>
   obtain ⟨vs, h1, h2⟩ := ih
   obtain ⟨v, hv, hrep⟩ := hs.env x _ hx
   have hvp := rep_ptr hrep
   subst hvp
   have hvd : a.tmps.getD x undef = .pointer (some ⟨b, 0, none⟩) := by simp [Array.getD_eq_getD_getElem?, hv]
   obtain ⟨v, hrun, hrep2⟩ := run_cellRes (P := C.P) (t := t) hs.heap hH
   refine ⟨v :: vs, ?_, by simpa using h2.1, fun j y hy => ?_⟩
   ·rw [List.mapM_cons]
    simp only [resSem, Sem.run_bind, hvd, asAddr, Sem.run_pure, Result.andThen_ok, hrun, h1]
   ·cases j with
    | zero => simp at hy; subst hy; exact ⟨v, by simp, hrep2⟩
    | succ j =>
     obtain ⟨u, hu, hrep'⟩ := h2.2 j y (by simpa using hy)
     exact ⟨u, by simpa using hu, hrep'⟩
 obtain ⟨vs, h1, h2⟩ := key fn.results.toList ds h
 have hmap : (fn.results.mapM (resSem a.tmps)).run C.P w = .ok vs.toArray w := by
  rw [← Array.toArray_toList (xs := fn.results), List.mapM_toArray, Sem.run_map, h1]
  rfl
 refine ⟨if h : vs.toArray.size = 1 then vs.toArray[0] else .tuple vs.toArray, ?_, ?_⟩
 ·rw [results_eq]
  simp only [Sem.run_bind, hmap, Result.andThen_ok, Sem.run_pure]
 ·have hlen : vs.length = ds.length := by simpa using h2.1
  match ds, hlen, h2 with
  | [], hlen, h2 =>
   rw [dif_neg (by simp [hlen])]
   exact h2.tup
  | [d], hlen, h2 =>
   rw [dif_pos (by simp [hlen])]
   obtain ⟨u, hu, hr⟩ := h2.2 0 d rfl
   have : vs.toArray[0]'(by simp [hlen]) = u := by
    rw [Array.getElem?_eq_getElem (by simp [hlen])] at hu
    exact Option.some.inj hu
   rw [this]
   exact hr
  | d :: d' :: ds, hlen, h2 =>
   rw [dif_neg (by simp [hlen])]
   exact h2.tup

theorem CallD.of_bodyR {P : Program} {H : Heap} {f : FuncId} {fn : Func} {c : Code} {ds : List D} {K : D → Heap → Prop} (hf : P.funcs[f]? = some fn) (hb : fn.body = some c) (hn : (fn.name == "runtime.NumGoroutine") = false) (hds : ds.length ≤ fn.ntmps)
  (h : ∀ w0 : World, DW ⟨P, fn.ntmps, w0, H⟩ c (argEnv 0 ds) H fun x e H' => (x = .ret ∨ x = .normal) ∧ ∃ rs d H'', ResR P e H' fn.results.toList rs ∧ H''.sub H' ∧ Frz H' H'' (resOne rs) d ∧ K d H'') : CallD P H f ds K := by
 refine ⟨⟨fn, hf, hn, by rw [hb]; rfl⟩, fun w args ho ha => ?_⟩
 refine calls_of_marks hf hb ?_
 have hst : St ⟨P, fn.ntmps, w, H⟩ { tmps := args ++ Array.replicate (fn.ntmps - args.size) undef, defers := [] } w (argEnv 0 ds) H := by
  refine ⟨by simp [ha.1]; omega, trivial, fun t d hd => ?_, ho, .refl _ _⟩
  obtain ⟨_, hd'⟩ := argEnv_get ds 0 t d hd
  obtain ⟨v, hv, hr⟩ := ha.2 t d (by simpa using hd')
  exact ⟨v, by rw [Array.getElem?_append_left (Array.getElem?_eq_some_iff.1 hv).1]; exact hv, hr⟩
 refine wp_mono ((h w).go _ w hst) fun x a' w' hx => ?_
 obtain ⟨e', H', ⟨hxx, rs, d, H'', hres, hsub, hfrz, hK⟩, s⟩ := hx
 refine ⟨hxx, s.defers, fun w2 hsh => ?_⟩
 have s := s.shut hsh
 obtain ⟨v, hrun, hrep⟩ := run_resultsR s fn hres
 exact ⟨v, hrun, v, d, H'', rfl, hK, Rep.frz s.heap hsub hfrz hrep, s.heap.sub hsub, s.ext.sub hsub⟩

theorem PureH.of_bodyR {P : Program} {H : Heap} {f : FuncId} {fn : Func} {c : Code} {ds : List D} {d : D} (hf : P.funcs[f]? = some fn) (hb : fn.body = some c) (hn : (fn.name == "runtime.NumGoroutine") = false) (hds : ds.length ≤ fn.ntmps)
  (h : ∀ w0 : World, DW ⟨P, fn.ntmps, w0, H⟩ c (argEnv 0 ds) H fun x e H' => (x = .ret ∨ x = .normal) ∧ ∃ rs, ResR P e H' fn.results.toList rs ∧ Over H H' ∧ Frz H' H (resOne rs) d) : PureH P H f ds d := by
 have := CallD.of_bodyR (K := fun d' H' => d' = d ∧ H' = H) hf hb hn hds (H := H) fun w0 => (h w0).mono fun x e H' ⟨h1, rs, h2, h3, h4⟩ => ⟨h1, rs, d, H, h2, h3, h4, rfl, rfl⟩
 exact ⟨this.body, fun w args ho ha => (this.calls w args ho ha).mono fun en w' ⟨v, d', H', h1, ⟨h2, h3⟩, h4, h5, h6⟩ => by subst h2; subst h3; exact ⟨v, h1, h4, h5, h6⟩⟩

theorem Frz.row {H H' : Heap} {b k n : Nat} {l : List D} {T : TypeId} {cells : List D} (hH : H b = some (T, cells)) (hn : H' b = none) (hu : Uni k l) (hl : n = l.length) (hc : (l.flatMap cellsOf).length = cells.length)
  (h : ∀ (j : Nat) (x y : D), cells[j]? = some x → (l.flatMap cellsOf)[j]? = some y → Frz H H' x y) : Frz H H' (.ref b 0 n k) (.list k l) := by
 subst hl
 exact .ref hH hn (fun i d hd => (hu d (List.mem_of_getElem? hd)).1) hc h
end
section
open Go.RowKit
end
section
open Go.RowKit
end
section
open Go.RowKit

structure RowsOk (D0 : Nat → Prop) (H : Heap) (bL : Nat) (T E : TypeId) (k : Nat) (ls : List (List D)) (ds : List D) : Prop where
 row : H bL = some (T, ds)
 len : ds.length = ls.length
 is : ∀ (j : Nat) (h : j < ds.length) (h2 : j < ls.length), Uni k ls[j] ∧ ((ds[j] = .nil ∧ ls[j] = []) ∨ ∃ b, ¬ D0 b ∧ b ≠ bL ∧ ds[j] = .ref b 0 ls[j].length k ∧ H b = some (E, ls[j].flatMap cellsOf))
 dist : ∀ (i j : Nat) (h1 : i < ds.length) (h2 : j < ds.length), i ≠ j → ∀ b, ds[i].blk = some b → ds[j].blk ≠ some b

theorem RowsOk.init {D0 : Nat → Prop} {H : Heap} {bL : Nat} {T E : TypeId} {k n : Nat} (h : H bL = some (T, List.replicate n .nil)) : RowsOk D0 H bL T E k (List.replicate n []) (List.replicate n .nil) :=
 ⟨h, by simp, fun j h1 h2 => by
  rw [List.getElem_replicate, List.getElem_replicate]
  exact ⟨Uni.nil k, .inl ⟨rfl, rfl⟩⟩, fun i j h1 h2 _ b hb => by rw [List.getElem_replicate] at hb; cases hb⟩

theorem RowsOk.over {D0 : Nat → Prop} {H H' : Heap} {bL : Nat} {T E : TypeId} {k : Nat} {ls : List (List D)} {ds : List D} (h : RowsOk D0 H bL T E k ls ds) (ho : Over H H') : RowsOk D0 H' bL T E k ls ds :=
 ⟨ho _ _ h.row, h.len, fun j h1 h2 => ⟨(h.is j h1 h2).1, (h.is j h1 h2).2.imp id fun ⟨b, c1, c2, c3, c4⟩ => ⟨b, c1, c2, c3, ho _ _ c4⟩⟩, h.dist⟩

theorem RowsOk.frame {D0 : Nat → Prop} {H H' : Heap} {bL : Nat} {T E : TypeId} {k : Nat} {ls : List (List D)} {ds : List D} (h : RowsOk D0 H bL T E k ls ds) (ho : ∀ c z, H c = some z → (c = bL ∨ ¬ D0 c) → H' c = some z) : RowsOk D0 H' bL T E k ls ds :=
 ⟨ho _ _ h.row (.inl rfl), h.len, fun j h1 h2 => ⟨(h.is j h1 h2).1, (h.is j h1 h2).2.imp id fun ⟨b, c1, c2, c3, c4⟩ => ⟨b, c1, c2, c3, ho _ _ c4 (.inr c1)⟩⟩, h.dist⟩

theorem RowsOk.blk {D0 : Nat → Prop} {H : Heap} {bL : Nat} {T E : TypeId} {k : Nat} {ls : List (List D)} {ds : List D} (h : RowsOk D0 H bL T E k ls ds) {j b : Nat} (h1 : j < ds.length) (hb : ds[j].blk = some b) : ¬ D0 b ∧ b ≠ bL ∧ H b ≠ none := by
 have hlen := h.len
 rcases (h.is j h1 (by omega)).2 with ⟨c1, _⟩ | ⟨b', c1, c2, c3, c4⟩
 ·rw [c1] at hb; cases hb
 ·rw [c3] at hb; cases hb; exact ⟨c1, c2, by rw [c4]; simp⟩

theorem Acc.cell {H0 H : Heap} {d : D} {k : Nat} {T : TypeId} {l : List D} (h : Acc H0 H d k T l) : cellsOf d = [d] ∧ d.isCell = true := by
 rcases h.is with ⟨rfl, _⟩ | ⟨b, _, rfl, _⟩ <;> exact ⟨rfl, rfl⟩

def butBlk (H : Heap) (d : D) : Heap := fun c => if d.blk = some c then none else H c

theorem butBlk_over (H : Heap) (d : D) : Over (butBlk H d) H := fun c x h => by
 unfold butBlk at h
 split at h
 ·cases h
 ·exact h

theorem RowsOk.acc {D0 : Nat → Prop} {H : Heap} {bL : Nat} {T E : TypeId} {k : Nat} {ls : List (List D)} {ds : List D} (h : RowsOk D0 H bL T E k ls ds) {j : Nat} (h1 : j < ds.length) (h2 : j < ls.length) : Acc (butBlk H ds[j]) H ds[j] k E ls[j] := by
 obtain ⟨u, hi⟩ := h.is j h1 h2
 refine ⟨u, hi.imp id fun ⟨b, c1, c2, c3, c4⟩ => ⟨b, ?_, c3, c4⟩⟩
 unfold butBlk
 rw [c3]
 exact if_pos rfl

theorem RowsOk.put {D0 : Nat → Prop} {H H' B : Heap} {bL : Nat} {T E : TypeId} {k : Nat} {ls : List (List D)} {ds : List D} (h : RowsOk D0 H bL T E k ls ds) (hD : ∀ c, D0 c → H c ≠ none) {a : Nat} (ha : a < ds.length) {d' : D} {l' : List D}
  (hacc : Acc B H' d' k E l') (hB : ∀ b, B b = none → H b = none ∨ ds[a].blk = some b) (hkeep : ∀ c z, H c = some z → ds[a].blk ≠ some c → H' c = some z) : RowsOk D0 (H'.set bL (T, ds.set a d')) bL T E k (ls.set a l') (ds.set a d') := by
 have hlen := h.len
 have hown : ∀ b, ds[a].blk = some b → ¬ D0 b ∧ b ≠ bL := fun b hb => by
  rcases (h.is a ha (by omega)).2 with ⟨c1, _⟩ | ⟨b', c1, c2, c3, _⟩
  ·rw [c1] at hb; cases hb
  ·rw [c3] at hb; cases hb; exact ⟨c1, c2⟩
 have hnew : ∀ b, d'.blk = some b → ¬ D0 b ∧ b ≠ bL ∧ ∀ (j : Nat) (hj : j < ds.length), j ≠ a → ds[j].blk ≠ some b := fun b hb => by
  have hBb : B b = none := by
   rcases hacc.is with ⟨c1, _⟩ | ⟨b', c1, c2, _⟩
   ·rw [c1] at hb; cases hb
   ·rw [c2] at hb; cases hb; exact c1
  rcases hB b hBb with hn | ho
  ·refine ⟨fun hd => hD b hd hn, (fun he => by rw [he, h.row] at hn; cases hn), fun j hj _ hbl => ?_⟩
   rcases (h.is j hj (by omega)).2 with ⟨c1, _⟩ | ⟨b', c1, c2, c3, c4⟩
   ·rw [c1] at hbl; cases hbl
   ·rw [c3] at hbl; cases hbl; rw [c4] at hn; cases hn
  ·exact ⟨(hown b ho).1, (hown b ho).2, fun j hj hja hbl => h.dist a j ha hj (fun e => hja e.symm) b ho hbl⟩
 refine ⟨Heap.set_self _ _ _, by simp [hlen], fun j h1 h2 => ?_, fun i j h1 h2 hij b hb => ?_⟩
 ·have h1' : j < ds.length := by simpa using h1
  have h2' : j < ls.length := by simpa using h2
  rw [List.getElem_set, List.getElem_set]
  by_cases hja : a = j
  ·subst hja
   rw [if_pos rfl, if_pos rfl]
   refine ⟨hacc.uni, hacc.is.imp id fun ⟨b, c1, c2, c3⟩ => ?_⟩
   have := hnew b (by rw [c2]; rfl)
   exact ⟨b, this.1, this.2.1, c2, by rw [Heap.set_other _ _ this.2.1]; exact c3⟩
  ·rw [if_neg hja, if_neg hja]
   refine ⟨(h.is j h1' h2').1, (h.is j h1' h2').2.imp id fun ⟨b, c1, c2, c3, c4⟩ => ⟨b, c1, c2, c3, ?_⟩⟩
   rw [Heap.set_other _ _ c2]
   exact hkeep b _ c4 fun ho => h.dist a j ha h1' hja b ho (by rw [c3]; rfl)
 ·have h1' : i < ds.length := by simpa using h1
  have h2' : j < ds.length := by simpa using h2
  rw [List.getElem_set] at hb
  rw [List.getElem_set]
  by_cases hia : a = i
  ·subst hia
   rw [if_pos rfl] at hb
   rw [if_neg hij]
   exact (hnew b hb).2.2 j h2' (fun e => hij e.symm)
  ·rw [if_neg hia] at hb
   by_cases hja : a = j
   ·subst hja
    rw [if_pos rfl]
    exact fun hb' => (hnew b hb').2.2 i h1' (fun e => hia e.symm) hb
   ·rw [if_neg hja]
    exact h.dist i j h1' h2' hij b hb

theorem RowsOk.frz {D0 : Nat → Prop} {H H1 : Heap} {bL : Nat} {T E : TypeId} {k n : Nat} {ls : List (List D)} {ds : List D} (h : RowsOk D0 H bL T E k ls ds) (hn : n = ls.length) (hL : H1 bL = none) (hb : ∀ b, ¬ D0 b → H1 b = none) : Frz H H1 (.ref bL 0 n 1) (.list 1 (ls.map (.list k))) := by
 have hu : ∀ l : List (List D), (l.map (D.list k)).flatMap cellsOf = l.map (D.list k) := fun l => flat_cells1 (fun _ => rfl) l
 refine Frz.row h.row hL (uni_map1 (fun _ => rfl) (fun _ => rfl) ls) (by simp [hn]) (by rw [hu, List.length_map]; exact h.len.symm) fun j x y hx hy => ?_
 rw [hu] at hy
 have hj : j < ds.length := (List.getElem?_eq_some_iff.1 hx).1
 have hj2 : j < ls.length := by rw [← h.len]; exact hj
 rw [List.getElem?_eq_getElem hj] at hx
 rw [List.getElem?_map, List.getElem?_eq_getElem hj2] at hy
 cases hx; cases hy
 obtain ⟨u, hi⟩ := h.is j hj hj2
 rcases hi with ⟨c1, c2⟩ | ⟨b, c1, c2, c3, c4⟩
 ·rw [c1, c2]; exact .nil k
 ·rw [c3]; exact Frz.list c4 (hb b c1) u rfl

theorem DW.asH {C : Ctx} {c : Code} {e : Env} {H : Heap} {Q : Post} (R : Heap → Prop) (hR : R H) (h : ∀ H2, R H2 → DW C c e H2 Q) : DW C c e H Q := h H hR
theorem RO.asH {C : Ctx} {ops rest : List Oper} {e : Env} {H : Heap} {K : Env → Heap → Prop} (R : Heap → Prop) (hR : R H) (h : ∀ H2, R H2 → RO C ops rest e H2 K) : RO C ops rest e H K := h H hR
end
section
open Go.RowKit

section
variable {P : Program} {H : Heap} {e : Env} {dst : Option Tmp} {ty : TypeId} {pos : String} {af : Array Edge} {gd : Option (Nat × Bool)}

end
end
section
open Go.RowKit

section
variable {P : Program} {H : Heap} {e : Env} {dst : Option Tmp} {ty : TypeId} {pos : String} {af : Array Edge} {gd : Option (Nat × Bool)}

theorem s_nilCheck {x : Operand} {b off : Nat} (hx : e.ev x = some (.ptr b off)) : Sta P H e ⟨dst, .nilCheck x, ty, pos, af, gd⟩ (.ptr b off) := .mk fun ρ w ha ho => by
 have h := rep_ptr (ha x _ hx)
 simp [OpTo, execOp, h, Sem.run]
 exact ⟨.ptr _ _, ho, .refl _ _⟩

theorem s_uint {t u : TypeId} {x : Operand} {n : Nat} (hu : P.underlying u = some (.int .u64)) (ht : P.underlying t = some (.int .i64)) (hx : e.ev x = some (I n)) (hn : n < 1000000) :
  Sta P H e ⟨dst, .convert t u x, ty, pos, af, gd⟩ (.int .u64 n) := .mk fun ρ w ha ho => by
 have h1 := rep_int (ha x _ hx)
 have hw : IntKind.u64.wrap (n : Int) = n := by
  simp [IntKind.wrap, IntKind.signed, IntKind.bits]
  omega
 simp [OpTo, execOp, h1, convert, run_underlying hu, run_underlying ht, Conv.intToInt, hw, Sem.run]
 exact ⟨.int _ _, ho, .refl _ _⟩

theorem s_appendNone {t E : TypeId} {x y : Operand} {b off n k bytes : Nat} {zd : List D} [SliceT P t E] [ElT P E k zd bytes] (hx : e.ev x = some (.ref b off n k)) (hy : e.ev y = some (.list k [])) :
  Sta P H e ⟨dst, .call ⟨.builtin .append, #[x, y], #[t, t]⟩, ty, pos, af, gd⟩ (.ref b off n k) := .mk fun ρ w ha ho => by
 obtain ⟨inf, z, hi, hz1, hz2, hz3⟩ := (ElT.z (P := P) (E := E) (k := k) (zd := zd) (bytes := bytes)).is
 have hu := SliceT.h (P := P) (t := t) (E := E)
 have h := ha x _ hx
 have h' := ha y _ hy
 generalize hv : ρ x = v at h
 generalize hv' : ρ y = v' at h'
 generalize hl : ([] : List D) = l' at h'
 cases h with
 | ref hb hs hlc hcm =>
  rename_i cap cs T
  cases h' with
  | list vals hc hm h1 h2 h3 =>
   subst hl
   rename_i a c
   have hr : (Builtin.append_ #[t, t] ty #[.slice (some ⟨b, off, none⟩) n cap, .slice a 0 c]).run P w = .ok (.slice (some ⟨b, off, none⟩) n cap) w := by
    cases a <;> simp [Builtin.append_, run_underlying hu, run_sizeOf hi, Builtin.lenOf, hlc, Builtin.firstCells, loadCells, loadCellsFrom, storeCells]
   have hv0 : ρ y = Value.slice a 0 c := hv'
   rw [← hv, ← hv0] at hr
   simp only [OpTo, run_exec_append hr]
   rw [hv]
   exact ⟨.ref hb hs hlc hcm, ho, .refl _ _⟩

end

def DeadOp (P : Program) (H : Heap) (e : Env) (o : Oper) : Prop := ∀ (ρ : Operand → Value) (w : World), Agree ρ w H e → HOK w H → OpTo P ρ o w fun _ w' => w' = w

theorem St.dead {C : Ctx} {a : Act} {w : World} {e l : Env} {H : Heap} {s : Nat} (h : St C a w e H) (hl : Has e l) (hs : ∀ t d, l.get t = some d → t ≠ s) (v : Value) : St C (a.put (some s) v) w l H := by
 refine ⟨by simp [Act.put, h.size], h.defers, fun t x hx => ?_, h.heap, h.ext⟩
 obtain ⟨u, hu, hr⟩ := h.env t x (hl.get hx)
 refine ⟨u, ?_, hr⟩
 simp only [Act.put]
 rw [Array.getElem?_setIfInBounds, if_neg (fun hh => hs t x hx hh.symm)]
 exact hu

theorem RO.soundD {C : Ctx} {ops : List Oper} {o0 : Oper} {s : Nat} {l : Env} {K : Env → Heap → Prop} {Q : Exit → Act → World → Prop} (hg0 : o0.guard = none) (hd0 : o0.dst = some s) (hs : ∀ t d, l.get t = some d → t ≠ s)
  (hQ : ∀ H a w, K l H → St C a w l H → Q .normal a w) :
  ∀ (r : List Oper) (e : Env) (H : Heap) (a : Act) (w : World), RO C ops r e H (fun e' H' => DeadOp C.P H' e' o0 ∧ Has e' l ∧ K l H') → St C a w e H → wpList C.P ops.toArray Q (r ++ [o0]) a w
 | [], e, H, a, w, ⟨h1, h2, h3⟩, hst => by
  refine wpList_step fun L hL => ?_
  simp only [Region.wanted, hg0, if_true]
  refine wp_of_opTo (h1 a.eval w hst.agree hst.heap) fun v w' hw => hL _ _ (wpList_nil (hQ H _ _ h3 ?_))
  subst hw
  rw [hd0]
  exact hst.dead h2 hs v
 | o :: rest, e, H, a, w, h, hst => by
  obtain ⟨hd, hg⟩ := h
  have yes : (OpD C.P H e o fun d H' => RO C ops rest (e.putO o.dst d) H' _) → ∀ L : Act → World → Prop, (∀ a w, wpList C.P ops.toArray Q (rest ++ [o0]) a w → L a w) → o.wp C.P a w L Q := fun hop L hL =>
   wp_of_opTo (hop.go a.eval w hst.agree hst.heap) fun v w' ⟨d, H', hk, hr, ho, he⟩ => hL _ _ (RO.soundD hg0 hd0 hs hQ rest _ H' _ w' hk (hst.put hd hr ho he))
  have no : RO C ops rest (e.putO o.dst (.tup [])) H _ → wpList C.P ops.toArray Q (rest ++ [o0]) (a.put o.dst undef) w := fun hk =>
   RO.soundD hg0 hd0 hs hQ rest _ H _ w hk (hst.put hd (RepsA.tup (vs := #[]) (ds := []) ⟨rfl, fun j x hx => by simp at hx⟩) hst.heap (.refl _ _))
  refine wpList_step fun L hL => ?_
  unfold GuardIs at hg
  cases hgu : o.guard with
  | none =>
   rw [hgu] at hg
   simp only [Region.wanted, hgu, if_true]
   exact yes hg L hL
  | some jw =>
   obtain ⟨j, want⟩ := jw
   rw [hgu] at hg
   obtain ⟨b, hb, h1, h2⟩ := hg
   have hy := guard_yielded hst hb
   by_cases hbw : b = some want
   ·rw [if_pos (by simp only [Region.wanted, hgu, hy, hbw]; exact beq_self_eq_true _)]
    exact yes (h1 hbw) L hL
   ·rw [if_neg (by simp only [Region.wanted, hgu, hy]; intro hx; exact hbw (by simpa using hx))]
    exact hL _ _ (no (h2 hbw))

theorem DW.regionDead {C : Ctx} {e : Env} {H : Heap} {Q : Post} {id : Nat} {ops : List Oper} (n : Nat) {o0 : Oper} {s : Nat} (l : Env) (hops : ops = ops.take n ++ [o0]) (hg0 : o0.guard = none) (hd0 : o0.dst = some s) (hs : ∀ t d, l.get t = some d → t ≠ s)
  (h : RO C ops (ops.take n) e H fun e' H' => DeadOp C.P H' e' o0 ∧ Has e' l ∧ Q .normal l H') : DW C (.region id ops.toArray false) e H Q := .mk fun a w hst =>
 wp_region_lit (by
  have := RO.soundD (Q := lift C Q) (K := fun l H => Q .normal l H) hg0 hd0 hs (fun H' a' w' hk hs' => ⟨l, H', hk, hs'⟩) (ops.take n) e H a w h hst
  rw [← hops] at this
  exact this)

section
variable {P : Program} {H : Heap} {e : Env} {dst : Option Tmp} {ty : TypeId} {pos : String} {af : Array Edge} {gd : Option (Nat × Bool)}

theorem run_exec_clear {ρ : Operand → Value} {w w' : World} {t : TypeId} {x : Operand} {v : Value} (h : (Builtin.clear_ #[t] ty #[ρ x]).run P w = .ok v w') :
  (execOp ρ ⟨dst, .call ⟨.builtin .clear, #[x], #[t]⟩, ty, pos, af, gd⟩).run P w = .ok (.value v) w' := by
 simp [execOp, resolve, invoke, builtin, h, Sem.run_bind]

theorem s_eqNilRef {t t2 E : TypeId} {x : Operand} {k b off n bytes : Nat} {zd : List D} [SliceT P t E] [ElT P E k zd bytes] (hx : e.ev x = some (.ref b off n k)) :
  Sta P H e ⟨dst, .binOp .eql t x (.const (.slice none 0 0)) t2, ty, pos, af, gd⟩ (.bool false) := .mk fun ρ w ha ho => by
 have h := ha x _ hx
 have hc := ha.const (.slice none 0 0)
 generalize hv : ρ x = v at h
 cases h with
 | ref hb hs hl hcm =>
  rename_i cap cs T
  have hr := Lib.run_eql_slice_nil (P := P) w t E (some ⟨b, off, none⟩) n cap 0 0 SliceT.h
  simp only [OpTo, execOp, hv, hc, eqGuard, Sem.run_bind, Sem.run_pure]
  simp [hr]
  exact ⟨.bool _, ho, .refl _ _⟩

end
end
section
open Go.RowKit

section
variable {R : Nat → Nat → Prop}

def D.closed : D → Bool
 | .int _ _ | .bool _ | .str _ | .nil => true
 | .ref .. | .ptr .. => false
 | .list _ l => closedL l
 | .agg l => closedL l
 | .ipt _ l _ _ => closedL l
 | .fn _ l => closedL l
 | .tup l => closedL l
where closedL : List D → Bool
 | [] => true
 | d :: l => d.closed && closedL l

end
end
section
open Go.RowKit

section
variable {P : Program} {H : Heap} {e : Env} {dst : Option Tmp} {ty : TypeId} {pos : String} {af : Array Edge} {gd : Option (Nat × Bool)}

theorem sta_slice_ref {t E T : TypeId} {inf : TypeInfo} {x : Operand} {lo hi : Option Operand} {b off n k a c : Nat} {cells : List D} (hu : P.underlying t = some (.slice E)) (hi' : P.info? E = some inf) (hs : inf.size = k) (hk : 0 < k)
  (hx : e.ev x = some (.ref b off n k)) (hlo : boundD e lo 0 = some a) (hhi : boundD e hi n = some c) (hac : a ≤ c) (hc : c ≤ n ∨ (H b = some (T, cells) ∧ off + c * k ≤ cells.length)) (hlt : a < c ∨ a < n) :
  Sta P H e ⟨dst, .slice t x lo hi none, ty, pos, af, gd⟩ (.ref b (off + a * k) (c - a) k) := .mk fun ρ w ha ho => by
 have h := ha x _ hx
 generalize hv : ρ x = v at h
 cases h with
 | ref hb hsz hl hcm =>
  rename_i cap cs T'
  have hcap : c ≤ cap := by
   rcases hc with hc | ⟨hH, hlen⟩
   ·omega
   ·obtain ⟨cs', hb', hlen', _⟩ := ho b T cells hH
    rw [hb] at hb'
    cases hb'
    have : c * k ≤ cap * k := by omega
    exact Nat.le_of_mul_le_mul_right this hk
  have hbd := run_sliceBounds (P := P) (w := w) ha hlo hhi hac hcap
  have hne : ¬ cap = a := by omega
  have hr : (Instr.sliceAt t (.slice (some ⟨b, off, none⟩) n cap) (lo.map ρ) (hi.map ρ) none).run P w = .ok (.slice (some ⟨b, off + a * k, none⟩) (c - a) (cap - a)) w := by
   simp only [Instr.sliceAt, Instr.slice, Sem.run_bind, run_underlying hu, Result.andThen_ok]
   simp [hbd, run_sizeOf hi', hne, addr_add, hs]
  simp only [OpTo, execOp, hv, Sem.run_bind]
  simp only [Option.map_none] at hr ⊢
  rw [hr]
  simp only [Result.andThen_ok, Sem.run_pure]
  refine ⟨.ref hb ?_ (by omega) (by omega), ho, .refl _ _⟩
  rw [← hsz, Nat.add_assoc, ← Nat.add_mul]
  congr 2
  omega

theorem sta_slice_end {t E : TypeId} {inf : TypeInfo} {x : Operand} {lo hi : Option Operand} {b off n k : Nat} (hu : P.underlying t = some (.slice E)) (hi' : P.info? E = some inf)
  (hx : e.ev x = some (.ref b off n k)) (hlo : boundD e lo 0 = some n) (hhi : boundD e hi n = some n) :
  Sta P H e ⟨dst, .slice t x lo hi none, ty, pos, af, gd⟩ (.list k []) := .mk fun ρ w ha ho => by
 have h := ha x _ hx
 generalize hv : ρ x = v at h
 cases h with
 | ref hb hsz hl hcm =>
  rename_i cap cs T'
  have hbd := run_sliceBounds (P := P) (w := w) ha hlo hhi (Nat.le_refl _) hl
  have hr : ∃ a, (Instr.sliceAt t (.slice (some ⟨b, off, none⟩) n cap) (lo.map ρ) (hi.map ρ) none).run P w = .ok (.slice a 0 (cap - n)) w := by
   simp only [Instr.sliceAt, Instr.slice, Sem.run_bind, run_underlying hu, Result.andThen_ok]
   simp [hbd, run_sizeOf hi']
  obtain ⟨a, hr⟩ := hr
  simp only [OpTo, execOp, hv, Sem.run_bind]
  simp only [Option.map_none] at hr ⊢
  rw [hr]
  simp only [Result.andThen_ok, Sem.run_pure]
  exact ⟨Rep.list_nil _ _ _ (by omega), ho, .refl _ _⟩

theorem dead_slice {t E : TypeId} {inf : TypeInfo} {x lo hi mx : Operand} {b off n k a c m : Nat} (hu : P.underlying t = some (.slice E)) (hi' : P.info? E = some inf) (hx : e.ev x = some (.ref b off n k))
  (h0 : e.ev lo = some (I a)) (h1 : e.ev hi = some (I c)) (h2 : e.ev mx = some (I m)) (hac : a ≤ c) (hcm : c ≤ m) (hmn : m ≤ n) :
  DeadOp P H e ⟨dst, .slice t x (some lo) (some hi) (some mx), ty, pos, af, gd⟩ := fun ρ w ha ho => by
 have h := ha x _ hx
 have e0 := rep_int (ha lo _ h0)
 have e1 := rep_int (ha hi _ h1)
 have e2 := rep_int (ha mx _ h2)
 generalize hv : ρ x = v at h
 cases h with
 | ref hb hs hl hcm' =>
  rename_i cap cs T'
  have hl' : (m : Int) ≤ (cap : Int) := by omega
  have hl2 : (c : Int) ≤ (m : Int) := by omega
  have hl3 : (a : Int) ≤ (c : Int) := by omega
  have hl4 : m ≤ cap := by omega
  simp [OpTo, execOp, hv, e0, e1, e2, Instr.sliceAt, Instr.slice, Instr.sliceBounds, Instr.sliceBound, asIntOf, run_underlying hu, run_sizeOf hi', hl, hl', hl2, hl3, hl4, hac, hcm]

theorem opD_clearAt {t E T : TypeId} {x : Operand} {b off k : Nat} {cells zd : List D} {K : D → Heap → Prop} (hu : P.underlying t = some (.slice E)) (hz : ZeroOf P E k zd) (hx : e.ev x = some (.ref b off 1 k)) (hH : H b = some (T, cells)) (hl : off + k ≤ cells.length)
  (hK : K (.tup []) (H.set b (T, setMany cells off zd))) :
  OpD P H e ⟨dst, .call ⟨.builtin .clear, #[x], #[t]⟩, ty, pos, af, gd⟩ K := .mk fun ρ w ha ho => by
 obtain ⟨inf, z, hi, hz1, hz2, hz3⟩ := hz.is
 have h := ha x _ hx
 generalize hv : ρ x = v at h
 cases h with
 | ref hb hs hlc hcm =>
  rename_i cap cs T'
  obtain ⟨cs', hb', hlen, hcs⟩ := ho b T cells hH
  rw [hb] at hb'
  cases hb'
  have hzc : (Builtin.zeroCells z.cells 1).toList = zd.map litV := by
   have : Builtin.zeroCells z.cells 1 = z.cells := by
    apply Array.ext
    ·simp [Builtin.zeroCells]
    ·intro i h1 h2
     simp [Builtin.zeroCells, Nat.mod_eq_of_lt h2, h2]
   rw [this, hz3]
  have hone : ∀ v ∈ zd.map litV, v.oneCell' = true := fun v hv => by
   obtain ⟨d, hd, rfl⟩ := List.mem_map.1 hv
   have := List.all_eq_true.1 hz.lit d hd
   exact (rep_lit w H this).oneCell (litOk_cell this)
  have hzl := hz.len
  have hst := run_storeCells_at P b off T (zd.map litV) 0 cs w hb (by simp [hzl]; omega) hone
  simp only [Nat.add_zero, List.length_map, hzl] at hst
  have hrun : (Builtin.clear_ #[t] ty #[.slice (some ⟨b, off, none⟩) 1 cap]).run P w = .ok (.tuple #[]) (w.setRow b (cs.toList.take off ++ zd.map litV ++ cs.toList.drop (off + k)).toArray) := by
   simp [Builtin.clear_, run_underlying hu, run_zeroValue hi hz1, hzc, hst]
  rw [← hv] at hrun
  simp only [OpTo, run_exec_clear hrun]
  refine ⟨_, _, hK, RepsA.tup (vs := #[]) (ds := []) ⟨rfl, fun j x h => by simp at h⟩, ?_⟩
  refine ext_setCells ho hH hb (by simp [hzl]; omega) (by rw [setMany_length (by omega)]; simp [hzl]; omega) fun j y hy => ?_
  have hjl : j < cells.length := by
   have := (List.getElem?_eq_some_iff.1 hy).1
   rwa [setMany_length (by omega)] at this
  rw [List.getElem?_toArray]
  unfold setMany at hy
  have htl : (cs.toList.take off).length = off := by rw [List.length_take]; simp; omega
  have htl2 : (cells.take off).length = off := by rw [List.length_take]; omega
  by_cases h1 : j < off
  ·rw [List.append_assoc, List.getElem?_append_left (by rw [htl2]; exact h1), List.getElem?_take, if_pos h1] at hy
   rw [List.append_assoc, List.getElem?_append_left (by rw [htl]; exact h1), List.getElem?_take, if_pos h1]
   obtain ⟨h2, v, hv', hr⟩ := hcs j y hy
   exact ⟨h2, v, by simpa using hv', hr⟩
  ·by_cases h2 : j < off + k
   ·rw [List.append_assoc, List.getElem?_append_right (by rw [htl2]; omega), List.getElem?_append_left (by rw [htl2]; omega), htl2] at hy
    rw [List.append_assoc, List.getElem?_append_right (by rw [htl]; omega), List.getElem?_append_left (by rw [htl]; simp; omega), htl, List.getElem?_map, hy]
    have hlo := List.all_eq_true.1 hz.lit y (List.mem_of_getElem? hy)
    exact ⟨litOk_cell hlo, litV y, rfl, rep_lit w H hlo⟩
   ·rw [List.getElem?_append_right (by rw [List.length_append, htl2]; omega), List.length_append, htl2, List.getElem?_drop, hzl] at hy
    rw [List.getElem?_append_right (by rw [List.length_append, htl]; simp; omega), List.length_append, htl, List.length_map, List.getElem?_drop, hzl]
    have he : off + k + (j - (off + k)) = j := by omega
    rw [he] at hy ⊢
    obtain ⟨h2, v, hv', hr⟩ := hcs j y hy
    exact ⟨h2, v, by simpa using hv', hr⟩

theorem opD_appendIn {t E T : TypeId} {inf : TypeInfo} {x y : Operand} {b n k : Nat} {cells xs : List D} {K : D → Heap → Prop} (hu : P.underlying t = some (.slice E)) (hi : P.info? E = some inf) (hs : inf.size = k) (hk : 0 < k) (hT : T = E)
  (hx : e.ev x = some (.ref b 0 n k)) (hH : H b = some (T, cells)) (hsrc : ∀ (ρ : Operand → Value) (w : World), Agree ρ w H e → HOK w H → NewsOf w H (ρ y) k xs) (hxs : Uni k xs) (hne : xs ≠ []) (hfit : n * k + xs.length * k ≤ cells.length)
  (hK : K (.ref b 0 (n + xs.length) k) (H.set b (T, setMany cells (n * k) (xs.flatMap cellsOf)))) :
  OpD P H e ⟨dst, .call ⟨.builtin .append, #[x, y], #[t, t]⟩, ty, pos, af, gd⟩ K := .mk fun ρ w ha ho => by
 subst hT
 have h := ha x _ hx
 obtain ⟨a, c, news, hv1, hnl, hnw, hn1, hnr⟩ := (hsrc ρ w ha ho).2 hne
 generalize hv : ρ x = v at h
 cases h with
 | ref hb hsz hlc hcm =>
  rename_i cap cs T'
  obtain ⟨cs', hb', hlen, hcs⟩ := ho b T cells hH
  rw [hb] at hb'
  cases hb'
  have hcapk : cap * k = cs.size := by omega
  have hroom : n + xs.length ≤ cap := by
   have : (n + xs.length) * k ≤ cap * k := by rw [Nat.add_mul]; omega
   exact Nat.le_of_mul_le_mul_right this hk
  have hrun := run_append_room (P := P) w t ty T inf hu hi b n cap cs hb a xs.length c news (by rw [hs]; exact hnl) hnw hn1 hroom (by rw [hs, hnl]; omega)
  rw [← hv, ← hv1] at hrun
  rw [hs, hnl] at hrun
  simp only [OpTo, run_exec_append hrun]
  have htl : (cs.toList.take (n * k)).length = n * k := by rw [List.length_take]; simp; omega
  have htl2 : (cells.take (n * k)).length = n * k := by rw [List.length_take]; omega
  have hfl := hxs.length
  refine ⟨_, _, hK, .ref (setRow_heap w b cs _ T (0, 0) hb) (by simp [hnl]; omega) hroom hcm, ?_⟩
  refine ext_setCells ho hH hb (by simp [hnl]; omega) (by rw [setMany_length (by rw [hfl]; omega)]; simp [hnl]; omega) fun j y hy => ?_
  have hjl : j < cells.length := by
   have := (List.getElem?_eq_some_iff.1 hy).1
   rwa [setMany_length (by rw [hfl]; omega)] at this
  rw [List.getElem?_toArray]
  unfold setMany at hy
  by_cases h1 : j < n * k
  ·rw [List.append_assoc, List.getElem?_append_left (by rw [htl2]; exact h1), List.getElem?_take, if_pos h1] at hy
   rw [List.append_assoc, List.getElem?_append_left (by rw [htl]; exact h1), List.getElem?_take, if_pos h1]
   obtain ⟨h2, v, hv', hr⟩ := hcs j y hy
   exact ⟨h2, v, by simpa using hv', hr⟩
  ·by_cases h2 : j < n * k + xs.length * k
   ·rw [List.append_assoc, List.getElem?_append_right (by rw [htl2]; omega), List.getElem?_append_left (by rw [htl2, hfl]; omega), htl2] at hy
    rw [List.append_assoc, List.getElem?_append_right (by rw [htl]; omega), List.getElem?_append_left (by rw [htl, hnl]; omega), htl]
    obtain ⟨u, hu', hr⟩ := hnr _ _ hy
    obtain ⟨z, hz, hyz⟩ := List.mem_flatMap.1 (List.mem_of_getElem? hy)
    exact ⟨(hxs z hz).2 y hyz, u, hu', hr⟩
   ·rw [List.getElem?_append_right (by rw [List.length_append, htl2, hfl]; omega), List.length_append, htl2, List.getElem?_drop, hfl] at hy
    rw [List.getElem?_append_right (by rw [List.length_append, htl, hnl]; omega), List.length_append, htl, List.getElem?_drop, hnl]
    have he : n * k + xs.length * k + (j - (n * k + xs.length * k)) = j := by omega
    rw [he] at hy ⊢
    obtain ⟨h2, v, hv', hr⟩ := hcs j y hy
    exact ⟨h2, v, by simpa using hv', hr⟩

end
end
section
open Go.RowKit

def Trunc (H'' H' : Heap) : Prop := ∀ c, H'' c = H' c ∨ ∃ T cells j, H' c = some (T, cells) ∧ H'' c = some (T, cells.take j)

theorem Trunc.none {H'' H' : Heap} (h : Trunc H'' H') {b : Nat} (hb : H' b = none) : H'' b = none := by
 rcases h b with h | ⟨T, cells, j, h1, h2⟩
 ·rw [h, hb]
 ·rw [hb] at h1; cases h1

theorem Trunc.kept {w : World} {H'' H' : Heap} (h : Trunc H'' H') : Kept w H' w H'' :=
 ⟨fun b off v hH hw => ⟨h.none hH, hw⟩, fun b cs T hb => ⟨cs, hb, rfl⟩⟩

theorem HOK.trunc {w : World} {H'' H' : Heap} (ho : HOK w H') (h : Trunc H'' H') : HOK w H'' := by
 refine ⟨fun b T cells hx => ?_, fun g cs hg => ⟨h.none (ho.inv g cs hg).1, (ho.inv g cs hg).2⟩⟩
 rcases h b with h1 | ⟨T', cells', j, h1, h2⟩
 ·rw [h1] at hx
  obtain ⟨cs, c1, c2, c3⟩ := ho b T cells hx
  exact ⟨cs, c1, c2, fun i x hi => let ⟨q1, v, q2, q3⟩ := c3 i x hi; ⟨q1, v, q2, q3.kept h.kept⟩⟩
 ·rw [h2] at hx
  cases hx
  obtain ⟨cs, c1, c2, c3⟩ := ho b T cells' h1
  refine ⟨cs, c1, by rw [List.length_take]; omega, fun i x hi => ?_⟩
  have hi2 : cells'[i]? = some x := by
   rw [List.getElem?_take] at hi
   split at hi
   ·exact hi
   ·cases hi
  obtain ⟨q1, v, q2, q3⟩ := c3 i x hi2
  exact ⟨q1, v, q2, q3.kept h.kept⟩

theorem Ext.trunc {w w' : World} {H H' H'' : Heap} (he : Ext w H w' H') (h : Trunc H'' H') : Ext w H w' H'' :=
 ⟨he.os, he.tape, he.output, he.size, he.tick, fun b hb hH => ⟨h.none (he.old b hb hH).1, (he.old b hb hH).2⟩, he.shape⟩

theorem CallD.trunc {P : Program} {H : Heap} {f : FuncId} {ds : List D} {K K' : D → Heap → Prop} (h : CallD P H f ds K) (hk : ∀ d H', K d H' → ∃ H'', Trunc H'' H' ∧ K' d H'') : CallD P H f ds K' :=
 ⟨h.body, fun w args ho hr => (h.calls w args ho hr).mono fun en w' ⟨v, d, H', h1, h2, h3, h4, h5⟩ => by
  obtain ⟨H'', t1, t2⟩ := hk d H' h2
  exact ⟨v, d, H'', h1, t2, h3.kept t1.kept, h4.trunc t1, h5.trunc t1⟩⟩

theorem Trunc.one {H : Heap} {b : Nat} {T : TypeId} {cells : List D} (j : Nat) : Trunc (H.set b (T, cells.take j)) (H.set b (T, cells)) := fun c => by
 by_cases hc : c = b
 ·subst hc
  exact .inr ⟨T, cells, j, Heap.set_self _ _ _, Heap.set_self _ _ _⟩
 ·exact .inl (by rw [Heap.set_other _ _ hc, Heap.set_other _ _ hc])

section
variable {P : Program} {H : Heap} {e : Env} {dst : Option Tmp} {ty : TypeId} {pos : String} {af : Array Edge} {gd : Option (Nat × Bool)}

theorem s_sliceRef {t E T : TypeId} {x : Operand} {lo hi : Option Operand} {b off n k bytes a c : Nat} {zd cells : List D} [SliceT P t E] [ElT P E k zd bytes] (hk : 0 < k)
  (hx : e.ev x = some (.ref b off n k)) (hlo : boundD e lo 0 = some a) (hhi : boundD e hi n = some c) (hac : a ≤ c) (hc : c ≤ n ∨ (H b = some (T, cells) ∧ off + c * k ≤ cells.length)) (hlt : a < c ∨ a < n) :
  Sta P H e ⟨dst, .slice t x lo hi none, ty, pos, af, gd⟩ (.ref b (off + a * k) (c - a) k) := by
 obtain ⟨inf, z, hi', hz1, hz2, hz3⟩ := (ElT.z (P := P) (E := E) (k := k) (zd := zd) (bytes := bytes)).is
 exact sta_slice_ref SliceT.h hi' hz2 hk hx hlo hhi hac hc hlt

theorem s_sliceEnd {t E : TypeId} {x : Operand} {lo hi : Option Operand} {b off n k bytes : Nat} {zd : List D} [SliceT P t E] [ElT P E k zd bytes]
  (hx : e.ev x = some (.ref b off n k)) (hlo : boundD e lo 0 = some n) (hhi : boundD e hi n = some n) :
  Sta P H e ⟨dst, .slice t x lo hi none, ty, pos, af, gd⟩ (.list k []) := by
 obtain ⟨inf, z, hi', hz1, hz2, hz3⟩ := (ElT.z (P := P) (E := E) (k := k) (zd := zd) (bytes := bytes)).is
 exact sta_slice_end SliceT.h hi' hx hlo hhi

theorem dead_sliceI {t E : TypeId} {x lo hi mx : Operand} {b off n k bytes a c m : Nat} {zd : List D} [SliceT P t E] [ElT P E k zd bytes] (hx : e.ev x = some (.ref b off n k))
  (h0 : e.ev lo = some (I a)) (h1 : e.ev hi = some (I c)) (h2 : e.ev mx = some (I m)) (hac : a ≤ c) (hcm : c ≤ m) (hmn : m ≤ n) :
  DeadOp P H e ⟨dst, .slice t x (some lo) (some hi) (some mx), ty, pos, af, gd⟩ := by
 obtain ⟨inf, z, hi', hz1, hz2, hz3⟩ := (ElT.z (P := P) (E := E) (k := k) (zd := zd) (bytes := bytes)).is
 exact dead_slice SliceT.h hi' hx h0 h1 h2 hac hcm hmn

theorem d_clearAt {t E T : TypeId} {x : Operand} {b off k bytes : Nat} {cells zd : List D} {K : D → Heap → Prop} [SliceT P t E] [ElT P E k zd bytes] (hx : e.ev x = some (.ref b off 1 k)) (hH : H b = some (T, cells)) (hl : off + k ≤ cells.length)
  (hK : K (.tup []) (H.set b (T, setMany cells off zd))) :
  OpD P H e ⟨dst, .call ⟨.builtin .clear, #[x], #[t]⟩, ty, pos, af, gd⟩ K :=
 opD_clearAt SliceT.h (ElT.z (P := P) (E := E) (k := k) (zd := zd) (bytes := bytes)) hx hH hl hK

theorem d_appendIn {t E : TypeId} {x y : Operand} {b n k bytes : Nat} {cells xs zd : List D} {K : D → Heap → Prop} [SliceT P t E] [ElT P E k zd bytes] (hk : 0 < k)
  (hx : e.ev x = some (.ref b 0 n k)) (hH : H b = some (E, cells)) (hsrc : ∀ (ρ : Operand → Value) (w : World), Agree ρ w H e → HOK w H → NewsOf w H (ρ y) k xs) (hxs : Uni k xs) (hne : xs ≠ []) (hfit : n * k + xs.length * k ≤ cells.length)
  (hK : K (.ref b 0 (n + xs.length) k) (H.set b (E, setMany cells (n * k) (xs.flatMap cellsOf)))) :
  OpD P H e ⟨dst, .call ⟨.builtin .append, #[x, y], #[t, t]⟩, ty, pos, af, gd⟩ K := by
 obtain ⟨inf, z, hi', hz1, hz2, hz3⟩ := (ElT.z (P := P) (E := E) (k := k) (zd := zd) (bytes := bytes)).is
 exact opD_appendIn SliceT.h hi' hz2 hk rfl hx hH hsrc hxs hne hfit hK

end

theorem setMany_take (l xs : List D) (i : Nat) (h : i ≤ l.length) : (setMany l i xs).take (i + xs.length) = l.take i ++ xs := by
 unfold setMany
 rw [List.take_append_of_le_length (by rw [List.length_append, List.length_take]; omega)]
 rw [List.take_of_length_le (by rw [List.length_append, List.length_take]; omega)]
end
end Go.Proofs.YtfjmdhemlfafbaaGreat
