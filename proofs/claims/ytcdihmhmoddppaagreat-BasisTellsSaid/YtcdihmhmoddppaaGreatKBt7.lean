/-
  Strings as data: constants, sums, comparisons, a letter of a text, a text of one byte; calls whose contract is on the world. No condition.
-/
import Derived.Test.YtcdihmhmoddppaaGreatKBt5
import Derived.Test.YtcdihmhmoddppaaGreatKBt6
import Derived.Laws.Strings
import Derived.Laws.BytesArg

namespace Go.Proofs.YtcdihmhmoddppaaGreat
open Go.RowKit
set_option linter.unusedVariables false
set_option linter.unusedSimpArgs false

theorem Acc.done {H H' : Heap} {d : D} {k : Nat} {T : TypeId} {l : List D} (h : Acc H H' d k T l) : Frz H' H d (.list k l) := h.frz fun b hb => by
  rcases h.is with ⟨g, _⟩ | ⟨c, g1, g2, _⟩
  · rw [g] at hb; cases hb
  · rw [g2] at hb; cases hb; exact g1

theorem Acc.over' {H0 H H' : Heap} {d : D} {k : Nat} {T : TypeId} {l : List D} (h : Acc H0 H d k T l) (ho : Over H H') : Acc H0 H' d k T l :=
  ⟨h.uni, h.is.imp id fun ⟨b, h1, h2, h3⟩ => ⟨b, h1, h2, ho _ _ h3⟩⟩

theorem Acc.len' {H0 H : Heap} {d : D} {k : Nat} {T : TypeId} {l : List D} (h : Acc H0 H d k T l) : lenD d = some l.length := by
  rcases h.is with ⟨rfl, rfl⟩ | ⟨b, _, rfl, _⟩ <;> rfl

/-- One's own slice that is not empty. -/
theorem Acc.ref {H0 H : Heap} {d : D} {k : Nat} {T : TypeId} {l : List D} (h : Acc H0 H d k T l) (hl : 0 < l.length) : ∃ b, H0 b = none ∧ d = .ref b 0 l.length k ∧ H b = some (T, l.flatMap cellsOf) := by
  rcases h.is with ⟨_, h2⟩ | h
  · rw [h2] at hl; simp at hl
  · exact h

theorem flat_set {k : Nat} (hk : 0 < k) {l : List D} (hl : ∀ d ∈ l, (cellsOf d).length = k) {i : Nat} (hi : i < l.length) {d : D} (hd : (cellsOf d).length = k) : setMany (l.flatMap cellsOf) (i * k) (cellsOf d) = (l.set i d).flatMap cellsOf := by
  have hlen : ∀ {l : List D}, (∀ d ∈ l, (cellsOf d).length = k) → (l.flatMap cellsOf).length = l.length * k := by
    intro l
    induction l with
    | nil => intro _; simp
    | cons x l ih =>
      intro h
      simp only [List.flatMap_cons, List.length_append, List.length_cons, h x (by simp), ih fun y hy => h y (by simp [hy]), Nat.add_mul]
      omega
  have hl2 : ∀ x ∈ l.set i d, (cellsOf x).length = k := fun x hx => by
    rcases List.mem_or_eq_of_mem_set hx with h | rfl
    · exact hl x h
    · exact hd
  have hfit : i * k + (cellsOf d).length ≤ (l.flatMap cellsOf).length := by
    rw [hlen hl, hd, show i * k + k = (i + 1) * k by rw [Nat.add_mul]; omega]
    exact Nat.mul_le_mul_right k hi
  apply List.ext_getElem?
  intro q
  rw [setMany_get hfit, hd]
  have hq : (q / k) * k + q % k = q := by rw [Nat.mul_comm]; exact Nat.div_add_mod q k
  have hm : q % k < k := Nat.mod_lt _ hk
  have e1 := flat_cell (k := k) (l := l) (fun i d h => hl d (List.mem_of_getElem? h)) (q / k) (q % k) hm
  have e2 := flat_cell (k := k) (l := l.set i d) (fun i d h => hl2 d (List.mem_of_getElem? h)) (q / k) (q % k) hm
  rw [hq] at e1 e2
  rw [e1, e2]
  unfold cellAt
  by_cases hqi : q / k = i
  · have h1 : i * k ≤ q := by rw [← hqi]; exact Nat.div_mul_le_self q k
    have h2 : q - i * k = q % k := by rw [← hqi]; omega
    have h3 : q < i * k + k := by omega
    rw [if_pos ⟨h1, h3⟩, h2, hqi]
    simp [hi]
  · rw [if_neg]
    · rw [List.getElem?_set_ne (Ne.symm hqi)]
    · rintro ⟨h1, h2⟩
      apply hqi
      have h3 : i ≤ q / k := (Nat.le_div_iff_mul_le hk).2 h1
      have h4 : q / k < i + 1 := (Nat.div_lt_iff_lt_mul hk).2 (by rw [Nat.add_mul]; omega)
      omega

theorem rowTo_put {l : List D} {z : D} {k : Nat} (h : k < l.length) : (rowTo l z k).set k l[k] = rowTo l z (k + 1) := by
  unfold rowTo
  apply List.ext_getElem?
  intro j
  rw [List.getElem?_set]
  simp only [List.length_append, List.length_take, List.length_replicate]
  by_cases h1 : k = j
  · subst h1
    rw [if_pos rfl, if_pos (by omega), List.getElem?_append_left (by simp; omega)]
    simp [h]
  · rw [if_neg h1]
    by_cases h2 : j < k
    · rw [List.getElem?_append_left (by simp; omega), List.getElem?_append_left (by simp; omega)]
      simp [h2, show j < k + 1 by omega]
    · rw [List.getElem?_append_right (by simp; omega), List.getElem?_append_right (by simp; omega)]
      simp only [List.length_take]
      rw [Nat.min_eq_left (by omega), Nat.min_eq_left (by omega)]
      by_cases h3 : j < l.length
      · rw [List.getElem?_replicate_of_lt (by omega), List.getElem?_replicate_of_lt (by omega)]
      · rw [List.getElem?_eq_none (by simp; omega), List.getElem?_eq_none (by simp; omega)]

section
variable {P : Program} {H : Heap} {e : Env} {dst : Option Tmp} {ty : TypeId} {pos : String} {af : Array Edge} {gd : Option (Nat × Bool)}

/-- Data, one by one, seen as frozen. -/
inductive Frzs (H H' : Heap) : List D → List D → Prop
  | nil : Frzs H H' [] []
  | cons {a b : D} {l m : List D} (h : Frz H H' a b) (r : Frzs H H' l m) : Frzs H H' (a :: l) (b :: m)

theorem Frzs.same (H H' : Heap) : ∀ l, Frzs H H' l l
  | [] => .nil
  | a :: l => .cons (.same a) (Frzs.same H H' l)

theorem Frzs.reps {w : World} {H H' : Heap} (ho : HOK w H) (hs : H'.sub H) {l m : List D} (h : Frzs H H' l m) : ∀ {vs : List Value}, RepsA w H vs.toArray l → RepsA w H' vs.toArray m := by
  induction h with
  | nil => intro vs hv; exact ⟨hv.1, fun j x hx => by simp at hx⟩
  | cons hf r ih =>
    intro vs hv
    cases vs with
    | nil => have := hv.1; simp at this
    | cons v vs =>
      have hv' : RepsA w H vs.toArray _ := ⟨by have := hv.1; simpa using this, fun j x hx => by
        have := hv.2 (j + 1) x (by simpa using hx)
        simpa using this⟩
      have hi := ih hv'
      refine ⟨by have := hi.1; simpa using this, fun j x hx => ?_⟩
      cases j with
      | zero =>
        simp at hx
        subst hx
        obtain ⟨u, hu, hr⟩ := hv.2 0 _ rfl
        exact ⟨u, hu, Rep.frz ho hs hf hr⟩
      | succ j =>
        obtain ⟨u, hu, hr⟩ := hi.2 j x (by simpa using hx)
        exact ⟨u, by simpa using hu, hr⟩

/-- A call of a pure function that is handed what was written: that is let go. -/
theorem opD_callF {g : Operand} {xs : Array Operand} {ats : Array TypeId} {f : FuncId} {caps ds ds' : List D} {d : D} {H' : Heap} {K : D → Heap → Prop} (hg : e.ev g = some (.fn f caps)) (hx : evList e xs.toList = some ds) (hs : H'.sub H) (hf : Frzs H H' (ds ++ caps) ds') (hp : PureH P H' f ds' d) (hK : K d H') :
    OpD P H e ⟨dst, .call ⟨.value g, xs, ats⟩, ty, pos, af, gd⟩ K := .mk fun ρ w ha ho => by
  obtain ⟨vs, hv, hr⟩ := rep_fn (ha g _ hg)
  simp only [OpTo, run_exec_call hp.body hv]
  have hargs : RepsA w H (xs.map ρ ++ vs) (ds ++ caps) := by
    have := (reps_list (H := H) ha xs.toList ds hx).append hr
    have he : (xs.toList.map ρ).toArray = xs.map ρ := by apply Array.ext'; simp
    rwa [he] at this
  have hargs' : RepsA w H' (xs.map ρ ++ vs) ds' := by
    have := hf.reps (vs := (xs.map ρ ++ vs).toList) ho hs (by rw [Array.toArray_toList]; exact hargs)
    rwa [Array.toArray_toList] at this
  refine (hp.calls w _ (ho.sub hs) hargs').mono fun en w' ⟨v, h1, h2, h3, h4⟩ => ⟨v, h1, d, H', hK, h2, h3, ?_⟩
  refine ⟨h4.os, h4.tape, h4.output, h4.size, fun b hb hHb => ?_, h4.shape⟩
  have hb' : H' b = none := by
    cases hx : H' b with
    | none => rfl
    | some x => rw [hs b x hx] at hHb; cases hHb
  exact ⟨hb', (h4.old b hb hb').2⟩

/-- The exponents of a term of a slice that may be written. -/
theorem s_outE {t T0 : TypeId} {x : Operand} {b off i : Nat} {f : Pl} [CellT P t] (hx : e.ev x = some (.ptr b off)) (hH : H b = some (T0, (f.map tmD).flatMap cellsOf)) (ho : off = i * 2 + 1) (hi : i < f.length) : Sta P H e ⟨dst, .load t x, ty, pos, af, gd⟩ (intsD f[i].e) := by
  refine s_loadMut hx hH ?_
  rw [ho, flat_cell (k := 2) (fun j d hd => by have := List.mem_of_getElem? hd; obtain ⟨y, _, rfl⟩ := List.mem_map.1 this; rfl) i 1 (by omega)]
  simp [cellAt, hi, tmD, cellsOf]

theorem s_outC {t T0 : TypeId} {x : Operand} {b off i : Nat} {f : Pl} [CellT P t] (hx : e.ev x = some (.ptr b off)) (hH : H b = some (T0, (f.map tmD).flatMap cellsOf)) (ho : off = i * 2) (hi : i < f.length) : Sta P H e ⟨dst, .load t x, ty, pos, af, gd⟩ (I f[i].c) := by
  refine s_loadMut hx hH ?_
  have := flat_cell (k := 2) (l := f.map tmD) (fun j d hd => by have := List.mem_of_getElem? hd; obtain ⟨y, _, rfl⟩ := List.mem_map.1 this; rfl) i 0 (by omega)
  rw [ho, ← Nat.add_zero (i * 2), this]
  simp [cellAt, hi, tmD, cellsOf]

theorem tm_flat : ∀ (f : Pl) (i : Nat) (h : i < f.length), (((f.map tmD).flatMap cellsOf).drop (i * 2)).take 2 = [I f[i].c, intsD f[i].e]
  | t :: f, 0, _ => by simp [tmD, cellsOf]
  | t :: f, i + 1, h => by
    have ih := tm_flat f i (by simpa using h)
    have e1 : ((t :: f).map tmD).flatMap cellsOf = [I t.c, intsD t.e] ++ (f.map tmD).flatMap cellsOf := rfl
    rw [e1, show (i + 1) * 2 = 2 + i * 2 by omega, ← List.drop_drop]
    exact ih

theorem s_outTm {t T0 : TypeId} {x : Operand} {b off i : Nat} {f : Pl} [AggT P t 2] (hx : e.ev x = some (.ptr b off)) (hH : H b = some (T0, (f.map tmD).flatMap cellsOf)) (ho : off = i * 2) (hi : i < f.length) : Sta P H e ⟨dst, .load t x, ty, pos, af, gd⟩ (tmD f[i]) := by
  subst ho
  exact s_loadMutAgg hx hH (tm_flat f i hi) rfl

/-- A place of a mutable slice of terms. -/
theorem s_ix2 {t E : TypeId} {x y : Operand} {b n bytes i : Nat} {zd : List D} {m : Int} [SliceT P t E] [ElT P E 2 zd bytes] (hx : e.ev x = some (.ref b 0 n 2)) (hy : e.ev y = some (I m)) (hm : m = i) (hl : i < n) :
    Sta P H e ⟨dst, .indexAddr t x y, ty, pos, af, gd⟩ (.ptr b (i * 2)) := by
  subst hm
  have := s_indexRef (P := P) (H := H) (dst := dst) (ty := ty) (pos := pos) (af := af) (gd := gd) (t := t) (E := E) (zd := zd) (bytes := bytes) hx hy hl
  simpa using this

end

end Go.Proofs.YtcdihmhmoddppaaGreat

namespace Go.Proofs.YtcdihmhmoddppaaGreat
open Go.RowKit
set_option linter.unusedVariables false
set_option linter.unusedSimpArgs false

def existQ {α : Type} (P : α → Prop) (l : α → Env) (H' : α → Heap) (Q : Post) : Post
  | .normal, e, H => ∃ a, P a ∧ (H' a).sub H ∧ HasG e H (H' a) (l a)
  | x, e, H => Q x e H

/-- Ways meet behind a block: with something that is so. -/
theorem DW.cutB {C : Ctx} {α : Type} {id : Nat} {x y : Code} {e : Env} {H : Heap} {Q : Post} (P : α → Prop) (l : α → Env) (H' : α → Heap) (h2 : ∀ a, P a → DW C y (l a) (H' a) Q) (h1 : DW C x e H (blockQ id (existQ P l H' Q))) : DW C x e H (blockQ id (thenQ C y Q)) := by
  have key : ∀ z e' H'', existQ P l H' Q z e' H'' → thenQ C y Q z e' H'' := fun z e' H'' h => by
    cases z with
    | normal =>
      obtain ⟨a, ha, hs, hg⟩ := h
      exact DW.freezeG (l a) (H' a) hs hg (h2 a ha)
    | exit id => exact h
    | goto l => exact h
    | ret => exact h
    | panic c => exact h
    | outgrown => exact h
  refine h1.mono fun z e' H'' h => ?_
  cases z with
  | exit id' =>
    simp only [blockQ] at h ⊢
    cases hb : Nat.beq id' id with
    | true => rw [hb] at h; exact key .normal _ _ h
    | false => rw [hb] at h; exact key (.exit id') _ _ h
  | normal => exact key .normal _ _ h
  | goto l => exact h
  | ret => exact h
  | panic c => exact h
  | outgrown => exact h

/-- Ways meet: with something that is so. -/
theorem DW.cutE {C : Ctx} {α : Type} {x y : Code} {e : Env} {H : Heap} {Q : Post} (P : α → Prop) (l : α → Env) (H' : α → Heap) (h2 : ∀ a, P a → DW C y (l a) (H' a) Q) (h1 : DW C x e H (existQ P l H' Q)) : DW C x e H (thenQ C y Q) := by
  refine h1.mono fun z e' H'' h => ?_
  cases z with
  | normal =>
    obtain ⟨a, ha, hs, hg⟩ := h
    exact DW.freezeG (l a) (H' a) hs hg (h2 a ha)
  | exit id => exact h
  | goto l => exact h
  | ret => exact h
  | panic c => exact h
  | outgrown => exact h

def dropD : D → Nat → D
  | .ref b off n k, m => if m < n then .ref b (off + m * k) (n - m) k else .list k []
  | d, _ => d

def takeD : D → Nat → D
  | .ref b off _ k, m => .ref b off m k
  | d, _ => d

/-- What may be appended: whatever memory, this stands there. -/
def SrcOk (H : Heap) (d : D) (k : Nat) (xs : List D) : Prop := ∀ (w : World) (v : Value), HOK w H → Rep w H v d → NewsOf w H v k xs

theorem SrcOk.list {H : Heap} {k : Nat} {xs : List D} (hu : Uni k xs) (hk : 0 < k) : SrcOk H (.list k xs) k xs := fun w v _ hr => .list hr hu hk
theorem SrcOk.nil {H : Heap} (k : Nat) : SrcOk H .nil k [] := fun w v _ hr => .nil hr k

theorem Acc.weaken {H H1 H2 : Heap} {d : D} {k : Nat} {T : TypeId} {l : List D} (h : Acc H1 H2 d k T l) (ho : Over H H1) : Acc H H2 d k T l := ⟨h.uni, h.is.imp id fun ⟨b, h1, h2, h3⟩ => ⟨b, ho.none h1, h2, h3⟩⟩

theorem SrcOk.acc {H0 H : Heap} {d : D} {k : Nat} {T : TypeId} {l : List D} (h : Acc H0 H d k T l) : SrcOk H d k l := by
  rcases h.is with ⟨rfl, rfl⟩ | ⟨b, _, rfl, hb⟩
  · exact .nil k
  · exact fun w v ho hr => NewsOf.ref hr ho hb h.uni rfl fun j x hx => by simpa using hx

theorem SrcOk.take {H0 H : Heap} {d : D} {k m : Nat} {T : TypeId} {l : List D} (h : Acc H0 H d k T l) (hm : m ≤ l.length) : SrcOk H (takeD d m) k (l.take m) := by
  rcases h.is with ⟨rfl, rfl⟩ | ⟨b, _, rfl, hb⟩
  · rw [List.take_nil]; exact .nil k
  · refine fun w v ho hr => NewsOf.ref hr ho hb (fun d hd => h.uni d (List.mem_of_mem_take hd)) (by simp; omega) fun j x hx => ?_
    have : l.flatMap cellsOf = (l.take m).flatMap cellsOf ++ (l.drop m).flatMap cellsOf := by rw [← List.flatMap_append, List.take_append_drop]
    rw [this, Nat.zero_add, List.getElem?_append_left (List.getElem?_eq_some_iff.1 hx).1]
    exact hx

theorem SrcOk.drop {H0 H : Heap} {d : D} {k m : Nat} {T : TypeId} {l : List D} (h : Acc H0 H d k T l) (hk : 0 < k) (hm : m ≤ l.length) : SrcOk H (dropD d m) k (l.drop m) := by
  rcases h.is with ⟨rfl, rfl⟩ | ⟨b, _, rfl, hb⟩
  · rw [List.drop_nil]; exact .nil k
  · by_cases hlt : m < l.length
    · rw [show dropD (.ref b 0 l.length k) m = .ref b (0 + m * k) (l.length - m) k from if_pos hlt]
      refine fun w v ho hr => NewsOf.ref hr ho hb (fun d hd => h.uni d (List.mem_of_mem_drop hd)) (by simp) fun j x hx => ?_
      have : l.flatMap cellsOf = (l.take m).flatMap cellsOf ++ (l.drop m).flatMap cellsOf := by rw [← List.flatMap_append, List.take_append_drop]
      have hu : Uni k (l.take m) := fun d hd => h.uni d (List.mem_of_mem_take hd)
      have hl : ((l.take m).flatMap cellsOf).length = m * k := by rw [hu.length, List.length_take, Nat.min_eq_left hm]
      rw [this, List.getElem?_append_right (by omega), hl]
      rw [show 0 + m * k + j - m * k = j by omega]
      exact hx
    · rw [show dropD (.ref b 0 l.length k) m = .list k [] from if_neg hlt, List.drop_eq_nil_of_le (by omega)]
      exact .list (Uni.nil k) hk

section
variable {P : Program} {H : Heap} {e : Env} {dst : Option Tmp} {ty : TypeId} {pos : String} {af : Array Edge} {gd : Option (Nat × Bool)}

theorem x_loadM {α : Type} {f : α → D} {l : List α} {k i : Nat} {t : TypeId} {x : Operand} [CellT P t] (hf : ∀ a, cellsOf (f a) = [f a]) (hx : e.ev x = some (.ipt k (l.map f) i 0)) (hi : i < l.length) : ∀ H', Sta P H' e ⟨dst, .load t x, ty, pos, af, gd⟩ (f l[i]) :=
  fun _ => s_loadM hf hx hi
theorem x_loadTm {f : Pl} {i : Nat} {t : TypeId} {x : Operand} [AggT P t 2] (hx : e.ev x = some (.ipt 2 (f.map tmD) i 0)) (hi : i < f.length) : ∀ H', Sta P H' e ⟨dst, .load t x, ty, pos, af, gd⟩ (tmD f[i]) :=
  fun _ => s_loadTm hx hi
theorem x_loadC {f : Pl} {i : Nat} {t : TypeId} {x : Operand} [CellT P t] (hx : e.ev x = some (.ipt 2 (f.map tmD) i 0)) (hi : i < f.length) : ∀ H', Sta P H' e ⟨dst, .load t x, ty, pos, af, gd⟩ (I f[i].c) :=
  fun _ => s_loadC hx hi
theorem x_loadE {f : Pl} {i : Nat} {t : TypeId} {x : Operand} [CellT P t] (hx : e.ev x = some (.ipt 2 (f.map tmD) i 1)) (hi : i < f.length) : ∀ H', Sta P H' e ⟨dst, .load t x, ty, pos, af, gd⟩ (intsD f[i].e) :=
  fun _ => s_loadE hx hi

/-- s[m:] of one's own slice. -/
theorem s_dropAcc {H0 H1 : Heap} {t E : TypeId} {x y : Operand} {k bytes m : Nat} {zd : List D} {d : D} {l : List D} {T : TypeId} {i : Int} [SliceT P t E] [ElT P E k zd bytes] (hx : e.ev x = some d) (hacc : Acc H0 H1 d k T l) (hy : e.ev y = some (I i)) (hi : i = m) (hm : m ≤ l.length) :
    Sta P H e ⟨dst, .slice t x (some y) none none, ty, pos, af, gd⟩ (dropD d m) := by
  subst hi
  rcases hacc.is with ⟨rfl, rfl⟩ | ⟨b, _, rfl, hb⟩
  · obtain ⟨inf, z, hi', hz1, hz2, hz3⟩ := (ElT.z (P := P) (E := E) (k := k) (zd := zd) (bytes := bytes)).is
    have hm0 : m = 0 := by simpa using hm
    subst hm0
    exact sta_slice_nil (k := k) SliceT.h hi' hx (by simp [boundD, hy]) rfl
  · by_cases hlt : m < l.length
    · rw [show dropD (.ref b 0 l.length k) m = .ref b (0 + m * k) (l.length - m) k from if_pos hlt]
      exact s_fromRef (zd := zd) (bytes := bytes) hx hy hlt
    · rw [show dropD (.ref b 0 l.length k) m = .list k [] from if_neg hlt]
      have : m = l.length := by omega
      subst this
      exact s_fromRefEnd (zd := zd) (bytes := bytes) hx hy

/-- s[:m] of one's own slice. -/
theorem s_takeAcc {H0 H1 : Heap} {t E : TypeId} {x y : Operand} {k bytes m : Nat} {zd : List D} {d : D} {l : List D} {T : TypeId} {i : Int} [SliceT P t E] [ElT P E k zd bytes] (hx : e.ev x = some d) (hacc : Acc H0 H1 d k T l) (hy : e.ev y = some (I i)) (hi : i = m) (hm : m ≤ l.length) :
    Sta P H e ⟨dst, .slice t x none (some y) none, ty, pos, af, gd⟩ (takeD d m) := by
  subst hi
  obtain ⟨inf, z, hi', hz1, hz2, hz3⟩ := (ElT.z (P := P) (E := E) (k := k) (zd := zd) (bytes := bytes)).is
  rcases hacc.is with ⟨rfl, rfl⟩ | ⟨b, _, rfl, hb⟩
  · have hm0 : m = 0 := by simpa using hm
    subst hm0
    exact sta_slice_nil (k := k) SliceT.h hi' hx rfl (by simp [boundD, hy])
  · refine .mk fun ρ w ha ho => ?_
    have h := ha x _ hx
    generalize hv : ρ x = v at h
    cases h with
    | ref hb' hs hl hcm =>
      rename_i cap cs T0
      have hbd := run_sliceBounds (P := P) (w := w) (n := l.length) (cap := cap) (a := 0) (b := m) ha (lo := none) (hi := some y) rfl (by simp [boundD, hy]) (Nat.zero_le _) (by omega)
      simp only [Option.map_some, Option.map_none] at hbd
      have hr : (Instr.sliceAt t (.slice (some ⟨b, 0, none⟩) l.length cap) none (some (ρ y)) none).run P w = .ok (.slice (some ⟨b, 0, none⟩) m cap) w := by
        simp only [Instr.sliceAt, Instr.slice, Sem.run_bind, run_underlying (SliceT.h (P := P) (t := t) (E := E)), Result.andThen_ok]
        simp [hbd, run_sizeOf hi', addr_add]
      simp only [OpTo, execOp, hv, Sem.run_bind]
      simp only [Option.map_some, Option.map_none]
      rw [hr]
      simp only [Result.andThen_ok, Sem.run_pure]
      exact ⟨.ref hb' hs (by omega) hcm, ho, .refl _ _⟩

/-- append, from whatever may be appended. -/
theorem d_appendSrc {H0 : Heap} {t E : TypeId} {x y : Operand} {k bytes : Nat} {zd : List D} {d dy : D} {l xs : List D} {K : D → Heap → Prop} [SliceT P t E] [ElT P E k zd bytes] (hx : e.ev x = some d) (hacc : Acc H0 H d k E l) (hover : Over H0 H)
    (hy : e.ev y = some dy) (hsrc : SrcOk H dy k xs) (hxs : Uni k xs) (hb : (l.length + xs.length) * bytes ≤ 140737488355328) (hlen : l.length + xs.length ≤ 4611686018427387904)
    (hK : ∀ d' H', Acc H0 H' d' k E (l ++ xs) → Over H0 H' → (∀ c z, H c = some z → d.blk ≠ some c → H' c = some z) → K d' H') :
    OpD P H e ⟨dst, .call ⟨.builtin .append, #[x, y], #[t, t]⟩, ty, pos, af, gd⟩ K :=
  opD_appendS SliceT.h (ElT.z (E := E) (bytes := bytes)) (ElT.pos (P := P) (E := E) (zd := zd) (bytes := bytes)) hx hacc hover (fun ρ w ha ho => hsrc w _ ho (ha y _ hy)) hxs (fun inf hi => by rw [ElT.b (P := P) (E := E) (k := k) (zd := zd) (bytes := bytes) inf hi]; exact hb) hlen hK

end

theorem tm_setC : ∀ (f : Pl) (i : Nat) (h : i < f.length) (c : Int), setMany ((f.map tmD).flatMap cellsOf) (i * 2) [I c] = ((f.set i ⟨c, f[i].e⟩).map tmD).flatMap cellsOf
  | t :: f, 0, _, c => by
    show setMany ([I t.c, intsD t.e] ++ (f.map tmD).flatMap cellsOf) 0 [I c] = [I c, intsD t.e] ++ (f.map tmD).flatMap cellsOf
    simp [setMany]
  | t :: f, i + 1, h, c => by
    have ih := tm_setC f i (by simpa using h) c
    have e1 : ((t :: f).map tmD).flatMap cellsOf = [I t.c, intsD t.e] ++ (f.map tmD).flatMap cellsOf := rfl
    have e2 : (((t :: f).set (i + 1) ⟨c, (t :: f)[i + 1].e⟩).map tmD).flatMap cellsOf = [I t.c, intsD t.e] ++ ((f.set i ⟨c, (f[i]'(by simpa using h)).e⟩).map tmD).flatMap cellsOf := rfl
    rw [e1, e2, ← ih]
    unfold setMany
    rw [show (i + 1) * 2 = 2 + i * 2 by omega]
    simp only [List.length_singleton, List.cons_append, List.nil_append]
    rw [show 2 + i * 2 = i * 2 + 1 + 1 by omega, List.take_succ_cons, List.take_succ_cons, show i * 2 + 1 + 1 + 1 = (i * 2 + 1) + 1 + 1 by omega, List.drop_succ_cons, List.drop_succ_cons]
    simp

end Go.Proofs.YtcdihmhmoddppaaGreat

namespace Go.Proofs.YtcdihmhmoddppaaGreat
open Go.RowKit
set_option linter.unusedVariables false
set_option linter.unusedSimpArgs false

/-- What a function's result variables hold. -/
inductive ResR (P : Program) (e : Env) (H : Heap) : List ResultVar → List D → Prop
  | nil : ResR P e H [] []
  | tmp {t : Tmp} {d : D} {l : List ResultVar} {ds : List D} (h : e.get t = some d) (r : ResR P e H l ds) : ResR P e H (.tmp t :: l) (d :: ds)
  | cell {x : Tmp} {t T0 : TypeId} {b : Nat} {cells : List D} {l : List ResultVar} {ds : List D} (ht : AggT P t cells.length) (h : e.get x = some (.ptr b 0)) (hH : H b = some (T0, cells)) (r : ResR P e H l ds) : ResR P e H (.cell x t :: l) (.agg cells :: ds)

theorem run_cellRes {P : Program} {w : World} {H : Heap} {t T0 : TypeId} {b : Nat} {cells : List D} [AggT P t cells.length] (ho : HOK w H) (hH : H b = some (T0, cells)) : ∃ v, (loadVar t ⟨b, 0, none⟩).run P w = .ok v w ∧ Rep w H v (.agg cells) := by
  obtain ⟨td, inf, hu, hd, hi, hs⟩ := AggT.h (P := P) (t := t) (k := cells.length)
  obtain ⟨cs, hcb, hcl, hcr⟩ := ho b T0 cells hH
  have hvs : ∀ (m : Nat) (v : Value), ((List.range inf.size).map fun m => cs.getD m undef)[m]? = some v → w.cell? ((⟨b, 0, none⟩ : Addr).add m) = some v := fun m v hm => by
    simp only [List.getElem?_map, Option.map_eq_some_iff] at hm
    obtain ⟨m', hm', rfl⟩ := hm
    have hlt : m < inf.size := by
      have := (List.getElem?_eq_some_iff.1 hm').1
      simpa using this
    rw [List.getElem?_range hlt] at hm'
    cases hm'
    have hy : cells[m]? = some (cells[m]'(by omega)) := by simp
    obtain ⟨_, u, hu', _⟩ := hcr m _ hy
    rw [addr_add, cell_of_row w b (0 + m) cs T0 (0, 0) hcb, Nat.zero_add, hu']
    simp [Array.getD_eq_getD_getElem?, hu']
  have hload := run_load_agg hu hd hi w (by simp) hvs
  simp only [Instr.loadAt, Instr.sureAddr, Sem.run_bind, Sem.run_pure, Result.andThen_ok] at hload
  refine ⟨_, hload, RepsA.agg ⟨by simp [hs], fun m y hy => ?_⟩⟩
  have hlt : m < inf.size := by rw [hs]; exact (List.getElem?_eq_some_iff.1 hy).1
  obtain ⟨_, u, hu', hrep⟩ := hcr m y hy
  exact ⟨u, by simp [hlt, Array.getD_eq_getD_getElem?, hu'], hrep⟩

theorem run_resultsR {C : Ctx} {a : Act} {w : World} {e : Env} {H : Heap} (hs : St C a w e H) (fn : Func) {ds : List D} (h : ResR C.P e H fn.results.toList ds) : ∃ v, (results fn a.tmps).run C.P w = .ok v w ∧ Rep w H v (resOne ds) := by
  have key : ∀ (l : List ResultVar) (ds : List D), ResR C.P e H l ds → ∃ vs : List Value, (l.mapM (resSem a.tmps)).run C.P w = .ok vs w ∧ RepsA w H vs.toArray ds := by
    intro l ds h
    induction h with
    | nil => exact ⟨[], by simp, rfl, fun j x hx => by simp at hx⟩
    | @tmp t d l ds hx r ih =>
      obtain ⟨vs, h1, h2⟩ := ih
      obtain ⟨v, hv, hrep⟩ := hs.env t d hx
      have hvd : a.tmps.getD t undef = v := by simp [Array.getD_eq_getD_getElem?, hv]
      refine ⟨v :: vs, ?_, by simpa using h2.1, fun j y hy => ?_⟩
      · rw [List.mapM_cons]
        simp only [resSem, Sem.run_bind, hvd, Sem.run_pure, Result.andThen_ok, h1]
      · cases j with
        | zero => simp at hy; subst hy; exact ⟨v, by simp, hrep⟩
        | succ j =>
          obtain ⟨u, hu, hrep'⟩ := h2.2 j y (by simpa using hy)
          exact ⟨u, by simpa using hu, hrep'⟩
    | @cell x t T0 b cells l ds ht hx hH r ih =>
      obtain ⟨vs, h1, h2⟩ := ih
      obtain ⟨v, hv, hrep⟩ := hs.env x _ hx
      have hvp := rep_ptr hrep
      subst hvp
      have hvd : a.tmps.getD x undef = .pointer (some ⟨b, 0, none⟩) := by simp [Array.getD_eq_getD_getElem?, hv]
      obtain ⟨v, hrun, hrep2⟩ := run_cellRes (P := C.P) (t := t) hs.heap hH
      refine ⟨v :: vs, ?_, by simpa using h2.1, fun j y hy => ?_⟩
      · rw [List.mapM_cons]
        simp only [resSem, Sem.run_bind, hvd, asAddr, Sem.run_pure, Result.andThen_ok, hrun, h1]
      · cases j with
        | zero => simp at hy; subst hy; exact ⟨v, by simp, hrep2⟩
        | succ j =>
          obtain ⟨u, hu, hrep'⟩ := h2.2 j y (by simpa using hy)
          exact ⟨u, by simpa using hu, hrep'⟩
  obtain ⟨vs, h1, h2⟩ := key fn.results.toList ds h
  have hmap : (fn.results.mapM (resSem a.tmps)).run C.P w = .ok vs.toArray w := by
    rw [← Array.toArray_toList (xs := fn.results), List.mapM_toArray, Sem.run_map, h1]
    rfl
  refine ⟨if h : vs.toArray.size = 1 then vs.toArray[0] else .tuple vs.toArray, ?_, ?_⟩
  · rw [results_eq]
    simp only [Sem.run_bind, hmap, Result.andThen_ok, Sem.run_pure]
  · have hlen : vs.length = ds.length := by simpa using h2.1
    match ds, hlen, h2 with
    | [], hlen, h2 =>
      rw [dif_neg (by simp [hlen])]
      exact h2.tup
    | [d], hlen, h2 =>
      rw [dif_pos (by simp [hlen])]
      obtain ⟨u, hu, hr⟩ := h2.2 0 d rfl
      have : vs.toArray[0]'(by simp [hlen]) = u := by
        rw [Array.getElem?_eq_getElem (by simp [hlen])] at hu
        exact Option.some.inj hu
      rw [this]
      exact hr
    | d :: d' :: ds, hlen, h2 =>
      rw [dif_neg (by simp [hlen])]
      exact h2.tup

theorem CallD.of_bodyR {P : Program} {H : Heap} {f : FuncId} {fn : Func} {c : Code} {ds : List D} {K : D → Heap → Prop} (hf : P.funcs[f]? = some fn) (hb : fn.body = some c) (hn : (fn.name == "runtime.NumGoroutine") = false) (hds : ds.length ≤ fn.ntmps)
    (h : ∀ w0 : World, DW ⟨P, fn.ntmps, w0, H⟩ c (argEnv 0 ds) H fun x e H' => (x = .ret ∨ x = .normal) ∧ ∃ rs d H'', ResR P e H' fn.results.toList rs ∧ H''.sub H' ∧ Frz H' H'' (resOne rs) d ∧ K d H'') : CallD P H f ds K := by
  refine ⟨⟨fn, hf, hn, by rw [hb]; rfl⟩, fun w args ho ha => ?_⟩
  refine calls_of_wp hf hb ?_
  have hst : St ⟨P, fn.ntmps, w, H⟩ { tmps := args ++ Array.replicate (fn.ntmps - args.size) undef, defers := [] } w (argEnv 0 ds) H := by
    refine ⟨by simp [ha.1]; omega, rfl, fun t d hd => ?_, ho, .refl _ _⟩
    obtain ⟨_, hd'⟩ := argEnv_get ds 0 t d hd
    obtain ⟨v, hv, hr⟩ := ha.2 t d (by simpa using hd')
    exact ⟨v, by rw [Array.getElem?_append_left (Array.getElem?_eq_some_iff.1 hv).1]; exact hv, hr⟩
  refine wp_mono ((h w).go _ w hst) fun x a' w' hx => ?_
  obtain ⟨e', H', ⟨hxx, rs, d, H'', hres, hsub, hfrz, hK⟩, s⟩ := hx
  obtain ⟨v, hrun, hrep⟩ := run_resultsR s fn hres
  have fin : a'.defers = [] ∧ ∃ v, (results fn a'.tmps).run P w' = .ok v w' ∧ ∃ v' d H', Ending.returned v = .returned v' ∧ K d H' ∧ Rep w' H' v' d ∧ HOK w' H' ∧ Ext w H w' H' :=
    ⟨s.defers, v, hrun, v, d, H'', rfl, hK, Rep.frz s.heap hsub hfrz hrep, s.heap.sub hsub, s.ext.sub hsub⟩
  rcases hxx with rfl | rfl
  · exact fin
  · exact fin

/-- A pure function some of whose results are cells, by its body. -/
theorem PureH.of_bodyR {P : Program} {H : Heap} {f : FuncId} {fn : Func} {c : Code} {ds : List D} {d : D} (hf : P.funcs[f]? = some fn) (hb : fn.body = some c) (hn : (fn.name == "runtime.NumGoroutine") = false) (hds : ds.length ≤ fn.ntmps)
    (h : ∀ w0 : World, DW ⟨P, fn.ntmps, w0, H⟩ c (argEnv 0 ds) H fun x e H' => (x = .ret ∨ x = .normal) ∧ ∃ rs, ResR P e H' fn.results.toList rs ∧ Over H H' ∧ Frz H' H (resOne rs) d) : PureH P H f ds d := by
  have := CallD.of_bodyR (K := fun d' H' => d' = d ∧ H' = H) hf hb hn hds (H := H) fun w0 => (h w0).mono fun x e H' ⟨h1, rs, h2, h3, h4⟩ => ⟨h1, rs, d, H, h2, h3, h4, rfl, rfl⟩
  exact ⟨this.body, fun w args ho ha => (this.calls w args ho ha).mono fun en w' ⟨v, d', H', h1, ⟨h2, h3⟩, h4, h5, h6⟩ => by subst h2; subst h3; exact ⟨v, h1, h4, h5, h6⟩⟩

/-- A row of nils, as a row of empty lists. -/
theorem frz_nils {H H' : Heap} {b n k : Nat} {T : TypeId} (hH : H b = some (T, List.replicate n D.nil)) (hn : H' b = none) : Frz H H' (.ref b 0 n 1) (.list 1 (List.replicate n (.list k []))) := by
  have h := Frz.ref (H := H) (H' := H') (b := b) (k := 1) (l := List.replicate n (D.list k [])) hH hn (fun i d hd => by
    rw [List.eq_of_mem_replicate (List.mem_of_getElem? hd)]; rfl) (by simp [cellsOf]) (fun j x y hx hy => by
    have h1 := List.eq_of_mem_replicate (List.mem_of_getElem? hx)
    have h2 : y ∈ (List.replicate n (D.list k [])).flatMap cellsOf := List.mem_of_getElem? hy
    obtain ⟨z, hz, hyz⟩ := List.mem_flatMap.1 h2
    rw [List.eq_of_mem_replicate hz] at hyz
    simp [cellsOf] at hyz
    rw [h1, hyz]
    exact .nil k)
  rwa [List.length_replicate] at h

/-- A row, some places of which are nil still. -/
theorem Frz.row {H H' : Heap} {b k n : Nat} {l : List D} {T : TypeId} {cells : List D} (hH : H b = some (T, cells)) (hn : H' b = none) (hu : Uni k l) (hl : n = l.length) (hc : (l.flatMap cellsOf).length = cells.length)
    (h : ∀ (j : Nat) (x y : D), cells[j]? = some x → (l.flatMap cellsOf)[j]? = some y → Frz H H' x y) : Frz H H' (.ref b 0 n k) (.list k l) := by
  subst hl
  exact .ref hH hn (fun i d hd => (hu d (List.mem_of_getElem? hd)).1) hc h

end Go.Proofs.YtcdihmhmoddppaaGreat

namespace Go.Proofs.YtcdihmhmoddppaaGreat
open Go.RowKit
set_option linter.unusedVariables false
set_option linter.unusedSimpArgs false

theorem Rep.seen_list {w : World} {H : Heap} {v : Value} {k : Nat} {l l' : List D} (h : Rep w H v (.list k l)) (hl : l'.length = l.length)
    (hs : ∀ (i : Nat) (d d' : D), l[i]? = some d → l'[i]? = some d' → (cellsOf d').length = (cellsOf d).length ∧ ∀ (j : Nat) (x x' : D), (cellsOf d)[j]? = some x → (cellsOf d')[j]? = some x' → Seen x x') : Rep w H v (.list k l') := by
  cases h with
  | @list _ _ a c vals hc hm h1 h2 h3 =>
    have at1 : ∀ (i j : Nat) (x' : D), cellAt l' i j = some x' → ∃ x, cellAt l i j = some x ∧ Seen x x' := fun i j x' hx => by
      unfold cellAt at hx ⊢
      cases hi' : l'[i]? with
      | none => simp [hi'] at hx
      | some d' =>
        simp only [hi', Option.bind_some] at hx
        have hlt : i < l.length := by rw [← hl]; exact (List.getElem?_eq_some_iff.1 hi').1
        obtain ⟨e1, e2⟩ := hs i l[i] d' (by simp [hlt]) hi'
        have hj : j < (cellsOf l[i]).length := by rw [← e1]; exact (List.getElem?_eq_some_iff.1 hx).1
        exact ⟨(cellsOf l[i])[j], by simp [hlt, hj], e2 j _ x' (by simp [hj]) hx⟩
    rw [← hl]
    refine Rep.list vals (by omega) hm (fun i d' hi' => ?_) (fun i j x' hx => ?_) (fun i j x' hx => ?_)
    · have hlt : i < l.length := by rw [← hl]; exact (List.getElem?_eq_some_iff.1 hi').1
      rw [(hs i l[i] d' (by simp [hlt]) hi').1]
      exact h1 i l[i] (by simp [hlt])
    · obtain ⟨x, hx1, _⟩ := at1 i j x' hx
      exact h2 i j x hx1
    · obtain ⟨x, hx1, hx2⟩ := at1 i j x' hx
      exact hx2.rep (h3 i j x hx1)

theorem Sta.seen_list {P : Program} {H : Heap} {e : Env} {o : Oper} {k : Nat} {l l' : List D} (h : Sta P H e o (.list k l)) (hl : l'.length = l.length)
    (hs : ∀ (i : Nat) (d d' : D), l[i]? = some d → l'[i]? = some d' → (cellsOf d').length = (cellsOf d).length ∧ ∀ (j : Nat) (x x' : D), (cellsOf d)[j]? = some x → (cellsOf d')[j]? = some x' → Seen x x') : Sta P H e o (.list k l') :=
  .mk fun ρ w ha ho => (h.go ρ w ha ho).mono fun v w' ⟨h1, h2, h3⟩ => ⟨h1.seen_list hl hs, h2, h3⟩

end Go.Proofs.YtcdihmhmoddppaaGreat

namespace Go.Proofs.YtcdihmhmoddppaaGreat
open Go.RowKit
set_option linter.unusedVariables false
set_option linter.unusedSimpArgs false

theorem DW.seeCells {C : Ctx} {c : Code} {e : Env} {H : Heap} {Q : Post} {b : Nat} {T : TypeId} {cells : List D} (cells' : List D) (hH : H b = some (T, cells)) (hl : cells'.length = cells.length)
    (hc : ∀ (j : Nat) (x x' : D), cells[j]? = some x → cells'[j]? = some x' → x'.isCell = true ∧ Seen x x') (hd : DW C c e (H.set b (T, cells')) Q) : DW C c e H Q := by
  have hn : ∀ b', H b' = none → H.set b (T, cells') b' = none := fun b' h => by
    by_cases hb : b' = b
    · rw [hb, hH] at h; cases h
    · rw [Heap.set_other _ _ hb]; exact h
  refine .mk fun a w hst => hd.go a w ⟨hst.size, hst.defers, fun t d ht => ?_, ?_, ?_⟩
  · obtain ⟨v, hv, hr⟩ := hst.env t d ht
    exact ⟨v, hv, hr.kept ⟨fun b' off v' h hw => ⟨hn b' h, hw⟩, fun b' cs T' h => ⟨cs, h, rfl⟩⟩⟩
  · have hk : Kept w H w (H.set b (T, cells')) := ⟨fun b' off v' h hw => ⟨hn b' h, hw⟩, fun b' cs T' h => ⟨cs, h, rfl⟩⟩
    refine ⟨?_, fun g cs hg => ⟨hn g (hst.heap.inv g cs hg).1, (hst.heap.inv g cs hg).2⟩⟩
    intro b' T' cl hx
    by_cases hb : b' = b
    · subst hb
      rw [Heap.set_self] at hx
      cases hx
      obtain ⟨cs, h1, h2, h3⟩ := hst.heap _ _ _ hH
      refine ⟨cs, h1, by omega, fun j x' hj => ?_⟩
      have hjl : j < cells.length := by rw [← hl]; exact (List.getElem?_eq_some_iff.1 hj).1
      have hx : cells[j]? = some cells[j] := by simp [hjl]
      obtain ⟨hcell, hs⟩ := hc j _ x' hx hj
      obtain ⟨_, v, hv, hr⟩ := h3 j _ hx
      exact ⟨hcell, v, hv, hs.rep (hr.kept hk)⟩
    · rw [Heap.set_other _ _ hb] at hx
      obtain ⟨cs, h1, h2, h3⟩ := hst.heap _ _ _ hx
      exact ⟨cs, h1, h2, fun j x hj => let ⟨hcell, v, hv, hr⟩ := h3 j x hj; ⟨hcell, v, hv, hr.kept hk⟩⟩
  · exact ⟨hst.ext.os, hst.ext.tape, hst.ext.output, hst.ext.size, fun b' hb h => let ⟨h1, h2⟩ := hst.ext.old b' hb h; ⟨hn b' h1, h2⟩, hst.ext.shape⟩

end Go.Proofs.YtcdihmhmoddppaaGreat

namespace Go.Proofs.YtcdihmhmoddppaaGreat
open Go.RowKit
set_option linter.unusedVariables false
set_option linter.unusedSimpArgs false

/-- The row stands in block bL; each slice has a block of its own, that is none of those of D0. -/
structure RowsOk (D0 : Nat → Prop) (H : Heap) (bL : Nat) (T E : TypeId) (k : Nat) (ls : List (List D)) (ds : List D) : Prop where
  row : H bL = some (T, ds)
  len : ds.length = ls.length
  is : ∀ (j : Nat) (h : j < ds.length) (h2 : j < ls.length), Uni k ls[j] ∧ ((ds[j] = .nil ∧ ls[j] = []) ∨ ∃ b, ¬ D0 b ∧ b ≠ bL ∧ ds[j] = .ref b 0 ls[j].length k ∧ H b = some (E, ls[j].flatMap cellsOf))
  dist : ∀ (i j : Nat) (h1 : i < ds.length) (h2 : j < ds.length), i ≠ j → ∀ b, ds[i].blk = some b → ds[j].blk ≠ some b

theorem RowsOk.init {D0 : Nat → Prop} {H : Heap} {bL : Nat} {T E : TypeId} {k n : Nat} (h : H bL = some (T, List.replicate n .nil)) : RowsOk D0 H bL T E k (List.replicate n []) (List.replicate n .nil) :=
  ⟨h, by simp, fun j h1 h2 => by
    rw [List.getElem_replicate, List.getElem_replicate]
    exact ⟨Uni.nil k, .inl ⟨rfl, rfl⟩⟩, fun i j h1 h2 _ b hb => by rw [List.getElem_replicate] at hb; cases hb⟩

theorem RowsOk.over {D0 : Nat → Prop} {H H' : Heap} {bL : Nat} {T E : TypeId} {k : Nat} {ls : List (List D)} {ds : List D} (h : RowsOk D0 H bL T E k ls ds) (ho : Over H H') : RowsOk D0 H' bL T E k ls ds :=
  ⟨ho _ _ h.row, h.len, fun j h1 h2 => ⟨(h.is j h1 h2).1, (h.is j h1 h2).2.imp id fun ⟨b, c1, c2, c3, c4⟩ => ⟨b, c1, c2, c3, ho _ _ c4⟩⟩, h.dist⟩

theorem RowsOk.frame {D0 : Nat → Prop} {H H' : Heap} {bL : Nat} {T E : TypeId} {k : Nat} {ls : List (List D)} {ds : List D} (h : RowsOk D0 H bL T E k ls ds) (ho : ∀ c z, H c = some z → (c = bL ∨ ¬ D0 c) → H' c = some z) : RowsOk D0 H' bL T E k ls ds :=
  ⟨ho _ _ h.row (.inl rfl), h.len, fun j h1 h2 => ⟨(h.is j h1 h2).1, (h.is j h1 h2).2.imp id fun ⟨b, c1, c2, c3, c4⟩ => ⟨b, c1, c2, c3, ho _ _ c4 (.inr c1)⟩⟩, h.dist⟩

/-- A slice's own block. -/
theorem RowsOk.blk {D0 : Nat → Prop} {H : Heap} {bL : Nat} {T E : TypeId} {k : Nat} {ls : List (List D)} {ds : List D} (h : RowsOk D0 H bL T E k ls ds) {j b : Nat} (h1 : j < ds.length) (hb : ds[j].blk = some b) : ¬ D0 b ∧ b ≠ bL ∧ H b ≠ none := by
  have hlen := h.len
  rcases (h.is j h1 (by omega)).2 with ⟨c1, _⟩ | ⟨b', c1, c2, c3, c4⟩
  · rw [c1] at hb; cases hb
  · rw [c3] at hb; cases hb; exact ⟨c1, c2, by rw [c4]; simp⟩

theorem RowsOk.more {D0 : Nat → Prop} {H : Heap} {bL : Nat} {T E : TypeId} {k : Nat} {ls : List (List D)} {ds : List D} {b0 : Nat} (h : RowsOk D0 H bL T E k ls ds) (hn : H b0 = none) : RowsOk (fun c => D0 c ∨ c = b0) H bL T E k ls ds :=
  ⟨h.row, h.len, fun j h1 h2 => ⟨(h.is j h1 h2).1, (h.is j h1 h2).2.imp id fun ⟨b, c1, c2, c3, c4⟩ => ⟨b, (fun hh => hh.elim c1 fun e => by rw [e, hn] at c4; cases c4), c2, c3, c4⟩⟩, h.dist⟩

theorem RowsOk.less {D0 D1 : Nat → Prop} {H : Heap} {bL : Nat} {T E : TypeId} {k : Nat} {ls : List (List D)} {ds : List D} (h : RowsOk D1 H bL T E k ls ds) (hd : ∀ c, D0 c → D1 c) : RowsOk D0 H bL T E k ls ds :=
  ⟨h.row, h.len, fun j h1 h2 => ⟨(h.is j h1 h2).1, (h.is j h1 h2).2.imp id fun ⟨b, c1, c2, c3, c4⟩ => ⟨b, fun hh => c1 (hd b hh), c2, c3, c4⟩⟩, h.dist⟩

theorem Acc.cell {H0 H : Heap} {d : D} {k : Nat} {T : TypeId} {l : List D} (h : Acc H0 H d k T l) : cellsOf d = [d] ∧ d.isCell = true := by
  rcases h.is with ⟨rfl, _⟩ | ⟨b, _, rfl, _⟩ <;> exact ⟨rfl, rfl⟩

/-- What was there, but for a slice's own block. -/
def butBlk (H : Heap) (d : D) : Heap := fun c => if d.blk = some c then none else H c

theorem butBlk_over (H : Heap) (d : D) : Over (butBlk H d) H := fun c x h => by
  unfold butBlk at h
  split at h
  · cases h
  · exact h

theorem RowsOk.acc {D0 : Nat → Prop} {H : Heap} {bL : Nat} {T E : TypeId} {k : Nat} {ls : List (List D)} {ds : List D} (h : RowsOk D0 H bL T E k ls ds) {j : Nat} (h1 : j < ds.length) (h2 : j < ls.length) : Acc (butBlk H ds[j]) H ds[j] k E ls[j] := by
  obtain ⟨u, hi⟩ := h.is j h1 h2
  refine ⟨u, hi.imp id fun ⟨b, c1, c2, c3, c4⟩ => ⟨b, ?_, c3, c4⟩⟩
  unfold butBlk
  rw [c3]
  exact if_pos rfl

/-- A slice is put into the row. -/
theorem RowsOk.put {D0 : Nat → Prop} {H H' B : Heap} {bL : Nat} {T E : TypeId} {k : Nat} {ls : List (List D)} {ds : List D} (h : RowsOk D0 H bL T E k ls ds) (hD : ∀ c, D0 c → H c ≠ none) {a : Nat} (ha : a < ds.length) {d' : D} {l' : List D}
    (hacc : Acc B H' d' k E l') (hB : ∀ b, B b = none → H b = none ∨ ds[a].blk = some b) (hkeep : ∀ c z, H c = some z → ds[a].blk ≠ some c → H' c = some z) : RowsOk D0 (H'.set bL (T, ds.set a d')) bL T E k (ls.set a l') (ds.set a d') := by
  have hlen := h.len
  have hown : ∀ b, ds[a].blk = some b → ¬ D0 b ∧ b ≠ bL := fun b hb => by
    rcases (h.is a ha (by omega)).2 with ⟨c1, _⟩ | ⟨b', c1, c2, c3, _⟩
    · rw [c1] at hb; cases hb
    · rw [c3] at hb; cases hb; exact ⟨c1, c2⟩
  have hnew : ∀ b, d'.blk = some b → ¬ D0 b ∧ b ≠ bL ∧ ∀ (j : Nat) (hj : j < ds.length), j ≠ a → ds[j].blk ≠ some b := fun b hb => by
    have hBb : B b = none := by
      rcases hacc.is with ⟨c1, _⟩ | ⟨b', c1, c2, _⟩
      · rw [c1] at hb; cases hb
      · rw [c2] at hb; cases hb; exact c1
    rcases hB b hBb with hn | ho
    · refine ⟨fun hd => hD b hd hn, (fun he => by rw [he, h.row] at hn; cases hn), fun j hj _ hbl => ?_⟩
      rcases (h.is j hj (by omega)).2 with ⟨c1, _⟩ | ⟨b', c1, c2, c3, c4⟩
      · rw [c1] at hbl; cases hbl
      · rw [c3] at hbl; cases hbl; rw [c4] at hn; cases hn
    · exact ⟨(hown b ho).1, (hown b ho).2, fun j hj hja hbl => h.dist a j ha hj (fun e => hja e.symm) b ho hbl⟩
  refine ⟨Heap.set_self _ _ _, by simp [hlen], fun j h1 h2 => ?_, fun i j h1 h2 hij b hb => ?_⟩
  · have h1' : j < ds.length := by simpa using h1
    have h2' : j < ls.length := by simpa using h2
    rw [List.getElem_set, List.getElem_set]
    by_cases hja : a = j
    · subst hja
      rw [if_pos rfl, if_pos rfl]
      refine ⟨hacc.uni, hacc.is.imp id fun ⟨b, c1, c2, c3⟩ => ?_⟩
      have := hnew b (by rw [c2]; rfl)
      exact ⟨b, this.1, this.2.1, c2, by rw [Heap.set_other _ _ this.2.1]; exact c3⟩
    · rw [if_neg hja, if_neg hja]
      refine ⟨(h.is j h1' h2').1, (h.is j h1' h2').2.imp id fun ⟨b, c1, c2, c3, c4⟩ => ⟨b, c1, c2, c3, ?_⟩⟩
      rw [Heap.set_other _ _ c2]
      exact hkeep b _ c4 fun ho => h.dist a j ha h1' hja b ho (by rw [c3]; rfl)
  · have h1' : i < ds.length := by simpa using h1
    have h2' : j < ds.length := by simpa using h2
    rw [List.getElem_set] at hb
    rw [List.getElem_set]
    by_cases hia : a = i
    · subst hia
      rw [if_pos rfl] at hb
      rw [if_neg hij]
      exact (hnew b hb).2.2 j h2' (fun e => hij e.symm)
    · rw [if_neg hia] at hb
      by_cases hja : a = j
      · subst hja
        rw [if_pos rfl]
        exact fun hb' => (hnew b hb').2.2 i h1' (fun e => hia e.symm) hb
      · rw [if_neg hja]
        exact h.dist i j h1' h2' hij b hb

/-- The row and its slices are let go. -/
theorem RowsOk.frz {D0 : Nat → Prop} {H H1 : Heap} {bL : Nat} {T E : TypeId} {k n : Nat} {ls : List (List D)} {ds : List D} (h : RowsOk D0 H bL T E k ls ds) (hn : n = ls.length) (hL : H1 bL = none) (hb : ∀ b, ¬ D0 b → H1 b = none) : Frz H H1 (.ref bL 0 n 1) (.list 1 (ls.map (.list k))) := by
  have hu : ∀ l : List (List D), (l.map (D.list k)).flatMap cellsOf = l.map (D.list k) := fun l => flat_cells1 (fun _ => rfl) l
  refine Frz.row h.row hL (uni_map1 (fun _ => rfl) (fun _ => rfl) ls) (by simp [hn]) (by rw [hu, List.length_map]; exact h.len.symm) fun j x y hx hy => ?_
  rw [hu] at hy
  have hj : j < ds.length := (List.getElem?_eq_some_iff.1 hx).1
  have hj2 : j < ls.length := by rw [← h.len]; exact hj
  rw [List.getElem?_eq_getElem hj] at hx
  rw [List.getElem?_map, List.getElem?_eq_getElem hj2] at hy
  cases hx; cases hy
  obtain ⟨u, hi⟩ := h.is j hj hj2
  rcases hi with ⟨c1, c2⟩ | ⟨b, c1, c2, c3, c4⟩
  · rw [c1, c2]; exact .nil k
  · rw [c3]; exact Frz.list c4 (hb b c1) u rfl

/-- A heap of which no more is said than this. -/
theorem DW.asH {C : Ctx} {c : Code} {e : Env} {H : Heap} {Q : Post} (R : Heap → Prop) (hR : R H) (h : ∀ H2, R H2 → DW C c e H2 Q) : DW C c e H Q := h H hR
theorem RO.asH {C : Ctx} {ops rest : List Oper} {e : Env} {H : Heap} {K : Env → Heap → Prop} (R : Heap → Prop) (hR : R H) (h : ∀ H2, R H2 → RO C ops rest e H2 K) : RO C ops rest e H K := h H hR

end Go.Proofs.YtcdihmhmoddppaaGreat

namespace Go.Proofs.YtcdihmhmoddppaaGreat
open Go.RowKit
set_option linter.unusedVariables false
set_option linter.unusedSimpArgs false

abbrev strD (l : List UInt8) : D := .str ⟨l.toArray⟩

section
variable {P : Program} {H : Heap} {e : Env} {dst : Option Tmp} {ty : TypeId} {pos : String} {af : Array Edge} {gd : Option (Nat × Bool)}

theorem rep_str {w : World} {v : Value} {s : ByteArray} (h : Rep w H v (.str s)) : v = .string s := by cases h; rfl

theorem bytes_app (a b : List UInt8) : (⟨a.toArray⟩ : ByteArray) ++ ⟨b.toArray⟩ = ⟨(a ++ b).toArray⟩ := by
  apply ByteArray.ext
  simp

/-- A sum of strings. -/
theorem s_strAdd {x y : Operand} {tx t2 : TypeId} {a b : List UInt8} (hx : e.ev x = some (strD a)) (hy : e.ev y = some (strD b)) (hl : a.length + b.length ≤ 4611686018427387904) :
    Sta P H e ⟨dst, .binOp .add tx x y t2, ty, pos, af, gd⟩ (strD (a ++ b)) := .mk fun ρ w ha ho => by
  have h1 := rep_str (ha x _ hx)
  have h2 := rep_str (ha y _ hy)
  have hn : ¬ (((⟨a.toArray⟩ : ByteArray).size + (⟨b.toArray⟩ : ByteArray).size : Nat) : Int) > IntKind.i64.max := by
    have e1 : (⟨a.toArray⟩ : ByteArray).size = a.length := by simp [ByteArray.size]
    have e2 : (⟨b.toArray⟩ : ByteArray).size = b.length := by simp [ByteArray.size]
    have e3 : IntKind.i64.max = 9223372036854775807 := by decide
    rw [e1, e2, e3]
    omega
  simp only [OpTo, execOp, h1, h2, eqGuard, binOp, Op.stringOp, bind, pure, Sem.run, Sem.bind, ne_eq, not_true, if_false, Bool.not_eq_true, hn]
  exact ⟨by rw [bytes_app]; exact .str _, ho, .refl _ _⟩

/-- A comparison of strings. -/
theorem s_strEq {x y : Operand} {tx t2 : TypeId} {a b : List UInt8} (hx : e.ev x = some (strD a)) (hy : e.ev y = some (strD b)) :
    Sta P H e ⟨dst, .binOp .eql tx x y t2, ty, pos, af, gd⟩ (.bool (a == b)) := .mk fun ρ w ha ho => by
  have h1 := rep_str (ha x _ hx)
  have h2 := rep_str (ha y _ hy)
  simp only [OpTo, execOp, h1, h2, eqGuard, binOp, Op.stringOp, bind, pure, Sem.run, Sem.bind, ne_eq, not_true, if_false, Bool.not_eq_true, ByteArray.toList_mk]
  exact ⟨.bool _, ho, .refl _ _⟩

theorem s_strNe {x y : Operand} {tx t2 : TypeId} {a b : List UInt8} (hx : e.ev x = some (strD a)) (hy : e.ev y = some (strD b)) :
    Sta P H e ⟨dst, .binOp .neq tx x y t2, ty, pos, af, gd⟩ (.bool (!(a == b))) := .mk fun ρ w ha ho => by
  have h1 := rep_str (ha x _ hx)
  have h2 := rep_str (ha y _ hy)
  simp only [OpTo, execOp, h1, h2, eqGuard, binOp, Op.stringOp, bind, pure, Sem.run, Sem.bind, ne_eq, not_true, if_false, Bool.not_eq_true, ByteArray.toList_mk]
  exact ⟨.bool _, ho, .refl _ _⟩

/-- A part of a string. -/
theorem s_strCut {t : TypeId} {x lo hi : Operand} {l : List UInt8} {a b : Nat} (hu : P.underlying t = some .string) (hx : e.ev x = some (strD l)) (hlo : e.ev lo = some (I a)) (hhi : e.ev hi = some (I b)) (hab : a ≤ b) (hb : b ≤ l.length) :
    Sta P H e ⟨dst, .slice t x (some lo) (some hi) none, ty, pos, af, gd⟩ (strD ((l.take b).drop a)) := .mk fun ρ w ha ho => by
  have h1 := rep_str (ha x _ hx)
  have h2 := rep_int (ha lo _ hlo)
  have h3 := rep_int (ha hi _ hhi)
  have hs : (⟨l.toArray⟩ : ByteArray).size = l.length := by simp [ByteArray.size]
  have hr := run_slice_string (P := P) w t ⟨l.toArray⟩ .i64 .i64 (a : Int) (b : Int) hu (by omega) (by omega) (by rw [hs]; omega)
  have hr' : (Instr.sliceAt t (.string ⟨l.toArray⟩) (some (.int .i64 a)) (some (.int .i64 b)) none).run P w = .ok (.string ((⟨l.toArray⟩ : ByteArray).extract a b)) w := by
    simpa [Instr.sliceAt, run_underlying hu] using hr
  have hx2 : (⟨l.toArray⟩ : ByteArray).extract a b = ⟨((l.take b).drop a).toArray⟩ := by
    apply ByteArray.ext
    simp [ByteArray.data_extract]
    rw [List.drop_take]
  simp [OpTo, execOp, h1, h2, h3, hr']
  exact ⟨by rw [hx2]; exact .str _, ho, .refl _ _⟩

/-- A number as a byte. -/
theorem s_byte {t u : TypeId} {x : Operand} {n : Nat} (hu : P.underlying u = some (.int .u8)) (ht : P.underlying t = some (.int .i64)) (hx : e.ev x = some (I n)) (hn : n < 256) :
    Sta P H e ⟨dst, .convert t u x, ty, pos, af, gd⟩ (.int .u8 n) := .mk fun ρ w ha ho => by
  have h1 := rep_int (ha x _ hx)
  have hw : IntKind.u8.wrap (n : Int) = n := by
    simp [IntKind.wrap, IntKind.signed, IntKind.bits]
    omega
  simp [OpTo, execOp, h1, convert, run_underlying hu, run_underlying ht, Conv.intToInt, hw, Sem.run]
  exact ⟨.int _ _, ho, .refl _ _⟩

/-- A quotient. -/
theorem s_quo {x y : Operand} {tx t2 : TypeId} {a b : Int} (hx : e.ev x = some (I a)) (hy : e.ev y = some (I b)) (h0 : 0 ≤ a) (h1 : a ≤ 9223372036854775807) (hb : 0 < b) :
    Sta P H e ⟨dst, .binOp .quo tx x y t2, ty, pos, af, gd⟩ (I (a / b)) := .mk fun ρ w ha ho => by
  have h2 := rep_int (ha x _ hx)
  have h3 := rep_int (ha y _ hy)
  have hne : ¬ b = 0 := by omega
  have hr : 0 ≤ a / b ∧ a / b ≤ a := ⟨Int.ediv_nonneg h0 (by omega), Int.ediv_le_self b h0⟩
  simp only [OpTo, execOp, h2, h3, eqGuard, binOp, Op.intDiv, bind, pure, Sem.run, Sem.bind, ne_eq, not_true, if_false, hne, Bool.not_eq_true]
  rw [Int.tdiv_eq_ediv_of_nonneg h0, wrap_of_fits (by omega)]
  exact ⟨.int _ _, ho, .refl _ _⟩

/-- A text of one byte. -/
theorem s_textOne {t u E : TypeId} {x : Operand} {n : Nat} (ht : P.underlying t = some (.slice E)) (hE : P.underlying E = some (.int .u8)) (hu : P.underlying u = some .string) (hx : e.ev x = some (.list 1 [.int .u8 n])) :
    Sta P H e ⟨dst, .convert t u x, ty, pos, af, gd⟩ (strD [UInt8.ofNat n]) := .mk fun ρ w ha ho => by
  have h := ha x _ hx
  generalize hv : ρ x = v at h
  cases h with
  | list vals hc hm h1 h2 h3 =>
    rename_i ao c
    obtain ⟨b, off, rfl, hH, hw⟩ := h2 0 0 (.int .u8 n) rfl
    have hr := h3 0 0 (.int .u8 n) rfl
    rw [rep_int hr] at hw
    have hc1 := run_convert_bytes_arg (P := P) w t E ht hE b off 1 c [(n : Int)] rfl (fun i hi => by
      have : i = 0 := by omega
      subst this
      simpa using hw) u hu
    have hs : strOfNums [(n : Int)] = ⟨[UInt8.ofNat n].toArray⟩ := by simp [strOfNums]
    rw [hs] at hc1
    simp [OpTo, execOp, hv, hc1]
    exact ⟨.str _, ho, .refl _ _⟩

end

/-- Behind a call that leaves all that was there as it was. -/
theorem Ext.of_below {w w' : World} (H : Heap) (h : Below w.heap.size w w') : Ext w H w' H :=
  ⟨h.os, h.tape, h.output, h.size, fun b hb hH => ⟨hH, h.block b hb⟩, fun b cs T hc => ⟨cs, by rw [h.block b (lt_of_block hc)]; exact hc, rfl⟩⟩

/-- A call whose contract is on the world: it hands back this value and leaves all that was there as it was. -/
theorem pure_of_calls {P : Program} {f : FuncId} {ds : List D} {d : D} (hb : goBody P f) (h : ∀ (H : Heap) (w : World) (args : Array Value), HOK w H → RepsA w H args ds → Calls P f args w fun en w' => ∃ v, en = .returned v ∧ Rep w' H v d ∧ Below w.heap.size w w') : Pure P f ds d :=
  fun H => ⟨hb, fun w args ho hr => (h H w args ho hr).mono fun en w' ⟨v, h1, h2, h3⟩ => ⟨v, h1, h2, ho.ext (Ext.of_below H h3) (fun b x hx => h3.block b (ho.lt hx)), Ext.of_below H h3⟩⟩

end Go.Proofs.YtcdihmhmoddppaaGreat
