/-
  More operations: parts of mutable slices, an element cleared, an append that has room, a field of a struct's value. No condition.
-/
import Derived.Test.YtcdihmhmoddppaaGreatKRc5
import Derived.Test.YtcdihmhmoddppaaGreatKRc9
import Derived.Test.YtcdihmhmoddppaaGreatKRc10

namespace Go.Proofs.YtcdihmhmoddppaaGreat
open Go.RowKit
set_option linter.unusedVariables false
set_option linter.unusedSimpArgs false

/-- Data with names for blocks, and data. -/
inductive Rn (R : Nat → Nat → Prop) : D → D → Prop
  | int (k : IntKind) (n : Int) : Rn R (.int k n) (.int k n)
  | bool (b : Bool) : Rn R (.bool b) (.bool b)
  | str (s : ByteArray) : Rn R (.str s) (.str s)
  | nil : Rn R .nil .nil
  | list {k : Nat} {l l' : List D} (hl : l.length = l'.length) (h : ∀ (i : Nat) (d d' : D), l[i]? = some d → l'[i]? = some d' → Rn R d d') : Rn R (.list k l) (.list k l')
  | agg {l l' : List D} (hl : l.length = l'.length) (h : ∀ (i : Nat) (d d' : D), l[i]? = some d → l'[i]? = some d' → Rn R d d') : Rn R (.agg l) (.agg l')
  | ref {b b' : Nat} (off len k : Nat) (h : R b b') : Rn R (.ref b off len k) (.ref b' off len k)
  | ptr {b b' : Nat} (off : Nat) (h : R b b') : Rn R (.ptr b off) (.ptr b' off)
  | ipt {k : Nat} {l l' : List D} (i j : Nat) (hl : l.length = l'.length) (h : ∀ (i : Nat) (d d' : D), l[i]? = some d → l'[i]? = some d' → Rn R d d') : Rn R (.ipt k l i j) (.ipt k l' i j)
  | fn (f : FuncId) {l l' : List D} (hl : l.length = l'.length) (h : ∀ (i : Nat) (d d' : D), l[i]? = some d → l'[i]? = some d' → Rn R d d') : Rn R (.fn f l) (.fn f l')
  | tup {l l' : List D} (hl : l.length = l'.length) (h : ∀ (i : Nat) (d d' : D), l[i]? = some d → l'[i]? = some d' → Rn R d d') : Rn R (.tup l) (.tup l')

def RnL (R : Nat → Nat → Prop) (l l' : List D) : Prop := l.length = l'.length ∧ ∀ (i : Nat) (d d' : D), l[i]? = some d → l'[i]? = some d' → Rn R d d'

theorem Rn.mono {R R' : Nat → Nat → Prop} (hR : ∀ a b, R a b → R' a b) {d d' : D} (h : Rn R d d') : Rn R' d d' := by
  induction h with
  | int k n => exact .int k n
  | bool b => exact .bool b
  | str s => exact .str s
  | nil => exact .nil
  | list hl h ih => exact .list hl ih
  | agg hl h ih => exact .agg hl ih
  | ref off len k h => exact .ref off len k (hR _ _ h)
  | ptr off h => exact .ptr off (hR _ _ h)
  | ipt i j hl h ih => exact .ipt i j hl ih
  | fn f hl h ih => exact .fn f hl ih
  | tup hl h ih => exact .tup hl ih

section
variable {R : Nat → Nat → Prop}

theorem RnL.mono {R' : Nat → Nat → Prop} (hR : ∀ a b, R a b → R' a b) {l l' : List D} (h : RnL R l l') : RnL R' l l' := ⟨h.1, fun i d d' h1 h2 => (h.2 i d d' h1 h2).mono hR⟩

theorem RnL.nil : RnL R [] [] := ⟨rfl, fun i d d' h => by simp at h⟩

theorem RnL.cons {d d' : D} {l l' : List D} (h : Rn R d d') (g : RnL R l l') : RnL R (d :: l) (d' :: l') := ⟨by simp [g.1], fun i x x' h1 h2 => by
  cases i with
  | zero => cases h1; cases h2; exact h
  | succ i => exact g.2 i x x' (by simpa using h1) (by simpa using h2)⟩

theorem RnL.one {d d' : D} (h : Rn R d d') : RnL R [d] [d'] := .cons h .nil

theorem RnL.uncons {d : D} {l l' : List D} (h : RnL R (d :: l) l') : ∃ d' r, l' = d' :: r ∧ Rn R d d' ∧ RnL R l r := by
  cases l' with
  | nil => have := h.1; simp at this
  | cons d' r => exact ⟨d', r, rfl, h.2 0 d d' rfl rfl, by simpa using h.1, fun i x x' h1 h2 => h.2 (i + 1) x x' (by simpa using h1) (by simpa using h2)⟩

theorem RnL.unnil {l' : List D} (h : RnL R [] l') : l' = [] := by
  have := h.1
  exact List.length_eq_zero_iff.1 (by simpa using this.symm)

theorem RnL.get {l l' : List D} (h : RnL R l l') {i : Nat} {d : D} (hd : l[i]? = some d) : ∃ d', l'[i]? = some d' ∧ Rn R d d' := by
  have hi := (List.getElem?_eq_some_iff.1 hd).1
  have hi' : i < l'.length := by rw [← h.1]; exact hi
  exact ⟨l'[i], by simp [hi'], h.2 i d _ hd (by simp [hi'])⟩

theorem RnL.append {l l' m m' : List D} (h : RnL R l l') (g : RnL R m m') : RnL R (l ++ m) (l' ++ m') := by
  refine ⟨by simp [h.1, g.1], fun i d d' h1 h2 => ?_⟩
  by_cases hi : i < l.length
  · rw [List.getElem?_append_left hi] at h1
    rw [List.getElem?_append_left (by rw [← h.1]; exact hi)] at h2
    exact h.2 i d d' h1 h2
  · rw [List.getElem?_append_right (by omega)] at h1
    rw [List.getElem?_append_right (by rw [← h.1]; omega), ← h.1] at h2
    exact g.2 _ d d' h1 h2

theorem RnL.take {l l' : List D} (h : RnL R l l') (n : Nat) : RnL R (l.take n) (l'.take n) := by
  refine ⟨by simp [h.1], fun i d d' h1 h2 => ?_⟩
  rw [List.getElem?_take] at h1 h2
  split at h1
  · rename_i hi
    rw [if_pos hi] at h2
    exact h.2 i d d' h1 h2
  · cases h1

theorem RnL.drop {l l' : List D} (h : RnL R l l') (n : Nat) : RnL R (l.drop n) (l'.drop n) := by
  refine ⟨by simp [h.1], fun i d d' h1 h2 => ?_⟩
  rw [List.getElem?_drop] at h1 h2
  exact h.2 _ d d' h1 h2

theorem Rn.cells {d d' : D} (h : Rn R d d') : RnL R (cellsOf d) (cellsOf d') := by
  cases h with
  | agg hl h => exact ⟨hl, h⟩
  | int k n => exact .one (.int k n)
  | bool b => exact .one (.bool b)
  | str s => exact .one (.str s)
  | nil => exact .one .nil
  | list hl h => exact .one (.list hl h)
  | ref off len k h => exact .one (.ref off len k h)
  | ptr off h => exact .one (.ptr off h)
  | ipt i j hl h => exact .one (.ipt i j hl h)
  | fn f hl h => exact .one (.fn f hl h)
  | tup hl h => exact .one (.tup hl h)

theorem Rn.isCell {d d' : D} (h : Rn R d d') : d'.isCell = d.isCell := by cases h <;> rfl

theorem RnL.all_cell {l l' : List D} (h : RnL R l l') (hc : l.all D.isCell = true) : ∀ z ∈ l', z.isCell = true := fun z hz => by
  obtain ⟨i, hi, rfl⟩ := List.getElem_of_mem hz
  have hi' : i < l.length := by rw [h.1]; exact hi
  rw [(h.2 i l[i] l'[i] (by simp [hi']) (by simp [hi])).isCell]
  exact List.all_eq_true.1 hc _ (List.getElem_mem hi')

theorem RnL.flat : ∀ {l l' : List D}, RnL R l l' → RnL R (l.flatMap cellsOf) (l'.flatMap cellsOf)
  | [], l', h => by rw [h.unnil]; exact .nil
  | d :: l, l', h => by
    obtain ⟨d', r, rfl, h1, h2⟩ := h.uncons
    simp only [List.flatMap_cons]
    exact h1.cells.append h2.flat

theorem RnL.cellAt {l l' : List D} (h : RnL R l l') {i j : Nat} {d : D} (hd : cellAt l i j = some d) : ∃ d', Go.Proofs.YtcdihmhmoddppaaGreat.cellAt l' i j = some d' ∧ Rn R d d' := by
  unfold Go.Proofs.YtcdihmhmoddppaaGreat.cellAt at hd ⊢
  cases hx : l[i]? with
  | none => rw [hx] at hd; cases hd
  | some el =>
    rw [hx] at hd
    obtain ⟨el', h1, h2⟩ := h.get hx
    rw [h1]
    exact h2.cells.get hd

theorem RnL.setMany {l l' ds ds' : List D} (h : RnL R l l') (g : RnL R ds ds') (off : Nat) : RnL R (setMany l off ds) (Go.Proofs.YtcdihmhmoddppaaGreat.setMany l' off ds') := by
  unfold Go.Proofs.YtcdihmhmoddppaaGreat.setMany
  rw [← g.1]
  exact ((h.take off).append g).append (h.drop _)

theorem Rn.lit {d : D} (h : litOk d = true) : Rn R d d := by cases d <;> simp [litOk] at h <;> constructor

theorem RnL.lits : ∀ {l : List D}, l.all litOk = true → RnL R l l
  | [], _ => .nil
  | d :: l, h => by
    simp only [List.all_cons, Bool.and_eq_true] at h
    exact .cons (.lit h.1) (RnL.lits h.2)

/-- No block is named. -/
def D.closed : D → Bool
  | .int _ _ | .bool _ | .str _ | .nil => true
  | .ref .. | .ptr .. => false
  | .list _ l => closedL l
  | .agg l => closedL l
  | .ipt _ l _ _ => closedL l
  | .fn _ l => closedL l
  | .tup l => closedL l
where closedL : List D → Bool
  | [] => true
  | d :: l => d.closed && closedL l

theorem closedL_get : ∀ {l : List D}, D.closed.closedL l = true → ∀ {i : Nat} {d : D}, l[i]? = some d → d.closed = true
  | [], _, i, d, h => by simp at h
  | x :: l, hl, i, d, h => by
    simp only [D.closed.closedL, Bool.and_eq_true] at hl
    cases i with
    | zero => cases h; exact hl.1
    | succ i => exact closedL_get hl.2 (i := i) (by simpa using h)

theorem list_ext {l l' : List D} (hl : l.length = l'.length) (h : ∀ (i : Nat) (d d' : D), l[i]? = some d → l'[i]? = some d' → d' = d) : l' = l := by
  apply List.ext_getElem?
  intro i
  by_cases hi : i < l.length
  · have hi' : i < l'.length := by omega
    have := h i l[i] l'[i] (by simp [hi]) (by simp [hi'])
    simp [hi, hi', this]
  · rw [List.getElem?_eq_none (by omega), List.getElem?_eq_none (by omega)]

theorem Rn.closed_eq {d d' : D} (h : Rn R d d') : d.closed = true → d' = d := by
  induction h with
  | int k n => exact fun _ => rfl
  | bool b => exact fun _ => rfl
  | str s => exact fun _ => rfl
  | nil => exact fun _ => rfl
  | ref off len k h => intro hc; simp [D.closed] at hc
  | ptr off h => intro hc; simp [D.closed] at hc
  | list hl h ih => intro hc; simp only [D.closed] at hc; rw [list_ext hl fun i d d' h1 h2 => ih i d d' h1 h2 (closedL_get hc h1)]
  | agg hl h ih => intro hc; simp only [D.closed] at hc; rw [list_ext hl fun i d d' h1 h2 => ih i d d' h1 h2 (closedL_get hc h1)]
  | ipt i j hl h ih => intro hc; simp only [D.closed] at hc; rw [list_ext hl fun i d d' h1 h2 => ih i d d' h1 h2 (closedL_get hc h1)]
  | fn f hl h ih => intro hc; simp only [D.closed] at hc; rw [list_ext hl fun i d d' h1 h2 => ih i d d' h1 h2 (closedL_get hc h1)]
  | tup hl h ih => intro hc; simp only [D.closed] at hc; rw [list_ext hl fun i d d' h1 h2 => ih i d d' h1 h2 (closedL_get hc h1)]

mutual
theorem Rn.closed : ∀ (d : D), d.closed = true → Rn R d d
  | .int k n, _ => .int k n
  | .bool b, _ => .bool b
  | .str s, _ => .str s
  | .nil, _ => .nil
  | .ref .., h => by simp [D.closed] at h
  | .ptr .., h => by simp [D.closed] at h
  | .list k l, h => by simp only [D.closed] at h; have g := RnL.closed l h; exact .list g.1 g.2
  | .agg l, h => by simp only [D.closed] at h; have g := RnL.closed l h; exact .agg g.1 g.2
  | .ipt k l i j, h => by simp only [D.closed] at h; have g := RnL.closed l h; exact .ipt i j g.1 g.2
  | .fn f l, h => by simp only [D.closed] at h; have g := RnL.closed l h; exact .fn f g.1 g.2
  | .tup l, h => by simp only [D.closed] at h; have g := RnL.closed l h; exact .tup g.1 g.2
theorem RnL.closed : ∀ (l : List D), D.closed.closedL l = true → RnL R l l
  | [], _ => .nil
  | d :: l, h => by
    simp only [D.closed.closedL, Bool.and_eq_true] at h
    exact .cons (Rn.closed d h.1) (RnL.closed l h.2)
end

theorem RnL.closed_eq {l l' : List D} (h : RnL R l l') (hc : D.closed.closedL l = true) : l' = l := list_ext h.1 fun i d d' h1 h2 => (h.2 i d d' h1 h2).closed_eq (closedL_get hc h1)

/-- The same name, the same block: the same data. -/
theorem Rn.fn_eq (hf : ∀ a b b', R a b → R a b' → b = b') {d d1 : D} (h : Rn R d d1) : ∀ {d2 : D}, Rn R d d2 → d1 = d2 := by
  have key : ∀ {l l1 l2 : List D}, l.length = l1.length → l.length = l2.length → (∀ (i : Nat) (d d' : D), l[i]? = some d → l1[i]? = some d' → ∀ {d2 : D}, Rn R d d2 → d' = d2) →
      (∀ (i : Nat) (d d' : D), l[i]? = some d → l2[i]? = some d' → Rn R d d') → l1 = l2 := fun {l l1 l2} h1 h2 ih g => by
    refine (list_ext (by omega) fun i d d' e1 e2 => ?_).symm
    have hi := (List.getElem?_eq_some_iff.1 e1).1
    have hi' : i < l.length := by omega
    exact (ih i l[i] d (by simp [hi']) e1 (g i l[i] d' (by simp [hi']) e2)).symm
  induction h with
  | int k n => intro d2 g; cases g; rfl
  | bool b => intro d2 g; cases g; rfl
  | str s => intro d2 g; cases g; rfl
  | nil => intro d2 g; cases g; rfl
  | list hl h ih => intro d2 g; cases g with | list hl2 g => rw [key hl hl2 ih g]
  | agg hl h ih => intro d2 g; cases g with | agg hl2 g => rw [key hl hl2 ih g]
  | ref off len k h => intro d2 g; cases g with | ref _ _ _ g => rw [hf _ _ _ h g]
  | ptr off h => intro d2 g; cases g with | ptr _ g => rw [hf _ _ _ h g]
  | ipt i j hl h ih => intro d2 g; cases g with | ipt _ _ hl2 g => rw [key hl hl2 ih g]
  | fn f hl h ih => intro d2 g; cases g with | fn _ hl2 g => rw [key hl hl2 ih g]
  | tup hl h ih => intro d2 g; cases g with | tup hl2 g => rw [key hl hl2 ih g]

theorem RnL.fn_eq (hf : ∀ a b b', R a b → R a b' → b = b') {l l1 l2 : List D} (h : RnL R l l1) (g : RnL R l l2) : l1 = l2 := by
  refine (list_ext (by have := h.1; have := g.1; omega) fun i d d' e1 e2 => ?_).symm
  have hi := (List.getElem?_eq_some_iff.1 e1).1
  have hi' : i < l.length := by rw [h.1]; exact hi
  exact ((h.2 i l[i] d (by simp [hi']) e1).fn_eq hf (g.2 i l[i] d' (by simp [hi']) e2)).symm

/-! ### Slots -/

def RelE (R : Nat → Nat → Prop) (es er : Env) : Prop := ∀ (t : Nat) (d : D), es.get t = some d → ∃ d', er.get t = some d' ∧ Rn R d d'

theorem RelE.mono {R' : Nat → Nat → Prop} (hR : ∀ a b, R a b → R' a b) {es er : Env} (h : RelE R es er) : RelE R' es er := fun t d hd => by
  obtain ⟨d', h1, h2⟩ := h t d hd
  exact ⟨d', h1, h2.mono hR⟩

theorem constD_lit {v : Value} {d : D} (h : constD v = some d) : litOk d = true := by
  unfold constD at h
  split at h <;> cases h <;> rfl

theorem RelE.ev {es er : Env} (h : RelE R es er) {x : Operand} {d : D} (hd : es.ev x = some d) : ∃ d', er.ev x = some d' ∧ Rn R d d' := by
  cases x with
  | tmp t => exact h t d hd
  | const v => exact ⟨d, hd, .lit (constD_lit hd)⟩
  | global g => cases hd
  | func f => cases hd; exact ⟨_, rfl, .fn f rfl fun i d d' h => by simp at h⟩

theorem RelE.evList {es er : Env} (h : RelE R es er) : ∀ {l : List Operand} {ds : List D}, evList es l = some ds → ∃ ds', Go.Proofs.YtcdihmhmoddppaaGreat.evList er l = some ds' ∧ RnL R ds ds'
  | [], ds, hd => by cases hd; exact ⟨[], rfl, .nil⟩
  | x :: r, ds, hd => by
    simp only [Go.Proofs.YtcdihmhmoddppaaGreat.evList] at hd ⊢
    cases hx : es.ev x with
    | none => rw [hx] at hd; cases hd
    | some d =>
      rw [hx] at hd
      cases hr : Go.Proofs.YtcdihmhmoddppaaGreat.evList es r with
      | none => rw [hr] at hd; cases hd
      | some ds0 =>
        rw [hr] at hd
        cases hd
        obtain ⟨d', h1, h2⟩ := h.ev hx
        obtain ⟨ds', h3, h4⟩ := RelE.evList h hr
        rw [h1, h3]
        exact ⟨_, rfl, .cons h2 h4⟩

/-- Parts. -/
def RnP (R : Nat → Nat → Prop) : List (Nat × D) → List (Nat × D) → Prop
  | [], [] => True
  | (i, d) :: r, (i', d') :: r' => i = i' ∧ Rn R d d' ∧ RnP R r r'
  | _, _ => False

theorem RelE.evParts {es er : Env} (h : RelE R es er) : ∀ {l : List (Nat × Operand)} {pd : List (Nat × D)}, evParts es l = some pd → ∃ pd', Go.Proofs.YtcdihmhmoddppaaGreat.evParts er l = some pd' ∧ RnP R pd pd'
  | [], pd, hd => by cases hd; exact ⟨[], rfl, trivial⟩
  | (i, x) :: r, pd, hd => by
    simp only [Go.Proofs.YtcdihmhmoddppaaGreat.evParts] at hd ⊢
    cases hx : es.ev x with
    | none => simp [hx] at hd
    | some d =>
      cases hr : Go.Proofs.YtcdihmhmoddppaaGreat.evParts es r with
      | none => simp [hx, hr] at hd
      | some ds0 =>
        simp [hx, hr] at hd
        subst hd
        obtain ⟨d', h1, h2⟩ := h.ev hx
        obtain ⟨ds', h3, h4⟩ := RelE.evParts h hr
        simp [h1, h3]
        exact ⟨rfl, h2, h4⟩

theorem fill_rel {place : Nat → Option (Nat × Nat)} : ∀ {pd pd' : List (Nat × D)} {zd zd' out : List D}, RnP R pd pd' → RnL R zd zd' → fillD place zd pd = some out → ∃ out', fillD place zd' pd' = some out' ∧ RnL R out out'
  | [], [], zd, zd', out, _, hz, h => by cases h; exact ⟨zd', rfl, hz⟩
  | (i, d) :: r, (i', d') :: r', zd, zd', out, ⟨hi, hd, hr⟩, hz, h => by
    subst hi
    simp only [fillD] at h ⊢
    cases hp : place i with
    | none => rw [hp] at h; cases h
    | some os =>
      obtain ⟨off, size⟩ := os
      rw [hp] at h
      simp only at h ⊢
      have hc := hd.cells
      rw [← hc.1, ← hz.1]
      split at h
      · rename_i hcond
        rw [if_pos hcond]
        exact fill_rel hr (hz.setMany hc off) h
      · cases h
  | [], _ :: _, _, _, _, h, _, _ => h.elim
  | _ :: _, [], _, _, _, h, _, _ => h.elim

theorem RelE.bound {es er : Env} (h : RelE R es er) {x : Option Operand} {n m : Nat} (hb : boundD es x n = some m) : boundD er x n = some m := by
  cases x with
  | none => exact hb
  | some x =>
    simp only [boundD] at hb ⊢
    split at hb
    · rename_i i hx
      obtain ⟨d', h1, h2⟩ := h.ev hx
      cases h2
      rw [h1]
      exact hb
    · cases hb

/-! ### The blocks -/

abbrev SH := List (Nat × (TypeId × List D))
def SH.get : SH → Nat → Option (TypeId × List D)
  | [], _ => none
  | (a, x) :: r, b => bif Nat.beq a b then some x else SH.get r b
def SH.upd : SH → Nat → (TypeId × List D) → SH
  | [], _, _ => []
  | (a, y) :: r, b, x => bif Nat.beq a b then (a, x) :: r else (a, y) :: SH.upd r b x
def SH.rm : SH → Nat → SH
  | [], _ => []
  | (a, y) :: r, b => bif Nat.beq a b then SH.rm r b else (a, y) :: SH.rm r b

theorem beq_false {a b : Nat} (h : a ≠ b) : Nat.beq a b = false := by
  cases hb : Nat.beq a b with
  | false => rfl
  | true => exact absurd (Nat.eq_of_beq_eq_true hb) h

theorem SH.get_upd : ∀ (S : SH) (b : Nat) (x : TypeId × List D) (c : Nat), (S.upd b x).get c = if c = b then (if (S.get b).isSome then some x else none) else S.get c
  | [], b, x, c => by simp [SH.upd, SH.get]
  | (a, y) :: r, b, x, c => by
    simp only [SH.upd]
    by_cases hab : a = b
    · subst hab
      rw [Nat.beq_refl a]
      simp only [cond_true, SH.get, Nat.beq_refl, Option.isSome_some, if_true]
      by_cases hca : c = a
      · subst hca; simp
      · rw [beq_false (Ne.symm hca), if_neg hca]; rfl
    · rw [beq_false hab]
      simp only [cond_false, SH.get, beq_false hab]
      by_cases hca : a = c
      · subst hca
        rw [Nat.beq_refl, if_neg hab]; rfl
      · rw [beq_false hca]
        exact SH.get_upd r b x c

theorem SH.get_rm : ∀ (S : SH) (b c : Nat), (S.rm b).get c = if c = b then none else S.get c
  | [], b, c => by simp [SH.rm, SH.get]
  | (a, y) :: r, b, c => by
    simp only [SH.rm]
    by_cases hab : a = b
    · subst hab
      rw [Nat.beq_refl a]
      simp only [cond_true]
      rw [SH.get_rm r a c]
      by_cases hca : c = a
      · simp [hca]
      · rw [if_neg hca, if_neg hca]; simp only [SH.get]; rw [beq_false (Ne.symm hca)]; rfl
    · rw [beq_false hab]
      simp only [cond_false, SH.get]
      by_cases hca : a = c
      · subst hca
        rw [Nat.beq_refl, if_neg hab]; rfl
      · rw [beq_false hca]
        exact SH.get_rm r b c

/-- Blocks by name, and the blocks. -/
structure RelS (R : Nat → Nat → Prop) (n : Nat) (S : SH) (H : Heap) : Prop where
  fn : ∀ a b b', R a b → R a b' → b = b'
  lt : ∀ a b, R a b → a < n
  at' : ∀ a x, S.get a = some x → ∃ b cells', R a b ∧ H b = some (x.1, cells') ∧ RnL R x.2 cells'
  inj : ∀ a a' b x y, S.get a = some x → S.get a' = some y → R a b → R a' b → a = a'

theorem RelS.over {n : Nat} {S : SH} {H H' : Heap} (h : RelS R n S H) (ho : Over H H') : RelS R n S H' := ⟨h.fn, h.lt, fun a x hx => by
  obtain ⟨b, cells', h1, h2, h3⟩ := h.at' a x hx
  exact ⟨b, cells', h1, ho _ _ h2, h3⟩, h.inj⟩

theorem RelS.none {n : Nat} {S : SH} {H H' : Heap} (h : RelS R n S H) : RelS R n [] H' := ⟨h.fn, h.lt, fun a x hx => (by cases hx), fun a a' b x y hx => (by cases hx)⟩

/-- The block that a name stands for. -/
theorem RelS.get {n : Nat} {S : SH} {H : Heap} (h : RelS R n S H) {a b : Nat} {T : TypeId} {cells : List D} (hx : S.get a = some (T, cells)) (hR : R a b) : ∃ cells', H b = some (T, cells') ∧ RnL R cells cells' := by
  obtain ⟨b', cells', h1, h2, h3⟩ := h.at' a _ hx
  cases h.fn _ _ _ hR h1
  exact ⟨cells', h2, h3⟩

/-- What came about while code was run: of the names up to n, and of the blocks. Names below lo were not written. -/
structure Adv (lo : Nat) (R : Nat → Nat → Prop) (n : Nat) (S : SH) (H : Heap) (R' : Nat → Nat → Prop) (n' : Nat) (S' : SH) (H' : Heap) : Prop where
  le : ∀ a b, R a b → R' a b
  new : ∀ a b, R' a b → R a b ∨ n ≤ a
  nn : n ≤ n'
  frame : ∀ b z, H b = some z → (∀ a x, S.get a = some x → ¬ R a b) → H' b = some z
  fresh : ∀ a b, R' a b → R a b ∨ H b = none ∨ ∃ a0 x, S.get a0 = some x ∧ R a0 b
  live : ∀ a x, S'.get a = some x → (∃ y, S.get a = some y) ∨ n ≤ a
  keep : ∀ a, a < lo → S'.get a = S.get a

theorem Adv.refl (lo : Nat) (R : Nat → Nat → Prop) (n : Nat) (S : SH) (H : Heap) : Adv lo R n S H R n S H :=
  ⟨fun _ _ h => h, fun _ _ h => .inl h, Nat.le_refl _, fun _ _ h _ => h, fun _ _ h => .inl h, fun a x h => .inl ⟨x, h⟩, fun _ _ => rfl⟩

theorem Adv.trans {lo n n' n'' : Nat} {R R' R'' : Nat → Nat → Prop} {S S' S'' : SH} {H H' H'' : Heap} (hn : ∀ a b, R a b → a < n) (hn' : ∀ a b, R' a b → a < n') (h : Adv lo R n S H R' n' S' H') (g : Adv lo R' n' S' H' R'' n'' S'' H'') : Adv lo R n S H R'' n'' S'' H'' := by
  have hlive : ∀ a b x, S'.get a = some x → R a b → ∃ y, S.get a = some y := fun a b x hx hR => by
    rcases h.live a x hx with h1 | h1
    · exact h1
    · have := hn a b hR; omega
  have hfr : ∀ b z, H b = some z → (∀ a x, S.get a = some x → ¬ R a b) → H' b = some z ∧ ∀ a x, S'.get a = some x → ¬ R' a b := fun b z hz hno => by
    refine ⟨h.frame b z hz hno, fun a x hx hR' => ?_⟩
    rcases h.fresh a b hR' with h1 | h1 | ⟨a0, x0, h1, h2⟩
    · obtain ⟨y, hy⟩ := hlive a b x hx h1
      exact hno a y hy h1
    · rw [hz] at h1; cases h1
    · exact hno a0 x0 h1 h2
  refine ⟨fun a b hR => g.le a b (h.le a b hR), fun a b hR => ?_, Nat.le_trans h.nn g.nn, fun b z hz hno => ?_, fun a b hR => ?_, fun a x hx => ?_, fun a ha => (g.keep a ha).trans (h.keep a ha)⟩
  · rcases g.new a b hR with h1 | h1
    · exact h.new a b h1
    · exact .inr (Nat.le_trans h.nn h1)
  · obtain ⟨h1, h2⟩ := hfr b z hz hno
    exact g.frame b z h1 h2
  · have keyN : H' b = none → H b = none ∨ ∃ a0 x, S.get a0 = some x ∧ R a0 b := fun hN => by
      cases hz : H b with
      | none => exact .inl rfl
      | some z =>
        by_cases hno : ∀ a x, S.get a = some x → ¬ R a b
        · rw [(hfr b z hz hno).1] at hN; cases hN
        · obtain ⟨a0, h1⟩ := Classical.not_forall.1 hno
          obtain ⟨x0, h2⟩ := Classical.not_forall.1 h1
          obtain ⟨h3, h4⟩ := Classical.not_imp.1 h2
          exact .inr ⟨a0, x0, h3, Classical.not_not.1 h4⟩
    rcases g.fresh a b hR with h1 | h1 | ⟨a0, x0, h1, h2⟩
    · exact h.fresh a b h1
    · exact .inr (keyN h1)
    · rcases h.fresh a0 b h2 with h3 | h3 | h3
      · obtain ⟨y, hy⟩ := hlive a0 b x0 h1 h3
        exact .inr (.inr ⟨a0, y, hy, h3⟩)
      · exact .inr (.inl h3)
      · exact .inr (.inr h3)
  · rcases g.live a x hx with ⟨y, hy⟩ | h1
    · exact h.live a y hy
    · exact .inr (Nat.le_trans h.nn h1)

end
end Go.Proofs.YtcdihmhmoddppaaGreat

namespace Go.Proofs.YtcdihmhmoddppaaGreat
open Go.RowKit
set_option linter.unusedVariables false
set_option linter.unusedSimpArgs false

section
variable {P : Program} {H : Heap} {e : Env} {dst : Option Tmp} {ty : TypeId} {pos : String} {af : Array Edge} {gd : Option (Nat × Bool)}

/-- A list with elements is not nil. -/
theorem sta_eqNilL {t t2 E : TypeId} {x : Operand} {k : Nat} {d : D} {l : List D} (hu : P.underlying t = some (.slice E)) (hk : 0 < k) (hx : e.ev x = some (.list k (d :: l))) :
    Sta P H e ⟨dst, .binOp .eql t x (.const (.slice none 0 0)) t2, ty, pos, af, gd⟩ (.bool false) := .mk fun ρ w ha ho => by
  have h := ha x _ hx
  have hc := ha.const (.slice none 0 0)
  generalize hv : ρ x = v at h
  cases h with
  | list vals hcap hm h1 h2 h3 =>
    rename_i a c
    have hl : (cellsOf d).length = k := h1 0 d rfl
    have hcell : cellAt (d :: l) 0 0 = some ((cellsOf d)[0]'(by omega)) := by simp [cellAt]
    obtain ⟨b, off, ha', _, _⟩ := h2 0 0 _ hcell
    subst ha'
    have hr := Lib.run_eql_slice_nil (P := P) w t E (some ⟨b, off, none⟩) (l.length + 1) c 0 0 hu
    simp only [OpTo, execOp, hv, hc, eqGuard, Sem.run_bind, Sem.run_pure, List.length_cons]
    simp [hr]
    exact ⟨.bool _, ho, .refl _ _⟩

theorem sta_eqNilR {t t2 E : TypeId} {x : Operand} {k b off n : Nat} (hu : P.underlying t = some (.slice E)) (hx : e.ev x = some (.ref b off n k)) :
    Sta P H e ⟨dst, .binOp .eql t x (.const (.slice none 0 0)) t2, ty, pos, af, gd⟩ (.bool false) := .mk fun ρ w ha ho => by
  have h := ha x _ hx
  have hc := ha.const (.slice none 0 0)
  generalize hv : ρ x = v at h
  cases h with
  | ref hb hs hl hcm =>
    rename_i cap cs T
    have hr := Lib.run_eql_slice_nil (P := P) w t E (some ⟨b, off, none⟩) n cap 0 0 hu
    simp only [OpTo, execOp, hv, hc, eqGuard, Sem.run_bind, Sem.run_pure]
    simp [hr]
    exact ⟨.bool _, ho, .refl _ _⟩

/-- A part of a mutable slice. -/
theorem sta_slice_ref {t E T : TypeId} {inf : TypeInfo} {x : Operand} {lo hi : Option Operand} {b off n k a c : Nat} {cells : List D} (hu : P.underlying t = some (.slice E)) (hi' : P.info? E = some inf) (hs : inf.size = k) (hk : 0 < k)
    (hx : e.ev x = some (.ref b off n k)) (hlo : boundD e lo 0 = some a) (hhi : boundD e hi n = some c) (hac : a ≤ c) (hc : c ≤ n ∨ (H b = some (T, cells) ∧ off + c * k ≤ cells.length)) (hlt : a < c ∨ a < n) :
    Sta P H e ⟨dst, .slice t x lo hi none, ty, pos, af, gd⟩ (.ref b (off + a * k) (c - a) k) := .mk fun ρ w ha ho => by
  have h := ha x _ hx
  generalize hv : ρ x = v at h
  cases h with
  | ref hb hsz hl hcm =>
    rename_i cap cs T'
    have hcap : c ≤ cap := by
      rcases hc with hc | ⟨hH, hlen⟩
      · omega
      · obtain ⟨cs', hb', hlen', _⟩ := ho b T cells hH
        rw [hb] at hb'
        cases hb'
        have : c * k ≤ cap * k := by omega
        exact Nat.le_of_mul_le_mul_right this hk
    have hbd := run_sliceBounds (P := P) (w := w) ha hlo hhi hac hcap
    have hne : ¬ cap = a := by omega
    have hr : (Instr.sliceAt t (.slice (some ⟨b, off, none⟩) n cap) (lo.map ρ) (hi.map ρ) none).run P w = .ok (.slice (some ⟨b, off + a * k, none⟩) (c - a) (cap - a)) w := by
      simp only [Instr.sliceAt, Instr.slice, Sem.run_bind, run_underlying hu, Result.andThen_ok]
      simp [hbd, run_sizeOf hi', hne, addr_add, hs]
    simp only [OpTo, execOp, hv, Sem.run_bind]
    simp only [Option.map_none] at hr ⊢
    rw [hr]
    simp only [Result.andThen_ok, Sem.run_pure]
    refine ⟨.ref hb ?_ (by omega) (by omega), ho, .refl _ _⟩
    rw [← hsz, Nat.add_assoc, ← Nat.add_mul]
    congr 2
    omega

/-- What stands behind the end of a mutable slice: nothing. -/
theorem sta_slice_end {t E : TypeId} {inf : TypeInfo} {x : Operand} {lo hi : Option Operand} {b off n k : Nat} (hu : P.underlying t = some (.slice E)) (hi' : P.info? E = some inf)
    (hx : e.ev x = some (.ref b off n k)) (hlo : boundD e lo 0 = some n) (hhi : boundD e hi n = some n) :
    Sta P H e ⟨dst, .slice t x lo hi none, ty, pos, af, gd⟩ (.list k []) := .mk fun ρ w ha ho => by
  have h := ha x _ hx
  generalize hv : ρ x = v at h
  cases h with
  | ref hb hsz hl hcm =>
    rename_i cap cs T'
    have hbd := run_sliceBounds (P := P) (w := w) ha hlo hhi (Nat.le_refl _) hl
    have hr : ∃ a, (Instr.sliceAt t (.slice (some ⟨b, off, none⟩) n cap) (lo.map ρ) (hi.map ρ) none).run P w = .ok (.slice a 0 (cap - n)) w := by
      simp only [Instr.sliceAt, Instr.slice, Sem.run_bind, run_underlying hu, Result.andThen_ok]
      simp [hbd, run_sizeOf hi']
    obtain ⟨a, hr⟩ := hr
    simp only [OpTo, execOp, hv, Sem.run_bind]
    simp only [Option.map_none] at hr ⊢
    rw [hr]
    simp only [Result.andThen_ok, Sem.run_pure]
    exact ⟨Rep.list_nil _ _ _ (by omega), ho, .refl _ _⟩

/-- s[i:j:m] whose result nothing reads. -/
theorem dead_slice {t E : TypeId} {inf : TypeInfo} {x lo hi mx : Operand} {b off n k a c m : Nat} (hu : P.underlying t = some (.slice E)) (hi' : P.info? E = some inf) (hx : e.ev x = some (.ref b off n k))
    (h0 : e.ev lo = some (I a)) (h1 : e.ev hi = some (I c)) (h2 : e.ev mx = some (I m)) (hac : a ≤ c) (hcm : c ≤ m) (hmn : m ≤ n) :
    DeadOp P H e ⟨dst, .slice t x (some lo) (some hi) (some mx), ty, pos, af, gd⟩ := fun ρ w ha ho => by
  have h := ha x _ hx
  have e0 := rep_int (ha lo _ h0)
  have e1 := rep_int (ha hi _ h1)
  have e2 := rep_int (ha mx _ h2)
  generalize hv : ρ x = v at h
  cases h with
  | ref hb hs hl hcm' =>
    rename_i cap cs T'
    have hl' : (m : Int) ≤ (cap : Int) := by omega
    have hl2 : (c : Int) ≤ (m : Int) := by omega
    have hl3 : (a : Int) ≤ (c : Int) := by omega
    have hl4 : m ≤ cap := by omega
    simp [OpTo, execOp, hv, e0, e1, e2, Instr.sliceAt, Instr.slice, Instr.sliceBounds, Instr.sliceBound, asIntOf, run_underlying hu, run_sizeOf hi', hl, hl', hl2, hl3, hl4, hac, hcm]

/-- One element of a mutable slice cleared. -/
theorem opD_clearAt {t E T : TypeId} {x : Operand} {b off k : Nat} {cells zd : List D} {K : D → Heap → Prop} (hu : P.underlying t = some (.slice E)) (hz : ZeroOf P E k zd) (hx : e.ev x = some (.ref b off 1 k)) (hH : H b = some (T, cells)) (hl : off + k ≤ cells.length)
    (hK : K (.tup []) (H.set b (T, setMany cells off zd))) :
    OpD P H e ⟨dst, .call ⟨.builtin .clear, #[x], #[t]⟩, ty, pos, af, gd⟩ K := .mk fun ρ w ha ho => by
  obtain ⟨inf, z, hi, hz1, hz2, hz3⟩ := hz.is
  have h := ha x _ hx
  generalize hv : ρ x = v at h
  cases h with
  | ref hb hs hlc hcm =>
    rename_i cap cs T'
    obtain ⟨cs', hb', hlen, hcs⟩ := ho b T cells hH
    rw [hb] at hb'
    cases hb'
    have hzc : (Builtin.zeroCells z.cells 1).toList = zd.map litV := by
      have : Builtin.zeroCells z.cells 1 = z.cells := by
        apply Array.ext
        · simp [Builtin.zeroCells]
        · intro i h1 h2
          simp [Builtin.zeroCells, Nat.mod_eq_of_lt h2, h2]
      rw [this, hz3]
    have hone : ∀ v ∈ zd.map litV, v.oneCell' = true := fun v hv => by
      obtain ⟨d, hd, rfl⟩ := List.mem_map.1 hv
      have := List.all_eq_true.1 hz.lit d hd
      exact (rep_lit w H this).oneCell (litOk_cell this)
    have hzl := hz.len
    have hst := run_storeCells_at P b off T (zd.map litV) 0 cs w hb (by simp [hzl]; omega) hone
    simp only [Nat.add_zero, List.length_map, hzl] at hst
    have hrun : (Builtin.clear_ #[t] ty #[.slice (some ⟨b, off, none⟩) 1 cap]).run P w = .ok (.tuple #[]) (w.setRow b (cs.toList.take off ++ zd.map litV ++ cs.toList.drop (off + k)).toArray) := by
      simp [Builtin.clear_, run_underlying hu, run_zeroValue hi hz1, hzc, hst]
    rw [← hv] at hrun
    simp only [OpTo, run_exec_clear hrun]
    refine ⟨_, _, hK, RepsA.tup (vs := #[]) (ds := []) ⟨rfl, fun j x h => by simp at h⟩, ?_⟩
    refine ext_setCells ho hH hb (by simp [hzl]; omega) (by rw [setMany_length (by omega)]; simp [hzl]; omega) fun j y hy => ?_
    have hjl : j < cells.length := by
      have := (List.getElem?_eq_some_iff.1 hy).1
      rwa [setMany_length (by omega)] at this
    rw [List.getElem?_toArray]
    unfold setMany at hy
    have htl : (cs.toList.take off).length = off := by rw [List.length_take]; simp; omega
    have htl2 : (cells.take off).length = off := by rw [List.length_take]; omega
    by_cases h1 : j < off
    · rw [List.append_assoc, List.getElem?_append_left (by rw [htl2]; exact h1), List.getElem?_take, if_pos h1] at hy
      rw [List.append_assoc, List.getElem?_append_left (by rw [htl]; exact h1), List.getElem?_take, if_pos h1]
      obtain ⟨h2, v, hv', hr⟩ := hcs j y hy
      exact ⟨h2, v, by simpa using hv', hr⟩
    · by_cases h2 : j < off + k
      · rw [List.append_assoc, List.getElem?_append_right (by rw [htl2]; omega), List.getElem?_append_left (by rw [htl2]; omega), htl2] at hy
        rw [List.append_assoc, List.getElem?_append_right (by rw [htl]; omega), List.getElem?_append_left (by rw [htl]; simp; omega), htl, List.getElem?_map, hy]
        have hlo := List.all_eq_true.1 hz.lit y (List.mem_of_getElem? hy)
        exact ⟨litOk_cell hlo, litV y, rfl, rep_lit w H hlo⟩
      · rw [List.getElem?_append_right (by rw [List.length_append, htl2]; omega), List.length_append, htl2, List.getElem?_drop, hzl] at hy
        rw [List.getElem?_append_right (by rw [List.length_append, htl]; simp; omega), List.length_append, htl, List.length_map, List.getElem?_drop, hzl]
        have he : off + k + (j - (off + k)) = j := by omega
        rw [he] at hy ⊢
        obtain ⟨h2, v, hv', hr⟩ := hcs j y hy
        exact ⟨h2, v, by simpa using hv', hr⟩

/-- An append into the room behind a mutable slice's head. -/
theorem opD_appendIn {t E T : TypeId} {inf : TypeInfo} {x y : Operand} {b n k : Nat} {cells xs : List D} {K : D → Heap → Prop} (hu : P.underlying t = some (.slice E)) (hi : P.info? E = some inf) (hs : inf.size = k) (hk : 0 < k) (hT : T = E)
    (hx : e.ev x = some (.ref b 0 n k)) (hH : H b = some (T, cells)) (hsrc : ∀ (ρ : Operand → Value) (w : World), Agree ρ w H e → HOK w H → NewsOf w H (ρ y) k xs) (hxs : Uni k xs) (hne : xs ≠ []) (hfit : n * k + xs.length * k ≤ cells.length)
    (hK : K (.ref b 0 (n + xs.length) k) (H.set b (T, setMany cells (n * k) (xs.flatMap cellsOf)))) :
    OpD P H e ⟨dst, .call ⟨.builtin .append, #[x, y], #[t, t]⟩, ty, pos, af, gd⟩ K := .mk fun ρ w ha ho => by
  subst hT
  have h := ha x _ hx
  obtain ⟨a, c, news, hv1, hnl, hnw, hn1, hnr⟩ := (hsrc ρ w ha ho).2 hne
  generalize hv : ρ x = v at h
  cases h with
  | ref hb hsz hlc hcm =>
    rename_i cap cs T'
    obtain ⟨cs', hb', hlen, hcs⟩ := ho b T cells hH
    rw [hb] at hb'
    cases hb'
    have hcapk : cap * k = cs.size := by omega
    have hroom : n + xs.length ≤ cap := by
      have : (n + xs.length) * k ≤ cap * k := by rw [Nat.add_mul]; omega
      exact Nat.le_of_mul_le_mul_right this hk
    have hrun := run_append_room (P := P) w t ty T inf hu hi b n cap cs hb a xs.length c news (by rw [hs]; exact hnl) hnw hn1 hroom (by rw [hs, hnl]; omega)
    rw [← hv, ← hv1] at hrun
    rw [hs, hnl] at hrun
    simp only [OpTo, run_exec_append hrun]
    have htl : (cs.toList.take (n * k)).length = n * k := by rw [List.length_take]; simp; omega
    have htl2 : (cells.take (n * k)).length = n * k := by rw [List.length_take]; omega
    have hfl := hxs.length
    refine ⟨_, _, hK, .ref (setRow_heap w b cs _ T (0, 0) hb) (by simp [hnl]; omega) hroom hcm, ?_⟩
    refine ext_setCells ho hH hb (by simp [hnl]; omega) (by rw [setMany_length (by rw [hfl]; omega)]; simp [hnl]; omega) fun j y hy => ?_
    have hjl : j < cells.length := by
      have := (List.getElem?_eq_some_iff.1 hy).1
      rwa [setMany_length (by rw [hfl]; omega)] at this
    rw [List.getElem?_toArray]
    unfold setMany at hy
    by_cases h1 : j < n * k
    · rw [List.append_assoc, List.getElem?_append_left (by rw [htl2]; exact h1), List.getElem?_take, if_pos h1] at hy
      rw [List.append_assoc, List.getElem?_append_left (by rw [htl]; exact h1), List.getElem?_take, if_pos h1]
      obtain ⟨h2, v, hv', hr⟩ := hcs j y hy
      exact ⟨h2, v, by simpa using hv', hr⟩
    · by_cases h2 : j < n * k + xs.length * k
      · rw [List.append_assoc, List.getElem?_append_right (by rw [htl2]; omega), List.getElem?_append_left (by rw [htl2, hfl]; omega), htl2] at hy
        rw [List.append_assoc, List.getElem?_append_right (by rw [htl]; omega), List.getElem?_append_left (by rw [htl, hnl]; omega), htl]
        obtain ⟨u, hu', hr⟩ := hnr _ _ hy
        obtain ⟨z, hz, hyz⟩ := List.mem_flatMap.1 (List.mem_of_getElem? hy)
        exact ⟨(hxs z hz).2 y hyz, u, hu', hr⟩
      · rw [List.getElem?_append_right (by rw [List.length_append, htl2, hfl]; omega), List.length_append, htl2, List.getElem?_drop, hfl] at hy
        rw [List.getElem?_append_right (by rw [List.length_append, htl, hnl]; omega), List.length_append, htl, List.getElem?_drop, hnl]
        have he : n * k + xs.length * k + (j - (n * k + xs.length * k)) = j := by omega
        rw [he] at hy ⊢
        obtain ⟨h2, v, hv', hr⟩ := hcs j y hy
        exact ⟨h2, v, by simpa using hv', hr⟩

/-- A field (one cell) of a struct's value. -/
theorem sta_fieldV {t : TypeId} {x : Operand} {f : Nat} {fs : Array Field} {fl : Field} {td : TypeDesc} {l : List D} {d : D} (hu : P.underlying t = some (.struct fs)) (hf : fs[f]? = some fl) (htd : P.underlying fl.type = some td) (hd : aggD td = false)
    (hx : e.ev x = some (.agg l)) (hl : l[fl.offset]? = some d) : Sta P H e ⟨dst, .field t x f, ty, pos, af, gd⟩ d := .mk fun ρ w ha ho => by
  obtain ⟨vs, hv, hr⟩ := rep_agg (ha x _ hx)
  obtain ⟨v, hv', hrep⟩ := hr.2 _ _ hl
  have hrun : (Instr.field t (.agg vs) f).run P w = .ok v w := by
    simp [Instr.field, run_underlying hu, hf, asAgg, part, run_isAgg htd, hd, hv']
  simp [OpTo, execOp, hv, hrun]
  exact ⟨hrep, ho, .refl _ _⟩

end
end Go.Proofs.YtcdihmhmoddppaaGreat
