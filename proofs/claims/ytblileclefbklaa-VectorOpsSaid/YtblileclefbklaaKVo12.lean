/-
  Parts of one's own slices; appends from them; ways that meet behind a loop. No condition.
-/
import Derived.Test.YtblileclefbklaaKVo11
import Derived.Test.YtblileclefbklaaKVo10

namespace Go.Proofs.Ytblileclefbklaa
open Go.RowKit
set_option linter.unusedVariables false
set_option linter.unusedSimpArgs false

theorem Acc.done {H H' : Heap} {d : D} {k : Nat} {T : TypeId} {l : List D} (h : Acc H H' d k T l) : Frz H' H d (.list k l) := h.frz fun b hb => by
  rcases h.is with ⟨g, _⟩ | ⟨c, g1, g2, _⟩
  · rw [g] at hb; cases hb
  · rw [g2] at hb; cases hb; exact g1

theorem Acc.over' {H0 H H' : Heap} {d : D} {k : Nat} {T : TypeId} {l : List D} (h : Acc H0 H d k T l) (ho : Over H H') : Acc H0 H' d k T l :=
  ⟨h.uni, h.is.imp id fun ⟨b, h1, h2, h3⟩ => ⟨b, h1, h2, ho _ _ h3⟩⟩

theorem Acc.len' {H0 H : Heap} {d : D} {k : Nat} {T : TypeId} {l : List D} (h : Acc H0 H d k T l) : lenD d = some l.length := by
  rcases h.is with ⟨rfl, rfl⟩ | ⟨b, _, rfl, _⟩ <;> rfl

/-- One's own slice that is not empty. -/
theorem Acc.ref {H0 H : Heap} {d : D} {k : Nat} {T : TypeId} {l : List D} (h : Acc H0 H d k T l) (hl : 0 < l.length) : ∃ b, H0 b = none ∧ d = .ref b 0 l.length k ∧ H b = some (T, l.flatMap cellsOf) := by
  rcases h.is with ⟨_, h2⟩ | h
  · rw [h2] at hl; simp at hl
  · exact h

theorem flat_set {k : Nat} (hk : 0 < k) {l : List D} (hl : ∀ d ∈ l, (cellsOf d).length = k) {i : Nat} (hi : i < l.length) {d : D} (hd : (cellsOf d).length = k) : setMany (l.flatMap cellsOf) (i * k) (cellsOf d) = (l.set i d).flatMap cellsOf := by
  have hlen : ∀ {l : List D}, (∀ d ∈ l, (cellsOf d).length = k) → (l.flatMap cellsOf).length = l.length * k := by
    intro l
    induction l with
    | nil => intro _; simp
    | cons x l ih =>
      intro h
      simp only [List.flatMap_cons, List.length_append, List.length_cons, h x (by simp), ih fun y hy => h y (by simp [hy]), Nat.add_mul]
      omega
  have hl2 : ∀ x ∈ l.set i d, (cellsOf x).length = k := fun x hx => by
    rcases List.mem_or_eq_of_mem_set hx with h | rfl
    · exact hl x h
    · exact hd
  have hfit : i * k + (cellsOf d).length ≤ (l.flatMap cellsOf).length := by
    rw [hlen hl, hd, show i * k + k = (i + 1) * k by rw [Nat.add_mul]; omega]
    exact Nat.mul_le_mul_right k hi
  apply List.ext_getElem?
  intro q
  rw [setMany_get hfit, hd]
  have hq : (q / k) * k + q % k = q := by rw [Nat.mul_comm]; exact Nat.div_add_mod q k
  have hm : q % k < k := Nat.mod_lt _ hk
  have e1 := flat_cell (k := k) (l := l) (fun i d h => hl d (List.mem_of_getElem? h)) (q / k) (q % k) hm
  have e2 := flat_cell (k := k) (l := l.set i d) (fun i d h => hl2 d (List.mem_of_getElem? h)) (q / k) (q % k) hm
  rw [hq] at e1 e2
  rw [e1, e2]
  unfold cellAt
  by_cases hqi : q / k = i
  · have h1 : i * k ≤ q := by rw [← hqi]; exact Nat.div_mul_le_self q k
    have h2 : q - i * k = q % k := by rw [← hqi]; omega
    have h3 : q < i * k + k := by omega
    rw [if_pos ⟨h1, h3⟩, h2, hqi]
    simp [hi]
  · rw [if_neg]
    · rw [List.getElem?_set_ne (Ne.symm hqi)]
    · rintro ⟨h1, h2⟩
      apply hqi
      have h3 : i ≤ q / k := (Nat.le_div_iff_mul_le hk).2 h1
      have h4 : q / k < i + 1 := (Nat.div_lt_iff_lt_mul hk).2 (by rw [Nat.add_mul]; omega)
      omega

theorem rowTo_put {l : List D} {z : D} {k : Nat} (h : k < l.length) : (rowTo l z k).set k l[k] = rowTo l z (k + 1) := by
  unfold rowTo
  apply List.ext_getElem?
  intro j
  rw [List.getElem?_set]
  simp only [List.length_append, List.length_take, List.length_replicate]
  by_cases h1 : k = j
  · subst h1
    rw [if_pos rfl, if_pos (by omega), List.getElem?_append_left (by simp; omega)]
    simp [h]
  · rw [if_neg h1]
    by_cases h2 : j < k
    · rw [List.getElem?_append_left (by simp; omega), List.getElem?_append_left (by simp; omega)]
      simp [h2, show j < k + 1 by omega]
    · rw [List.getElem?_append_right (by simp; omega), List.getElem?_append_right (by simp; omega)]
      simp only [List.length_take]
      rw [Nat.min_eq_left (by omega), Nat.min_eq_left (by omega)]
      by_cases h3 : j < l.length
      · rw [List.getElem?_replicate_of_lt (by omega), List.getElem?_replicate_of_lt (by omega)]
      · rw [List.getElem?_eq_none (by simp; omega), List.getElem?_eq_none (by simp; omega)]

section
variable {P : Program} {H : Heap} {e : Env} {dst : Option Tmp} {ty : TypeId} {pos : String} {af : Array Edge} {gd : Option (Nat × Bool)}

/-- Data, one by one, seen as frozen. -/
inductive Frzs (H H' : Heap) : List D → List D → Prop
  | nil : Frzs H H' [] []
  | cons {a b : D} {l m : List D} (h : Frz H H' a b) (r : Frzs H H' l m) : Frzs H H' (a :: l) (b :: m)

theorem Frzs.same (H H' : Heap) : ∀ l, Frzs H H' l l
  | [] => .nil
  | a :: l => .cons (.same a) (Frzs.same H H' l)

theorem Frzs.reps {w : World} {H H' : Heap} (ho : HOK w H) (hs : H'.sub H) {l m : List D} (h : Frzs H H' l m) : ∀ {vs : List Value}, RepsA w H vs.toArray l → RepsA w H' vs.toArray m := by
  induction h with
  | nil => intro vs hv; exact ⟨hv.1, fun j x hx => by simp at hx⟩
  | cons hf r ih =>
    intro vs hv
    cases vs with
    | nil => have := hv.1; simp at this
    | cons v vs =>
      have hv' : RepsA w H vs.toArray _ := ⟨by have := hv.1; simpa using this, fun j x hx => by
        have := hv.2 (j + 1) x (by simpa using hx)
        simpa using this⟩
      have hi := ih hv'
      refine ⟨by have := hi.1; simpa using this, fun j x hx => ?_⟩
      cases j with
      | zero =>
        simp at hx
        subst hx
        obtain ⟨u, hu, hr⟩ := hv.2 0 _ rfl
        exact ⟨u, hu, Rep.frz ho hs hf hr⟩
      | succ j =>
        obtain ⟨u, hu, hr⟩ := hi.2 j x (by simpa using hx)
        exact ⟨u, by simpa using hu, hr⟩

/-- A call of a pure function that is handed what was written: that is let go. -/
theorem opD_callF {g : Operand} {xs : Array Operand} {ats : Array TypeId} {f : FuncId} {caps ds ds' : List D} {d : D} {H' : Heap} {K : D → Heap → Prop} (hg : e.ev g = some (.fn f caps)) (hx : evList e xs.toList = some ds) (hs : H'.sub H) (hf : Frzs H H' (ds ++ caps) ds') (hp : PureH P H' f ds' d) (hK : K d H') :
    OpD P H e ⟨dst, .call ⟨.value g, xs, ats⟩, ty, pos, af, gd⟩ K := .mk fun ρ w ha ho => by
  obtain ⟨vs, hv, hr⟩ := rep_fn (ha g _ hg)
  simp only [OpTo, run_exec_call hp.body hv]
  have hargs : RepsA w H (xs.map ρ ++ vs) (ds ++ caps) := by
    have := (reps_list (H := H) ha xs.toList ds hx).append hr
    have he : (xs.toList.map ρ).toArray = xs.map ρ := by apply Array.ext'; simp
    rwa [he] at this
  have hargs' : RepsA w H' (xs.map ρ ++ vs) ds' := by
    have := hf.reps (vs := (xs.map ρ ++ vs).toList) ho hs (by rw [Array.toArray_toList]; exact hargs)
    rwa [Array.toArray_toList] at this
  refine (hp.calls w _ (ho.sub hs) hargs').mono fun en w' ⟨v, h1, h2, h3, h4⟩ => ⟨v, h1, d, H', hK, h2, h3, ?_⟩
  refine ⟨h4.os, h4.tape, h4.output, h4.size, fun b hb hHb => ?_, h4.shape⟩
  have hb' : H' b = none := by
    cases hx : H' b with
    | none => rfl
    | some x => rw [hs b x hx] at hHb; cases hHb
  exact ⟨hb', (h4.old b hb hb').2⟩

/-- The exponents of a term of a slice that may be written. -/
theorem s_outE {t T0 : TypeId} {x : Operand} {b off i : Nat} {f : Pl} [CellT P t] (hx : e.ev x = some (.ptr b off)) (hH : H b = some (T0, (f.map tmD).flatMap cellsOf)) (ho : off = i * 2 + 1) (hi : i < f.length) : Sta P H e ⟨dst, .load t x, ty, pos, af, gd⟩ (intsD f[i].e) := by
  refine s_loadMut hx hH ?_
  rw [ho, flat_cell (k := 2) (fun j d hd => by have := List.mem_of_getElem? hd; obtain ⟨y, _, rfl⟩ := List.mem_map.1 this; rfl) i 1 (by omega)]
  simp [cellAt, hi, tmD, cellsOf]

theorem s_outC {t T0 : TypeId} {x : Operand} {b off i : Nat} {f : Pl} [CellT P t] (hx : e.ev x = some (.ptr b off)) (hH : H b = some (T0, (f.map tmD).flatMap cellsOf)) (ho : off = i * 2) (hi : i < f.length) : Sta P H e ⟨dst, .load t x, ty, pos, af, gd⟩ (I f[i].c) := by
  refine s_loadMut hx hH ?_
  have := flat_cell (k := 2) (l := f.map tmD) (fun j d hd => by have := List.mem_of_getElem? hd; obtain ⟨y, _, rfl⟩ := List.mem_map.1 this; rfl) i 0 (by omega)
  rw [ho, ← Nat.add_zero (i * 2), this]
  simp [cellAt, hi, tmD, cellsOf]

theorem tm_flat : ∀ (f : Pl) (i : Nat) (h : i < f.length), (((f.map tmD).flatMap cellsOf).drop (i * 2)).take 2 = [I f[i].c, intsD f[i].e]
  | t :: f, 0, _ => by simp [tmD, cellsOf]
  | t :: f, i + 1, h => by
    have ih := tm_flat f i (by simpa using h)
    have e1 : ((t :: f).map tmD).flatMap cellsOf = [I t.c, intsD t.e] ++ (f.map tmD).flatMap cellsOf := rfl
    rw [e1, show (i + 1) * 2 = 2 + i * 2 by omega, ← List.drop_drop]
    exact ih

theorem s_outTm {t T0 : TypeId} {x : Operand} {b off i : Nat} {f : Pl} [AggT P t 2] (hx : e.ev x = some (.ptr b off)) (hH : H b = some (T0, (f.map tmD).flatMap cellsOf)) (ho : off = i * 2) (hi : i < f.length) : Sta P H e ⟨dst, .load t x, ty, pos, af, gd⟩ (tmD f[i]) := by
  subst ho
  exact s_loadMutAgg hx hH (tm_flat f i hi) rfl

/-- A place of a mutable slice of terms. -/
theorem s_ix2 {t E : TypeId} {x y : Operand} {b n bytes i : Nat} {zd : List D} {m : Int} [SliceT P t E] [ElT P E 2 zd bytes] (hx : e.ev x = some (.ref b 0 n 2)) (hy : e.ev y = some (I m)) (hm : m = i) (hl : i < n) :
    Sta P H e ⟨dst, .indexAddr t x y, ty, pos, af, gd⟩ (.ptr b (i * 2)) := by
  subst hm
  have := s_indexRef (P := P) (H := H) (dst := dst) (ty := ty) (pos := pos) (af := af) (gd := gd) (t := t) (E := E) (zd := zd) (bytes := bytes) hx hy hl
  simpa using this

end

end Go.Proofs.Ytblileclefbklaa

namespace Go.Proofs.Ytblileclefbklaa
open Go.RowKit
set_option linter.unusedVariables false
set_option linter.unusedSimpArgs false
set_option maxHeartbeats 8000000

instance : BuildT Try.prog 47 [I 0, .nil] #[(0, 1), (1, 1)] := .of (by kernel_rfl) Try.underlying47 (by kernel_rfl) rfl
instance : SizeT Try.prog 47 2 := .of (by kernel_rfl)

theorem clone_pure (l : List Int) (hl : l.length ≤ 1000000) : Pure Try.prog 87 [intsD l] (intsD l) := by
  intro H
  refine PureH.of_body Try.func87 rfl (by decide) (Nat.le_of_ble_eq_true rfl) fun w0 => ?_
  (repeat (first | refine RO.S ?_ | refine RO.Y ?_ | refine RO.no rfl (by decide) rfl ?_ | refine RO.nil ?_ | refine DW.region ?_ | refine DW.seq ?_ | refine DW.block ?_ | refine DW.skip ?_ | refine DW.exit ?_ | refine DW.condT rfl ?_ | refine DW.condF rfl ?_))
  refine RO.dyn rfl (d_eqNil rfl fun b hb => ?_)
  (repeat (first | refine RO.S ?_ | refine RO.Y ?_ | refine RO.no rfl (by decide) rfl ?_ | refine RO.nil ?_ | refine DW.region ?_ | refine DW.seq ?_ | refine DW.block ?_ | refine DW.skip ?_ | refine DW.exit ?_ | refine DW.condT rfl ?_ | refine DW.condF rfl ?_))
  refine DW.cond rfl (fun hbt => ?_) (fun hbt => ?_)
  · have hnil : l = [] := by
      cases l with
      | nil => rfl
      | cons x l => rw [hb (by simp)] at hbt; cases hbt
    subst hnil
    (repeat (first | refine RO.S ?_ | refine RO.Y ?_ | refine RO.no rfl (by decide) rfl ?_ | refine RO.nil ?_ | refine DW.region ?_ | refine DW.seq ?_ | refine DW.block ?_ | refine DW.skip ?_ | refine DW.exit ?_ | refine DW.condT rfl ?_ | refine DW.condF rfl ?_))
    exact DW.ret ⟨.inl rfl, _, rfl, Over.refl _, .nil 1⟩
  · (repeat (first | refine RO.S ?_ | refine RO.Y ?_ | refine RO.no rfl (by decide) rfl ?_ | refine RO.nil ?_ | refine DW.region ?_ | refine DW.seq ?_ | refine DW.block ?_ | refine DW.skip ?_ | refine DW.exit ?_ | refine DW.condT rfl ?_ | refine DW.condF rfl ?_))
    refine RO.sta (s_appendNil (xs := l.map I) rfl rfl (.inl rfl) (uni_I _) (by simp; omega) (by simp; omega)) rfl ?_
    (repeat (first | refine RO.S ?_ | refine RO.Y ?_ | refine RO.no rfl (by decide) rfl ?_ | refine RO.nil ?_ | refine DW.region ?_ | refine DW.seq ?_ | refine DW.block ?_ | refine DW.skip ?_ | refine DW.exit ?_ | refine DW.condT rfl ?_ | refine DW.condF rfl ?_))
    exact DW.ret ⟨.inl rfl, _, rfl, Over.refl _, .same _⟩

theorem copied_pure (f : Pl) (hl : f.length ≤ 4000000000000) (hm : ∀ t ∈ f, t.e.length ≤ 3) : Pure Try.prog 58 [plD f] (plD f) := by
  intro H
  refine PureH.of_body Try.func58 rfl (by decide) (Nat.le_of_ble_eq_true rfl) fun w0 => ?_
  (repeat (first | refine RO.S ?_ | refine RO.Y ?_ | refine RO.no rfl (by decide) rfl ?_ | refine RO.nil ?_ | refine DW.region ?_ | refine DW.seq ?_ | refine DW.block ?_ | refine DW.skip ?_ | refine DW.exit ?_ | refine DW.condT rfl ?_ | refine DW.condF rfl ?_))
  refine DW.loopI (fun x : Nat × Heap × D => x.1 ≤ f.length ∧ Acc H x.2.1 x.2.2 2 47 ((f.take x.1).map tmD) ∧ Over H x.2.1) (fun x => [(3, x.2.2), (6, plD f), (7, I f.length), (8, I x.1)]) (fun x => x.2.1) (fun x => f.length - x.1) (0, H, .nil)
    ⟨Nat.zero_le _, Acc.nil _ _ _ _, Over.refl _⟩ rfl ⟨rfl, rfl, rfl, rfl, trivial⟩ fun ⟨k, Hk, d⟩ ⟨hk, hacc, hov⟩ => ?_
  dsimp only at hk hacc hov
  dsimp only
  (repeat (first | refine RO.Sv ?_ | refine RO.Yv ?_ | refine RO.no rfl (by decide) rfl ?_ | refine RO.nil ?_ | refine DW.region ?_ | refine DW.seq ?_ | refine DW.block ?_ | refine DW.skip ?_ | refine DW.exit ?_ | refine DW.condT rfl ?_ | refine DW.condF rfl ?_))
  refine DW.cond rfl (fun hb => ?_) (fun hb => ?_)
  · have hlt : k < f.length := by have := of_decide_eq_true hb; omega
    clear hb
    (repeat (first | refine RO.Sv ?_ | refine RO.Yv ?_ | refine RO.no rfl (by decide) rfl ?_ | refine RO.nil ?_ | refine DW.region ?_ | refine DW.seq ?_ | refine DW.block ?_ | refine DW.skip ?_ | refine DW.exit ?_ | refine DW.condT rfl ?_ | refine DW.condF rfl ?_))
    (refine RO.dyn rfl (d_alloc fun bv hbv => ?_); (repeat (first | refine RO.Sv ?_ | refine RO.Yv ?_ | refine RO.no rfl (by decide) rfl ?_)); refine RO.dyn rfl (d_storeTm rfl rfl (Heap.set_self _ _ _) rfl ?_); rw [Heap.set_set])
    (repeat (first | refine RO.Sv ?_ | refine RO.Yv ?_ | refine RO.no rfl (by decide) rfl ?_ | refine RO.nil ?_ | refine DW.region ?_ | refine DW.seq ?_ | refine DW.block ?_ | refine DW.skip ?_ | refine DW.exit ?_ | refine DW.condT rfl ?_ | refine DW.condF rfl ?_))
    have hov2 := hov.set (x := (47, [I f[k].c, intsD f[k].e])) (hov.none hbv)
    refine DW.drawS 8 Try.mixed (by kernel_rfl) (by decide) ?_
    dsimp only [List.take, List.drop]
    (repeat (first | refine RS.Sv ?_ | refine RS.Yv ?_ | refine RS.no rfl (by decide) rfl ?_ | refine RS.nil ?_))
    refine RS.sta (fun H' hov => sta_call rfl rfl (clone_pure f[k].e (by have := hm _ (List.getElem_mem hlt); omega) _)) rfl ?_
    refine RS.sta (fun H' hov => s_buildT (out := [I f[k].c, intsD f[k].e]) rfl rfl) rfl ?_
    (repeat (first | refine RS.Sv ?_ | refine RS.Yv ?_ | refine RS.no rfl (by decide) rfl ?_ | refine RS.nil ?_))
    refine RO.dyn rfl (d_append (H0 := H) (xs := [tmD f[k]]) rfl (hacc.over' (Over.set (Over.refl _) hbv)) hov2 rfl (.inl rfl) (uni_tm [f[k]]) (by simp; omega) (by simp; omega) fun d' H' q1 q2 q3 => ?_)
    (repeat (first | refine RO.Sv ?_ | refine RO.Yv ?_ | refine RO.no rfl (by decide) rfl ?_ | refine RO.nil ?_ | refine DW.region ?_ | refine DW.seq ?_ | refine DW.block ?_ | refine DW.skip ?_ | refine DW.exit ?_ | refine DW.condT rfl ?_ | refine DW.condF rfl ?_))
    refine ⟨(k + 1, H', d'), ⟨hlt, ?_, q2⟩, by dsimp only; omega, rfl, rfl, rfl, rfl, rfl, trivial⟩
    dsimp only
    rw [List.take_succ_eq_append_getElem hlt, List.map_append]
    exact q1
  · have hke : k = f.length := by have := of_decide_eq_false hb; omega
    rw [hke, List.take_length] at hacc
    (repeat (first | refine RO.Sv ?_ | refine RO.Yv ?_ | refine RO.no rfl (by decide) rfl ?_ | refine RO.nil ?_ | refine DW.region ?_ | refine DW.seq ?_ | refine DW.block ?_ | refine DW.skip ?_ | refine DW.exit ?_ | refine DW.condT rfl ?_ | refine DW.condF rfl ?_))
    exact DW.ret ⟨.inl rfl, _, rfl, hov, hacc.done⟩

theorem top_pure (f : Pl) (hl : f.length ≤ 4000000000000) (hm : ∀ t ∈ f, MOk t.e) : Pure Try.prog 80 [plD f] (I (topT f)) := by
  intro H
  refine PureH.of_body Try.func80 rfl (by decide) (Nat.le_of_ble_eq_true rfl) fun w0 => ?_
  (repeat (first | refine RO.Sv ?_ | refine RO.Yv ?_ | refine RO.no rfl (by decide) rfl ?_ | refine RO.nil ?_ | refine DW.region ?_ | refine DW.seq ?_ | refine DW.block ?_ | refine DW.skip ?_ | refine DW.exit ?_ | refine DW.condT rfl ?_ | refine DW.condF rfl ?_))
  cases f with
  | nil =>
    (repeat (first | refine RO.Sv ?_ | refine RO.Yv ?_ | refine RO.no rfl (by decide) rfl ?_ | refine RO.nil ?_ | refine DW.region ?_ | refine DW.seq ?_ | refine DW.block ?_ | refine DW.skip ?_ | refine DW.exit ?_ | refine DW.condT rfl ?_ | refine DW.condF rfl ?_))
    exact DW.ret ⟨.inl rfl, _, rfl, Over.refl _, .same _⟩
  | cons t f =>
    have h0 : 0 < (t :: f).length := by simp
    rw [show (((t :: f).length : Int) == 0) = false by rw [beq_eq_false_iff_ne]; simp; omega]
    (repeat (first | refine RO.Sv ?_ | refine RO.Yv ?_ | refine RO.no rfl (by decide) rfl ?_ | refine RO.nil ?_ | refine DW.region ?_ | refine DW.seq ?_ | refine DW.block ?_ | refine DW.skip ?_ | refine DW.exit ?_ | refine DW.condT rfl ?_ | refine DW.condF rfl ?_))
    refine RO.sta (sta_call rfl rfl (Degree_pure (hm t (by simp)) _)) rfl ?_
    (repeat (first | refine RO.Sv ?_ | refine RO.Yv ?_ | refine RO.no rfl (by decide) rfl ?_ | refine RO.nil ?_ | refine DW.region ?_ | refine DW.seq ?_ | refine DW.block ?_ | refine DW.skip ?_ | refine DW.exit ?_ | refine DW.condT rfl ?_ | refine DW.condF rfl ?_))
    exact DW.ret ⟨.inl rfl, _, rfl, Over.refl _, .same _⟩

def plE (x : Pl × Int) : D := .tup [plD x.1, I x.2]

theorem done_pure (f : Pl) (hl : f.length ≤ 4000000000000) (hm : ∀ t ∈ f, MOk t.e) : Pure Try.prog 39 [plD f] (plE (doneT f)) := by
  intro H
  refine PureH.of_body Try.func39 rfl (by decide) (Nat.le_of_ble_eq_true rfl) fun w0 => ?_
  (repeat (first | refine RO.Sv ?_ | refine RO.Yv ?_ | refine RO.no rfl (by decide) rfl ?_ | refine RO.nil ?_ | refine DW.region ?_ | refine DW.seq ?_ | refine DW.block ?_ | refine DW.skip ?_ | refine DW.exit ?_ | refine DW.condT rfl ?_ | refine DW.condF rfl ?_))
  refine RO.sta (sta_call rfl rfl (top_pure f hl hm _)) rfl ?_
  (repeat (first | refine RO.Sv ?_ | refine RO.Yv ?_ | refine RO.no rfl (by decide) rfl ?_ | refine RO.nil ?_ | refine DW.region ?_ | refine DW.seq ?_ | refine DW.block ?_ | refine DW.skip ?_ | refine DW.exit ?_ | refine DW.condT rfl ?_ | refine DW.condF rfl ?_))
  have hg : greatT f = (decide (200 < topT f) || decide ((2000 : Int) < (f.length : Int))) := by
    unfold greatT
    congr 1
    rw [decide_eq_decide]
    omega
  cases h1 : decide (200 < topT f)
  · (repeat (first | refine RO.Sv ?_ | refine RO.Yv ?_ | refine RO.no rfl (by decide) rfl ?_ | refine RO.nil ?_ | refine DW.region ?_ | refine DW.seq ?_ | refine DW.block ?_ | refine DW.skip ?_ | refine DW.exit ?_ | refine DW.condT rfl ?_ | refine DW.condF rfl ?_))
    refine DW.cond rfl (fun hb => ?_) (fun hb => ?_)
    · have : doneT f = ([], 2) := by unfold doneT; rw [if_pos (by rw [hg, h1, hb]; rfl)]
      rw [this]
      (repeat (first | refine RO.Sv ?_ | refine RO.Yv ?_ | refine RO.no rfl (by decide) rfl ?_ | refine RO.nil ?_ | refine DW.region ?_ | refine DW.seq ?_ | refine DW.block ?_ | refine DW.skip ?_ | refine DW.exit ?_ | refine DW.condT rfl ?_ | refine DW.condF rfl ?_))
      exact DW.ret ⟨.inl rfl, _, rfl, Over.refl _, .tup2 (.nil _) (.same _)⟩
    · have : doneT f = (f, 0) := by unfold doneT; rw [if_neg (by rw [hg, h1, hb]; simp)]
      rw [this]
      (repeat (first | refine RO.Sv ?_ | refine RO.Yv ?_ | refine RO.no rfl (by decide) rfl ?_ | refine RO.nil ?_ | refine DW.region ?_ | refine DW.seq ?_ | refine DW.block ?_ | refine DW.skip ?_ | refine DW.exit ?_ | refine DW.condT rfl ?_ | refine DW.condF rfl ?_))
      refine RO.sta (sta_call rfl rfl (copied_pure f hl (fun t ht => (hm t ht).len) _)) rfl ?_
      (repeat (first | refine RO.Sv ?_ | refine RO.Yv ?_ | refine RO.no rfl (by decide) rfl ?_ | refine RO.nil ?_ | refine DW.region ?_ | refine DW.seq ?_ | refine DW.block ?_ | refine DW.skip ?_ | refine DW.exit ?_ | refine DW.condT rfl ?_ | refine DW.condF rfl ?_))
      exact DW.ret ⟨.inl rfl, _, rfl, Over.refl _, .same _⟩
  · have : doneT f = ([], 2) := by unfold doneT; rw [if_pos (by rw [hg, h1]; rfl)]
    rw [this]
    (repeat (first | refine RO.Sv ?_ | refine RO.Yv ?_ | refine RO.no rfl (by decide) rfl ?_ | refine RO.nil ?_ | refine DW.region ?_ | refine DW.seq ?_ | refine DW.block ?_ | refine DW.skip ?_ | refine DW.exit ?_ | refine DW.condT rfl ?_ | refine DW.condF rfl ?_))
    exact DW.ret ⟨.inl rfl, _, rfl, Over.refl _, .tup2 (.nil _) (.same _)⟩

theorem TopOf_pure (f : Pl) (hl : f.length ≤ 4000000000000) (hm : ∀ t ∈ f, MOk t.e) (ht : ∀ t ∈ f, t.e.sum ≤ topT f) : Pure Try.prog 68 [plD f] (I (topT f)) := by
  intro H
  refine PureH.of_body Try.func68 rfl (by decide) (Nat.le_of_ble_eq_true rfl) fun w0 => ?_
  (repeat (first | refine RO.Sv ?_ | refine RO.Yv ?_ | refine RO.no rfl (by decide) rfl ?_ | refine RO.nil ?_ | refine DW.region ?_ | refine DW.seq ?_ | refine DW.block ?_ | refine DW.skip ?_ | refine DW.exit ?_ | refine DW.condT rfl ?_ | refine DW.condF rfl ?_))
  refine DW.loopI (fun x : Nat × Int => x.1 ≤ f.length ∧ (x.1 = 0 → x.2 = -1) ∧ (x.1 ≠ 0 → x.2 = topT f)) (fun x => [(0, plD f), (3, I x.2), (4, I x.1)]) (fun _ => H) (fun x => f.length - x.1) (0, -1) ⟨Nat.zero_le _, fun _ => rfl, fun h => absurd rfl h⟩ rfl ⟨rfl, rfl, rfl, trivial⟩ fun ⟨k, out⟩ ⟨hk, h0, h1⟩ => ?_
  dsimp only at hk h0 h1
  dsimp only
  (repeat (first | refine RO.Sv ?_ | refine RO.Yv ?_ | refine RO.no rfl (by decide) rfl ?_ | refine RO.nil ?_ | refine DW.region ?_ | refine DW.seq ?_ | refine DW.block ?_ | refine DW.skip ?_ | refine DW.exit ?_ | refine DW.condT rfl ?_ | refine DW.condF rfl ?_))
  refine DW.cond rfl (fun hb => ?_) (fun hb => ?_)
  · have hlt : k < f.length := by have := of_decide_eq_true hb; omega
    have hmk := hm _ (List.getElem_mem hlt)
    have hs := hmk.sum
    have htk := ht _ (List.getElem_mem hlt)
    clear hb
    (repeat (first | refine RO.Sv ?_ | refine RO.Yv ?_ | refine RO.no rfl (by decide) rfl ?_ | refine RO.nil ?_ | refine DW.region ?_ | refine DW.seq ?_ | refine DW.block ?_ | refine DW.skip ?_ | refine DW.exit ?_ | refine DW.condT rfl ?_ | refine DW.condF rfl ?_))
    refine RO.sta (sta_call rfl rfl (DegreeOf_pure hmk _)) rfl ?_
    (repeat (first | refine RO.Sv ?_ | refine RO.Yv ?_ | refine RO.no rfl (by decide) rfl ?_ | refine RO.nil ?_ | refine DW.region ?_ | refine DW.seq ?_ | refine DW.block ?_ | refine DW.skip ?_ | refine DW.exit ?_ | refine DW.condT rfl ?_ | refine DW.condF rfl ?_))
    by_cases hk0 : k = 0
    · subst hk0
      have ho : out = -1 := h0 rfl
      have hf0 : f[0].e.sum = topT f := by
        cases f with
        | nil => simp at hlt
        | cons t f => rfl
      rw [show decide (out < f[0].e.sum) = true from decide_eq_true (by omega)]
      (repeat (first | refine RO.Sv ?_ | refine RO.Yv ?_ | refine RO.no rfl (by decide) rfl ?_ | refine RO.nil ?_ | refine DW.region ?_ | refine DW.seq ?_ | refine DW.block ?_ | refine DW.skip ?_ | refine DW.exit ?_ | refine DW.condT rfl ?_ | refine DW.condF rfl ?_))
      refine RO.sta (sta_call rfl rfl (DegreeOf_pure hmk _)) rfl ?_
      (repeat (first | refine RO.Sv ?_ | refine RO.Yv ?_ | refine RO.no rfl (by decide) rfl ?_ | refine RO.nil ?_ | refine DW.region ?_ | refine DW.seq ?_ | refine DW.block ?_ | refine DW.skip ?_ | refine DW.exit ?_ | refine DW.condT rfl ?_ | refine DW.condF rfl ?_))
      exact ⟨(1, f[0].e.sum), ⟨hlt, fun h => by simp at h, fun _ => hf0⟩, by dsimp only; omega, rfl, rfl, rfl, rfl, trivial⟩
    · have ho := h1 hk0
      rw [show decide (out < f[k].e.sum) = false from decide_eq_false (by omega)]
      (repeat (first | refine RO.Sv ?_ | refine RO.Yv ?_ | refine RO.no rfl (by decide) rfl ?_ | refine RO.nil ?_ | refine DW.region ?_ | refine DW.seq ?_ | refine DW.block ?_ | refine DW.skip ?_ | refine DW.exit ?_ | refine DW.condT rfl ?_ | refine DW.condF rfl ?_))
      exact ⟨(k + 1, out), ⟨hlt, fun h => by simp at h, fun _ => ho⟩, by dsimp only; omega, rfl, rfl, rfl, rfl, trivial⟩
  · have hke : k = f.length := by have := of_decide_eq_false hb; omega
    have ho : out = topT f := by
      by_cases hk0 : k = 0
      · have : f = [] := List.eq_nil_of_length_eq_zero (by omega)
        rw [h0 hk0, this]; rfl
      · exact h1 hk0
    rw [← ho]
    (repeat (first | refine RO.Sv ?_ | refine RO.Yv ?_ | refine RO.no rfl (by decide) rfl ?_ | refine RO.nil ?_ | refine DW.region ?_ | refine DW.seq ?_ | refine DW.block ?_ | refine DW.skip ?_ | refine DW.exit ?_ | refine DW.condT rfl ?_ | refine DW.condF rfl ?_))
    exact DW.ret ⟨.inl rfl, _, rfl, Over.refl _, .same _⟩

theorem Great_pure (f : Pl) (hl : f.length ≤ 4000000000000) (hm : ∀ t ∈ f, MOk t.e) (ht : ∀ t ∈ f, t.e.sum ≤ topT f) : Pure Try.prog 46 [plD f] (.bool (greatT f)) := by
  intro H
  refine PureH.of_body Try.func46 rfl (by decide) (Nat.le_of_ble_eq_true rfl) fun w0 => ?_
  (repeat (first | refine RO.Sv ?_ | refine RO.Yv ?_ | refine RO.no rfl (by decide) rfl ?_ | refine RO.nil ?_ | refine DW.region ?_ | refine DW.seq ?_ | refine DW.block ?_ | refine DW.skip ?_ | refine DW.exit ?_ | refine DW.condT rfl ?_ | refine DW.condF rfl ?_))
  refine RO.sta (sta_call rfl rfl (TopOf_pure f hl hm ht _)) rfl ?_
  (repeat (first | refine RO.Sv ?_ | refine RO.Yv ?_ | refine RO.no rfl (by decide) rfl ?_ | refine RO.nil ?_ | refine DW.region ?_ | refine DW.seq ?_ | refine DW.block ?_ | refine DW.skip ?_ | refine DW.exit ?_ | refine DW.condT rfl ?_ | refine DW.condF rfl ?_))
  have hg : greatT f = (decide (200 < topT f) || decide ((2000 : Int) < (f.length : Int))) := by
    unfold greatT
    congr 1
    rw [decide_eq_decide]
    omega
  rw [hg]
  cases h1 : decide (200 < topT f)
  · (repeat (first | refine RO.Sv ?_ | refine RO.Yv ?_ | refine RO.no rfl (by decide) rfl ?_ | refine RO.nil ?_ | refine DW.region ?_ | refine DW.seq ?_ | refine DW.block ?_ | refine DW.skip ?_ | refine DW.exit ?_ | refine DW.condT rfl ?_ | refine DW.condF rfl ?_))
    exact DW.ret ⟨.inl rfl, _, rfl, Over.refl _, .same _⟩
  · (repeat (first | refine RO.Sv ?_ | refine RO.Yv ?_ | refine RO.no rfl (by decide) rfl ?_ | refine RO.nil ?_ | refine DW.region ?_ | refine DW.seq ?_ | refine DW.block ?_ | refine DW.skip ?_ | refine DW.exit ?_ | refine DW.condT rfl ?_ | refine DW.condF rfl ?_))
    exact DW.ret ⟨.inl rfl, _, rfl, Over.refl _, .same _⟩

theorem SamePoly_pure (f : Pl) (hl : f.length ≤ 4000000000000) (hm : ∀ t ∈ f, t.e.length ≤ 3) : Pure Try.prog 50 [plD f, plD f] (.bool true) := by
  intro H
  refine PureH.of_body Try.func50 rfl (by decide) (Nat.le_of_ble_eq_true rfl) fun w0 => ?_
  (repeat (first | refine RO.Sv ?_ | refine RO.Yv ?_ | refine RO.no rfl (by decide) rfl ?_ | refine RO.nil ?_ | refine DW.region ?_ | refine DW.seq ?_ | refine DW.block ?_ | refine DW.skip ?_ | refine DW.exit ?_ | refine DW.condT rfl ?_ | refine DW.condF rfl ?_))
  rw [show ((f.length : Int) != (f.length : Int)) = false by simp]
  (repeat (first | refine RO.Sv ?_ | refine RO.Yv ?_ | refine RO.no rfl (by decide) rfl ?_ | refine RO.nil ?_ | refine DW.region ?_ | refine DW.seq ?_ | refine DW.block ?_ | refine DW.skip ?_ | refine DW.exit ?_ | refine DW.condT rfl ?_ | refine DW.condF rfl ?_))
  refine DW.loopI (fun k : Nat => k ≤ f.length) (fun k => [(0, plD f), (1, plD f), (5, I k)]) (fun _ => H) (fun k => f.length - k) 0 (Nat.zero_le _) rfl ⟨rfl, rfl, rfl, trivial⟩ fun k hk => ?_
  (repeat (first | refine RO.Sv ?_ | refine RO.Yv ?_ | refine RO.no rfl (by decide) rfl ?_ | refine RO.nil ?_ | refine DW.region ?_ | refine DW.seq ?_ | refine DW.block ?_ | refine DW.skip ?_ | refine DW.exit ?_ | refine DW.condT rfl ?_ | refine DW.condF rfl ?_))
  refine DW.cond rfl (fun hb => ?_) (fun hb => ?_)
  · have hlt : k < f.length := by have := of_decide_eq_true hb; omega
    clear hb
    have hlen := hm _ (List.getElem_mem hlt)
    (repeat (first | refine RO.Sv ?_ | refine RO.Yv ?_ | refine RO.no rfl (by decide) rfl ?_ | refine RO.nil ?_ | refine DW.region ?_ | refine DW.seq ?_ | refine DW.block ?_ | refine DW.skip ?_ | refine DW.exit ?_ | refine DW.condT rfl ?_ | refine DW.condF rfl ?_))
    refine DW.drawS 25 Try.mixed (by kernel_rfl) (by decide) ?_
    dsimp only [List.take, List.drop]
    (repeat (first | refine RS.Sv ?_ | refine RS.Yv ?_ | refine RS.no rfl (by decide) rfl ?_ | refine RS.nil ?_))
    rw [show (f[k].c != f[k].c) = false by simp]
    (repeat (first | refine RS.Sv ?_ | refine RS.Yv ?_ | refine RS.no rfl (by decide) rfl ?_ | refine RS.nil ?_))
    refine RS.yes rfl (fun H' hov => sta_call rfl rfl (SameInts_pure f[k].e f[k].e (by omega) _)) rfl ?_
    rw [beq_self_eq_true]
    (repeat (first | refine RS.Sv ?_ | refine RS.Yv ?_ | refine RS.no rfl (by decide) rfl ?_ | refine RS.nil ?_))
    (repeat (first | refine RO.Sv ?_ | refine RO.Yv ?_ | refine RO.no rfl (by decide) rfl ?_ | refine RO.nil ?_ | refine DW.region ?_ | refine DW.seq ?_ | refine DW.block ?_ | refine DW.skip ?_ | refine DW.exit ?_ | refine DW.condT rfl ?_ | refine DW.condF rfl ?_))
    exact ⟨k + 1, hlt, by dsimp only; omega, rfl, rfl, rfl, rfl, trivial⟩
  · (repeat (first | refine RO.Sv ?_ | refine RO.Yv ?_ | refine RO.no rfl (by decide) rfl ?_ | refine RO.nil ?_ | refine DW.region ?_ | refine DW.seq ?_ | refine DW.block ?_ | refine DW.skip ?_ | refine DW.exit ?_ | refine DW.condT rfl ?_ | refine DW.condF rfl ?_))
    exact DW.ret ⟨.inl rfl, _, rfl, Over.refl _, .same _⟩

theorem SameVector_pure (v : Vc) (hl : v.length ≤ 1000000) (hm : ∀ f ∈ v, f.length ≤ 4000000000000 ∧ ∀ t ∈ f, t.e.length ≤ 3) : Pure Try.prog 14 [vcD v, vcD v] (.bool true) := by
  intro H
  refine PureH.of_body Try.func14 rfl (by decide) (Nat.le_of_ble_eq_true rfl) fun w0 => ?_
  (repeat (first | refine RO.Sv ?_ | refine RO.Yv ?_ | refine RO.no rfl (by decide) rfl ?_ | refine RO.nil ?_ | refine DW.region ?_ | refine DW.seq ?_ | refine DW.block ?_ | refine DW.skip ?_ | refine DW.exit ?_ | refine DW.condT rfl ?_ | refine DW.condF rfl ?_))
  rw [show ((v.length : Int) != (v.length : Int)) = false by simp]
  (repeat (first | refine RO.Sv ?_ | refine RO.Yv ?_ | refine RO.no rfl (by decide) rfl ?_ | refine RO.nil ?_ | refine DW.region ?_ | refine DW.seq ?_ | refine DW.block ?_ | refine DW.skip ?_ | refine DW.exit ?_ | refine DW.condT rfl ?_ | refine DW.condF rfl ?_))
  refine DW.loopI (fun k : Nat => k ≤ v.length) (fun k => [(0, vcD v), (1, vcD v), (5, I k)]) (fun _ => H) (fun k => v.length - k) 0 (Nat.zero_le _) rfl ⟨rfl, rfl, rfl, trivial⟩ fun k hk => ?_
  (repeat (first | refine RO.Sv ?_ | refine RO.Yv ?_ | refine RO.no rfl (by decide) rfl ?_ | refine RO.nil ?_ | refine DW.region ?_ | refine DW.seq ?_ | refine DW.block ?_ | refine DW.skip ?_ | refine DW.exit ?_ | refine DW.condT rfl ?_ | refine DW.condF rfl ?_))
  refine DW.cond rfl (fun hb => ?_) (fun hb => ?_)
  · have hlt : k < v.length := by have := of_decide_eq_true hb; omega
    clear hb
    have hmk := hm _ (List.getElem_mem hlt)
    (repeat (first | refine RO.Sv ?_ | refine RO.Yv ?_ | refine RO.no rfl (by decide) rfl ?_ | refine RO.nil ?_ | refine DW.region ?_ | refine DW.seq ?_ | refine DW.block ?_ | refine DW.skip ?_ | refine DW.exit ?_ | refine DW.condT rfl ?_ | refine DW.condF rfl ?_))
    refine DW.drawS 10 Try.mixed (by kernel_rfl) (by decide) ?_
    dsimp only [List.take, List.drop]
    (repeat (first | refine RS.Sv ?_ | refine RS.Yv ?_ | refine RS.no rfl (by decide) rfl ?_ | refine RS.nil ?_))
    refine RS.sta (fun H' hov => sta_call rfl rfl (SamePoly_pure v[k] hmk.1 hmk.2 _)) rfl ?_
    (repeat (first | refine RS.Sv ?_ | refine RS.Yv ?_ | refine RS.no rfl (by decide) rfl ?_ | refine RS.nil ?_))
    (repeat (first | refine RO.Sv ?_ | refine RO.Yv ?_ | refine RO.no rfl (by decide) rfl ?_ | refine RO.nil ?_ | refine DW.region ?_ | refine DW.seq ?_ | refine DW.block ?_ | refine DW.skip ?_ | refine DW.exit ?_ | refine DW.condT rfl ?_ | refine DW.condF rfl ?_))
    exact ⟨k + 1, hlt, by dsimp only; omega, rfl, rfl, rfl, rfl, trivial⟩
  · (repeat (first | refine RO.Sv ?_ | refine RO.Yv ?_ | refine RO.no rfl (by decide) rfl ?_ | refine RO.nil ?_ | refine DW.region ?_ | refine DW.seq ?_ | refine DW.block ?_ | refine DW.skip ?_ | refine DW.exit ?_ | refine DW.condT rfl ?_ | refine DW.condF rfl ?_))
    exact DW.ret ⟨.inl rfl, _, rfl, Over.refl _, .same _⟩

end Go.Proofs.Ytblileclefbklaa

namespace Go.Proofs.Ytblileclefbklaa
open Go.RowKit
set_option linter.unusedVariables false
set_option linter.unusedSimpArgs false

def existQ {α : Type} (P : α → Prop) (l : α → Env) (H' : α → Heap) (Q : Post) : Post
  | .normal, e, H => ∃ a, P a ∧ (H' a).sub H ∧ HasG e H (H' a) (l a)
  | x, e, H => Q x e H

/-- Ways meet behind a block: with something that is so. -/
theorem DW.cutB {C : Ctx} {α : Type} {id : Nat} {x y : Code} {e : Env} {H : Heap} {Q : Post} (P : α → Prop) (l : α → Env) (H' : α → Heap) (h2 : ∀ a, P a → DW C y (l a) (H' a) Q) (h1 : DW C x e H (blockQ id (existQ P l H' Q))) : DW C x e H (blockQ id (thenQ C y Q)) := by
  have key : ∀ z e' H'', existQ P l H' Q z e' H'' → thenQ C y Q z e' H'' := fun z e' H'' h => by
    cases z with
    | normal =>
      obtain ⟨a, ha, hs, hg⟩ := h
      exact DW.freezeG (l a) (H' a) hs hg (h2 a ha)
    | exit id => exact h
    | goto l => exact h
    | ret => exact h
    | panic c => exact h
    | outgrown => exact h
  refine h1.mono fun z e' H'' h => ?_
  cases z with
  | exit id' =>
    simp only [blockQ] at h ⊢
    cases hb : Nat.beq id' id with
    | true => rw [hb] at h; exact key .normal _ _ h
    | false => rw [hb] at h; exact key (.exit id') _ _ h
  | normal => exact key .normal _ _ h
  | goto l => exact h
  | ret => exact h
  | panic c => exact h
  | outgrown => exact h

/-- Ways meet: with something that is so. -/
theorem DW.cutE {C : Ctx} {α : Type} {x y : Code} {e : Env} {H : Heap} {Q : Post} (P : α → Prop) (l : α → Env) (H' : α → Heap) (h2 : ∀ a, P a → DW C y (l a) (H' a) Q) (h1 : DW C x e H (existQ P l H' Q)) : DW C x e H (thenQ C y Q) := by
  refine h1.mono fun z e' H'' h => ?_
  cases z with
  | normal =>
    obtain ⟨a, ha, hs, hg⟩ := h
    exact DW.freezeG (l a) (H' a) hs hg (h2 a ha)
  | exit id => exact h
  | goto l => exact h
  | ret => exact h
  | panic c => exact h
  | outgrown => exact h

def dropD : D → Nat → D
  | .ref b off n k, m => if m < n then .ref b (off + m * k) (n - m) k else .list k []
  | d, _ => d

def takeD : D → Nat → D
  | .ref b off _ k, m => .ref b off m k
  | d, _ => d

/-- What may be appended: whatever memory, this stands there. -/
def SrcOk (H : Heap) (d : D) (k : Nat) (xs : List D) : Prop := ∀ (w : World) (v : Value), HOK w H → Rep w H v d → NewsOf w H v k xs

theorem SrcOk.list {H : Heap} {k : Nat} {xs : List D} (hu : Uni k xs) (hk : 0 < k) : SrcOk H (.list k xs) k xs := fun w v _ hr => .list hr hu hk
theorem SrcOk.nil {H : Heap} (k : Nat) : SrcOk H .nil k [] := fun w v _ hr => .nil hr k

theorem Acc.weaken {H H1 H2 : Heap} {d : D} {k : Nat} {T : TypeId} {l : List D} (h : Acc H1 H2 d k T l) (ho : Over H H1) : Acc H H2 d k T l := ⟨h.uni, h.is.imp id fun ⟨b, h1, h2, h3⟩ => ⟨b, ho.none h1, h2, h3⟩⟩

theorem SrcOk.acc {H0 H : Heap} {d : D} {k : Nat} {T : TypeId} {l : List D} (h : Acc H0 H d k T l) : SrcOk H d k l := by
  rcases h.is with ⟨rfl, rfl⟩ | ⟨b, _, rfl, hb⟩
  · exact .nil k
  · exact fun w v ho hr => NewsOf.ref hr ho hb h.uni rfl fun j x hx => by simpa using hx

theorem SrcOk.take {H0 H : Heap} {d : D} {k m : Nat} {T : TypeId} {l : List D} (h : Acc H0 H d k T l) (hm : m ≤ l.length) : SrcOk H (takeD d m) k (l.take m) := by
  rcases h.is with ⟨rfl, rfl⟩ | ⟨b, _, rfl, hb⟩
  · rw [List.take_nil]; exact .nil k
  · refine fun w v ho hr => NewsOf.ref hr ho hb (fun d hd => h.uni d (List.mem_of_mem_take hd)) (by simp; omega) fun j x hx => ?_
    have : l.flatMap cellsOf = (l.take m).flatMap cellsOf ++ (l.drop m).flatMap cellsOf := by rw [← List.flatMap_append, List.take_append_drop]
    rw [this, Nat.zero_add, List.getElem?_append_left (List.getElem?_eq_some_iff.1 hx).1]
    exact hx

theorem SrcOk.drop {H0 H : Heap} {d : D} {k m : Nat} {T : TypeId} {l : List D} (h : Acc H0 H d k T l) (hk : 0 < k) (hm : m ≤ l.length) : SrcOk H (dropD d m) k (l.drop m) := by
  rcases h.is with ⟨rfl, rfl⟩ | ⟨b, _, rfl, hb⟩
  · rw [List.drop_nil]; exact .nil k
  · by_cases hlt : m < l.length
    · rw [show dropD (.ref b 0 l.length k) m = .ref b (0 + m * k) (l.length - m) k from if_pos hlt]
      refine fun w v ho hr => NewsOf.ref hr ho hb (fun d hd => h.uni d (List.mem_of_mem_drop hd)) (by simp) fun j x hx => ?_
      have : l.flatMap cellsOf = (l.take m).flatMap cellsOf ++ (l.drop m).flatMap cellsOf := by rw [← List.flatMap_append, List.take_append_drop]
      have hu : Uni k (l.take m) := fun d hd => h.uni d (List.mem_of_mem_take hd)
      have hl : ((l.take m).flatMap cellsOf).length = m * k := by rw [hu.length, List.length_take, Nat.min_eq_left hm]
      rw [this, List.getElem?_append_right (by omega), hl]
      rw [show 0 + m * k + j - m * k = j by omega]
      exact hx
    · rw [show dropD (.ref b 0 l.length k) m = .list k [] from if_neg hlt, List.drop_eq_nil_of_le (by omega)]
      exact .list (Uni.nil k) hk

section
variable {P : Program} {H : Heap} {e : Env} {dst : Option Tmp} {ty : TypeId} {pos : String} {af : Array Edge} {gd : Option (Nat × Bool)}

theorem x_loadM {α : Type} {f : α → D} {l : List α} {k i : Nat} {t : TypeId} {x : Operand} [CellT P t] (hf : ∀ a, cellsOf (f a) = [f a]) (hx : e.ev x = some (.ipt k (l.map f) i 0)) (hi : i < l.length) : ∀ H', Sta P H' e ⟨dst, .load t x, ty, pos, af, gd⟩ (f l[i]) :=
  fun _ => s_loadM hf hx hi
theorem x_loadTm {f : Pl} {i : Nat} {t : TypeId} {x : Operand} [AggT P t 2] (hx : e.ev x = some (.ipt 2 (f.map tmD) i 0)) (hi : i < f.length) : ∀ H', Sta P H' e ⟨dst, .load t x, ty, pos, af, gd⟩ (tmD f[i]) :=
  fun _ => s_loadTm hx hi
theorem x_loadC {f : Pl} {i : Nat} {t : TypeId} {x : Operand} [CellT P t] (hx : e.ev x = some (.ipt 2 (f.map tmD) i 0)) (hi : i < f.length) : ∀ H', Sta P H' e ⟨dst, .load t x, ty, pos, af, gd⟩ (I f[i].c) :=
  fun _ => s_loadC hx hi
theorem x_loadE {f : Pl} {i : Nat} {t : TypeId} {x : Operand} [CellT P t] (hx : e.ev x = some (.ipt 2 (f.map tmD) i 1)) (hi : i < f.length) : ∀ H', Sta P H' e ⟨dst, .load t x, ty, pos, af, gd⟩ (intsD f[i].e) :=
  fun _ => s_loadE hx hi

/-- s[m:] of one's own slice. -/
theorem s_dropAcc {H0 H1 : Heap} {t E : TypeId} {x y : Operand} {k bytes m : Nat} {zd : List D} {d : D} {l : List D} {T : TypeId} {i : Int} [SliceT P t E] [ElT P E k zd bytes] (hx : e.ev x = some d) (hacc : Acc H0 H1 d k T l) (hy : e.ev y = some (I i)) (hi : i = m) (hm : m ≤ l.length) :
    Sta P H e ⟨dst, .slice t x (some y) none none, ty, pos, af, gd⟩ (dropD d m) := by
  subst hi
  rcases hacc.is with ⟨rfl, rfl⟩ | ⟨b, _, rfl, hb⟩
  · obtain ⟨inf, z, hi', hz1, hz2, hz3⟩ := (ElT.z (P := P) (E := E) (k := k) (zd := zd) (bytes := bytes)).is
    have hm0 : m = 0 := by simpa using hm
    subst hm0
    exact sta_slice_nil (k := k) SliceT.h hi' hx (by simp [boundD, hy]) rfl
  · by_cases hlt : m < l.length
    · rw [show dropD (.ref b 0 l.length k) m = .ref b (0 + m * k) (l.length - m) k from if_pos hlt]
      exact s_fromRef (zd := zd) (bytes := bytes) hx hy hlt
    · rw [show dropD (.ref b 0 l.length k) m = .list k [] from if_neg hlt]
      have : m = l.length := by omega
      subst this
      exact s_fromRefEnd (zd := zd) (bytes := bytes) hx hy

/-- s[:m] of one's own slice. -/
theorem s_takeAcc {H0 H1 : Heap} {t E : TypeId} {x y : Operand} {k bytes m : Nat} {zd : List D} {d : D} {l : List D} {T : TypeId} {i : Int} [SliceT P t E] [ElT P E k zd bytes] (hx : e.ev x = some d) (hacc : Acc H0 H1 d k T l) (hy : e.ev y = some (I i)) (hi : i = m) (hm : m ≤ l.length) :
    Sta P H e ⟨dst, .slice t x none (some y) none, ty, pos, af, gd⟩ (takeD d m) := by
  subst hi
  obtain ⟨inf, z, hi', hz1, hz2, hz3⟩ := (ElT.z (P := P) (E := E) (k := k) (zd := zd) (bytes := bytes)).is
  rcases hacc.is with ⟨rfl, rfl⟩ | ⟨b, _, rfl, hb⟩
  · have hm0 : m = 0 := by simpa using hm
    subst hm0
    exact sta_slice_nil (k := k) SliceT.h hi' hx rfl (by simp [boundD, hy])
  · refine .mk fun ρ w ha ho => ?_
    have h := ha x _ hx
    generalize hv : ρ x = v at h
    cases h with
    | ref hb' hs hl hcm =>
      rename_i cap cs T0
      have hbd := run_sliceBounds (P := P) (w := w) (n := l.length) (cap := cap) (a := 0) (b := m) ha (lo := none) (hi := some y) rfl (by simp [boundD, hy]) (Nat.zero_le _) (by omega)
      simp only [Option.map_some, Option.map_none] at hbd
      have hr : (Instr.sliceAt t (.slice (some ⟨b, 0, none⟩) l.length cap) none (some (ρ y)) none).run P w = .ok (.slice (some ⟨b, 0, none⟩) m cap) w := by
        simp only [Instr.sliceAt, Instr.slice, Sem.run_bind, run_underlying (SliceT.h (P := P) (t := t) (E := E)), Result.andThen_ok]
        simp [hbd, run_sizeOf hi', addr_add]
      simp only [OpTo, execOp, hv, Sem.run_bind]
      simp only [Option.map_some, Option.map_none]
      rw [hr]
      simp only [Result.andThen_ok, Sem.run_pure]
      exact ⟨.ref hb' hs (by omega) hcm, ho, .refl _ _⟩

/-- append, from whatever may be appended. -/
theorem d_appendSrc {H0 : Heap} {t E : TypeId} {x y : Operand} {k bytes : Nat} {zd : List D} {d dy : D} {l xs : List D} {K : D → Heap → Prop} [SliceT P t E] [ElT P E k zd bytes] (hx : e.ev x = some d) (hacc : Acc H0 H d k E l) (hover : Over H0 H)
    (hy : e.ev y = some dy) (hsrc : SrcOk H dy k xs) (hxs : Uni k xs) (hb : (l.length + xs.length) * bytes ≤ 140737488355328) (hlen : l.length + xs.length ≤ 4611686018427387904)
    (hK : ∀ d' H', Acc H0 H' d' k E (l ++ xs) → Over H0 H' → (∀ c z, H c = some z → d.blk ≠ some c → H' c = some z) → K d' H') :
    OpD P H e ⟨dst, .call ⟨.builtin .append, #[x, y], #[t, t]⟩, ty, pos, af, gd⟩ K :=
  opD_appendS SliceT.h (ElT.z (E := E) (bytes := bytes)) (ElT.pos (P := P) (E := E) (zd := zd) (bytes := bytes)) hx hacc hover (fun ρ w ha ho => hsrc w _ ho (ha y _ hy)) hxs (fun inf hi => by rw [ElT.b (P := P) (E := E) (k := k) (zd := zd) (bytes := bytes) inf hi]; exact hb) hlen hK

end

theorem tm_setC : ∀ (f : Pl) (i : Nat) (h : i < f.length) (c : Int), setMany ((f.map tmD).flatMap cellsOf) (i * 2) [I c] = ((f.set i ⟨c, f[i].e⟩).map tmD).flatMap cellsOf
  | t :: f, 0, _, c => by
    show setMany ([I t.c, intsD t.e] ++ (f.map tmD).flatMap cellsOf) 0 [I c] = [I c, intsD t.e] ++ (f.map tmD).flatMap cellsOf
    simp [setMany]
  | t :: f, i + 1, h, c => by
    have ih := tm_setC f i (by simpa using h) c
    have e1 : ((t :: f).map tmD).flatMap cellsOf = [I t.c, intsD t.e] ++ (f.map tmD).flatMap cellsOf := rfl
    have e2 : (((t :: f).set (i + 1) ⟨c, (t :: f)[i + 1].e⟩).map tmD).flatMap cellsOf = [I t.c, intsD t.e] ++ ((f.set i ⟨c, (f[i]'(by simpa using h)).e⟩).map tmD).flatMap cellsOf := rfl
    rw [e1, e2, ← ih]
    unfold setMany
    rw [show (i + 1) * 2 = 2 + i * 2 by omega]
    simp only [List.length_singleton, List.cons_append, List.nil_append]
    rw [show 2 + i * 2 = i * 2 + 1 + 1 by omega, List.take_succ_cons, List.take_succ_cons, show i * 2 + 1 + 1 + 1 = (i * 2 + 1) + 1 + 1 by omega, List.drop_succ_cons, List.drop_succ_cons]
    simp

end Go.Proofs.Ytblileclefbklaa
