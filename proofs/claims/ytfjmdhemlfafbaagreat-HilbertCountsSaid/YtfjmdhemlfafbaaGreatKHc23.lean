/-
  Package basis: add. No condition.
-/
import Derived.Test.YtfjmdhemlfafbaaGreatKHc22
import Derived.Test.YtfjmdhemlfafbaaGreatKHc8
set_option linter.unusedVariables false
set_option linter.unusedSimpArgs false

namespace Go.Proofs.YtfjmdhemlfafbaaGreat
section
open Go.RowKit
set_option maxHeartbeats 8000000

theorem boundD_eq {e : Env} {x : Operand} {n : Int} {m d : Nat} (hx : e.ev x = some (I n)) (h : n = m) : boundD e (some x) d = some m := by
 subst h
 simp [boundD, hx]

theorem flatten_take {k : Nat} {cs : List (List D)} (h : ∀ c ∈ cs, c.length = k) (i : Nat) : cs.flatten.take (i * k) = (cs.take i).flatten := by
 induction cs generalizing i with
 | nil => simp
 | cons c cs ih =>
  have h1 := h c (by simp)
  cases i with
  | zero => simp
  | succ i =>
   rw [List.take_succ_cons, List.flatten_cons, List.flatten_cons, Nat.add_mul, Nat.one_mul, Nat.add_comm, ← h1, List.take_length_add_append, h1, ih (fun x hx => h x (by simp [hx]))]

theorem flatten_drop {k : Nat} {cs : List (List D)} (h : ∀ c ∈ cs, c.length = k) (i : Nat) : cs.flatten.drop (i * k) = (cs.drop i).flatten := by
 induction cs generalizing i with
 | nil => simp
 | cons c cs ih =>
  have h1 := h c (by simp)
  cases i with
  | zero => simp
  | succ i =>
   rw [List.drop_succ_cons, List.flatten_cons, Nat.add_mul, Nat.one_mul, Nat.add_comm, ← List.drop_drop, ← h1, List.drop_left, h1, ih (fun x hx => h x (by simp [hx]))]

theorem map_erase {α β : Type} (f : α → β) : ∀ (l : List α) (i : Nat), (l.map f).eraseIdx i = (l.eraseIdx i).map f
 | [], _ => rfl
 | _ :: _, 0 => rfl
 | x :: l, i + 1 => by
  rw [List.map_cons, List.eraseIdx_cons_succ, List.eraseIdx_cons_succ, map_erase f l i]
  rfl

theorem erase_cells {k : Nat} {cs : List (List D)} {zd : List D} (h : ∀ c ∈ cs, c.length = k) (hz : zd.length = k) {i : Nat} (hi : i < cs.length) :
  (setMany (setMany cs.flatten (i * k) (cs.drop (i + 1)).flatten) ((cs.length - 1) * k) zd).take ((cs.length - 1) * k) = (cs.eraseIdx i).flatten := by
 have hfl := flat_len h
 have hd : ∀ c ∈ cs.drop (i + 1), c.length = k := fun c hc => h c (List.mem_of_mem_drop hc)
 have hdl : (cs.drop (i + 1)).flatten.length = (cs.length - (i + 1)) * k := by rw [flat_len hd, List.length_drop]
 have e0 : (cs.length - 1) * k = i * k + (cs.length - (i + 1)) * k := by rw [← Nat.add_mul]; congr 1; omega
 have e1 : cs.length * k = (cs.length - 1) * k + k := by
  have : cs.length = cs.length - 1 + 1 := by omega
  conv => lhs; rw [this, Nat.add_mul, Nat.one_mul]
 have e2 : i * k ≤ cs.flatten.length := by rw [hfl]; exact Nat.mul_le_mul_right _ (by omega)
 have hl2 : (setMany cs.flatten (i * k) (cs.drop (i + 1)).flatten).length = cs.flatten.length := setMany_length (by rw [hdl, hfl]; omega)
 unfold setMany
 rw [List.append_assoc, List.take_append_of_le_length (by rw [List.length_take]; show _ ≤ min _ (setMany cs.flatten (i * k) (cs.drop (i + 1)).flatten).length; rw [hl2, hfl]; omega)]
 rw [List.take_take, Nat.min_self, e0, ← hdl]
 have := setMany_take cs.flatten (cs.drop (i + 1)).flatten (i * k) e2
 unfold setMany at this
 rw [this, flatten_take h, ← List.flatten_append, List.eraseIdx_eq_take_drop_succ]

set_option maxRecDepth 100000 in
theorem pdelete_call {H : Heap} {b : Nat} {ps : List Pr} {i : Nat} (hH : H b = some (93, (ps.map prC).flatten)) (hi : i < ps.length) (hl : ps.length ≤ 4000000000000) :
  CallD Tryz.prog H 84 [.ref b 0 ps.length 3, I (i : Nat), I ((i : Int) + 1)] fun d H' => d = .ref b 0 (ps.length - 1) 3 ∧ H' = H.set b (93, ((ps.eraseIdx i).map prC).flatten) := by
 have hc : ∀ c ∈ ps.map prC, c.length = 3 := fun c hc => by
  obtain ⟨p, _, rfl⟩ := List.mem_map.1 hc
  rfl
 have hfl := flat_len hc
 rw [List.length_map] at hfl
 refine CallD.trunc (K := fun d H' => d = .ref b 0 (ps.length - 1) 3 ∧ ∃ zd : List D, zd.length = 3 ∧ H' = H.set b (93, setMany (setMany (ps.map prC).flatten (i * 3) ((ps.map prC).drop (i + 1)).flatten) ((ps.length - 1) * 3) zd)) ?_ ?_
 rotate_left
 ·rintro d H' ⟨h1, zd, hz, rfl⟩
  refine ⟨H.set b (93, (setMany (setMany (ps.map prC).flatten (i * 3) ((ps.map prC).drop (i + 1)).flatten) ((ps.length - 1) * 3) zd).take ((ps.length - 1) * 3)), Trunc.one _, h1, ?_⟩
  have := erase_cells hc hz (i := i) (by simpa using hi)
  rw [List.length_map] at this
  rw [this, map_erase]
 refine CallD.of_body Tryz.func84 rfl (by decide) (Nat.le_of_ble_eq_true rfl) fun w0 => ?_
 refine DW.seq ?_
 refine DW.region ?_
 (repeat(first|refine zA ?_|refine zB ?_|refine zE rfl (by decide) rfl ?_))
 refine RO.nil ?_
 refine DW.seq ?_
 refine DW.regionDead 5 (s := 13) [(0, .ref b 0 ps.length 3), (1, I (i : Nat)), (2, I ((i : Int) + 1)), (6, .nil)] rfl rfl rfl (fun t d h hh => by subst hh; cases h) ?_
 dsimp only [List.take, List.drop]
 (repeat(first|refine zA ?_|refine zB ?_|refine zE rfl (by decide) rfl ?_))
 refine RO.nil ?_
 refine ⟨?_, ⟨rfl, rfl, rfl, rfl, trivial⟩, ?_⟩
 ·exact dead_sliceI (a := i) (c := i + 1) (m := ps.length) rfl rfl (by rw [Int.natCast_add]; rfl) rfl (by omega) (by omega) (Nat.le_refl _)
 (repeat(first|refine zA ?_|refine zB ?_|refine zE rfl (by decide) rfl ?_|refine zF ?_|refine zG ?_|refine zH ?_|refine zI ?_|refine zJ ?_|refine zK ?_|refine zL rfl ?_|refine zM rfl ?_))
 rw [show ((i : Int) == (i : Int) + 1) = false by simp; omega]
 (repeat(first|refine zA ?_|refine zB ?_|refine zE rfl (by decide) rfl ?_|refine zF ?_|refine zG ?_|refine zH ?_|refine zI ?_|refine zJ ?_|refine zK ?_|refine zL rfl ?_|refine zM rfl ?_))
 by_cases hlast : i + 1 = ps.length
 ·refine DW.drawS 7 Tryz.mixed (by kernel_rfl) (by decide) ?_
  dsimp only [List.take, List.drop]
  (repeat(first|refine zN ?_|refine zO ?_|refine zR rfl (by decide) rfl ?_|refine zS ?_))
  refine RS.sta (fun H' hov => s_sliceRef (T := 93) (cells := (ps.map prC).flatten) (a := 0) (c := i) (by decide) rfl rfl (boundD_eq rfl rfl) (by omega) (.inl (by omega)) (.inr (by omega))) rfl ?_
  (repeat(first|refine zN ?_|refine zO ?_|refine zR rfl (by decide) rfl ?_|refine zS ?_))
  refine RS.sta (fun H' hov => s_sliceEnd rfl (boundD_eq rfl (by omega)) rfl) rfl ?_
  refine RS.sta (fun H' hov => s_appendNone rfl rfl) rfl ?_
  refine RS.nil ?_
  (repeat(first|refine zA ?_|refine zB ?_|refine zE rfl (by decide) rfl ?_|refine zF ?_|refine zG ?_|refine zH ?_|refine zI ?_|refine zJ ?_|refine zK ?_|refine zL rfl ?_|refine zM rfl ?_))
  refine RO.sta (s_sliceRef (T := 93) (cells := (ps.map prC).flatten) (a := i) (c := ps.length) (by decide) rfl (boundD_eq rfl rfl) (boundD_eq rfl rfl) (by omega) (.inr ⟨hH, by rw [hfl]; omega⟩) (.inl (by omega))) rfl ?_
  have e1 : (0 : Nat) + i * 3 = (ps.length - 1) * 3 := by rw [Nat.zero_add]; congr 1; omega
  have e2 : ps.length - i = 1 := by omega
  have e3 : i - 0 = ps.length - 1 := by omega
  rw [show (D.ref b (0 + i * 3) (ps.length - i) 3) = D.ref b ((ps.length - 1) * 3) 1 3 by rw [e1, e2]]
  refine RO.dyn rfl (d_clearAt rfl hH (by rw [hfl]; omega) ?_)
  (repeat(first|refine zA ?_|refine zB ?_|refine zE rfl (by decide) rfl ?_|refine zF ?_|refine zG ?_|refine zH ?_|refine zI ?_|refine zJ ?_|refine zK ?_|refine zL rfl ?_|refine zM rfl ?_))
  refine DW.ret ⟨.inl rfl, _, _, _, rfl, fun _ _ h => h, .same _, ?_, [I 0, I 0, .nil], rfl, ?_⟩
  ·show D.ref b (0 + 0 * 3) (i - 0) 3 = _
   rw [e3]
  ·have : ((ps.map prC).drop (i + 1)).flatten = [] := by rw [List.drop_eq_nil_of_le (by rw [List.length_map]; omega)]; rfl
   rw [this]
   have h0 : ∀ l : List D, ∀ n, setMany l n [] = l := fun l n => by unfold setMany; simp
   rw [h0]
 ·refine DW.drawS 6 Tryz.mixed (by kernel_rfl) (by decide) ?_
  dsimp only [List.take, List.drop]
  (repeat(first|refine zN ?_|refine zO ?_|refine zR rfl (by decide) rfl ?_|refine zS ?_))
  refine RS.sta (fun H' hov => s_sliceRef (T := 93) (cells := (ps.map prC).flatten) (a := 0) (c := i) (by decide) rfl rfl (boundD_eq rfl rfl) (by omega) (.inl (by omega)) (.inr (by omega))) rfl ?_
  (repeat(first|refine zN ?_|refine zO ?_|refine zR rfl (by decide) rfl ?_|refine zS ?_))
  refine RS.sta (fun H' hov => s_sliceRef (T := 93) (cells := (ps.map prC).flatten) (a := i + 1) (c := ps.length) (by decide) rfl (boundD_eq rfl (by omega)) rfl (by omega) (.inl (by omega)) (.inl (by omega))) rfl ?_
  refine RS.nil ?_
  have hdrop : ((ps.drop (i + 1)).map prD).flatMap cellsOf = ((ps.map prC).drop (i + 1)).flatten := by
   rw [← List.map_drop]
   exact flat_map prC _
  have hmul : ps.length * 3 = i * 3 + (ps.length - i) * 3 := by rw [← Nat.add_mul]; congr 1; omega
  refine RO.dyn rfl (d_appendIn (n := i - 0) (cells := (ps.map prC).flatten) (xs := (ps.drop (i + 1)).map prD) (by decide) (by show some (D.ref b (0 + 0 * 3) (i - 0) 3) = _; rw [Nat.zero_mul]) hH (fun ρ w ha ho => NewsOf.ref (ha _ _ rfl) ho hH (uni_pr _) (by simp) fun j x hx => ?_) (uni_pr _) (by simp; omega) (by rw [hfl, List.length_map, List.length_drop, hmul, Nat.sub_zero]; have : (ps.length - (i + 1)) * 3 ≤ (ps.length - i) * 3 := Nat.mul_le_mul_right _ (by omega); omega) ?_)
  ·rw [hdrop] at hx
   have := flatten_drop hc (i + 1)
   rw [← this, List.getElem?_drop] at hx
   rwa [Nat.zero_add]
  rw [hdrop, Nat.sub_zero]
  have e3 : i + ((ps.drop (i + 1)).map prD).length = ps.length - 1 := by rw [List.length_map, List.length_drop]; omega
  rw [e3]
  have hset : (H.set b (93, setMany (ps.map prC).flatten (i * 3) ((ps.map prC).drop (i + 1)).flatten)) b = some (93, setMany (ps.map prC).flatten (i * 3) ((ps.map prC).drop (i + 1)).flatten) := Heap.set_self _ _ _
  have hdl : ((ps.map prC).drop (i + 1)).flatten.length = (ps.length - (i + 1)) * 3 := by
   rw [flat_len (fun c hx => hc c (List.mem_of_mem_drop hx)), List.length_drop, List.length_map]
  have hsl : (setMany (ps.map prC).flatten (i * 3) ((ps.map prC).drop (i + 1)).flatten).length = ps.length * 3 := by
   rw [setMany_length, hfl]
   rw [hdl, hfl, hmul]
   have : (ps.length - (i + 1)) * 3 ≤ (ps.length - i) * 3 := Nat.mul_le_mul_right _ (by omega)
   omega
  (repeat(first|refine zA ?_|refine zB ?_|refine zE rfl (by decide) rfl ?_|refine zF ?_|refine zG ?_|refine zH ?_|refine zI ?_|refine zJ ?_|refine zK ?_|refine zL rfl ?_|refine zM rfl ?_))
  refine RO.sta (s_sliceRef (T := 93) (cells := setMany (ps.map prC).flatten (i * 3) ((ps.map prC).drop (i + 1)).flatten) (a := ps.length - 1) (c := ps.length) (by decide) rfl (boundD_eq rfl rfl) (boundD_eq rfl rfl) (by omega) (.inr ⟨hset, by rw [hsl]; omega⟩) (.inl (by omega))) rfl ?_
  have e4 : ps.length - (ps.length - 1) = 1 := by omega
  rw [e4]
  refine RO.dyn rfl (d_clearAt rfl hset (by rw [hsl]; omega) ?_)
  rw [Heap.set_set]
  (repeat(first|refine zA ?_|refine zB ?_|refine zE rfl (by decide) rfl ?_|refine zF ?_|refine zG ?_|refine zH ?_|refine zI ?_|refine zJ ?_|refine zK ?_|refine zL rfl ?_|refine zM rfl ?_))
  refine DW.ret ⟨.inl rfl, _, _, _, rfl, fun _ _ h => h, .same _, rfl, [I 0, I 0, .nil], rfl, by rw [Nat.zero_add]⟩

set_option maxRecDepth 100000 in
theorem mdelete_call {H : Heap} {b : Nat} {ps : List Mb} {i : Nat} (hH : H b = some (68, (ps.map mbC).flatten)) (hi : i < ps.length) (hl : ps.length ≤ 4000000000000) :
  CallD Tryz.prog H 71 [.ref b 0 ps.length 5, I (i : Nat), I ((i : Int) + 1)] fun d H' => d = .ref b 0 (ps.length - 1) 5 ∧ H' = H.set b (68, ((ps.eraseIdx i).map mbC).flatten) := by
 have hc : ∀ c ∈ ps.map mbC, c.length = 5 := fun c hc => by
  obtain ⟨p, _, rfl⟩ := List.mem_map.1 hc
  rfl
 have hfl := flat_len hc
 rw [List.length_map] at hfl
 refine CallD.trunc (K := fun d H' => d = .ref b 0 (ps.length - 1) 5 ∧ ∃ zd : List D, zd.length = 5 ∧ H' = H.set b (68, setMany (setMany (ps.map mbC).flatten (i * 5) ((ps.map mbC).drop (i + 1)).flatten) ((ps.length - 1) * 5) zd)) ?_ ?_
 rotate_left
 ·rintro d H' ⟨h1, zd, hz, rfl⟩
  refine ⟨H.set b (68, (setMany (setMany (ps.map mbC).flatten (i * 5) ((ps.map mbC).drop (i + 1)).flatten) ((ps.length - 1) * 5) zd).take ((ps.length - 1) * 5)), Trunc.one _, h1, ?_⟩
  have := erase_cells hc hz (i := i) (by simpa using hi)
  rw [List.length_map] at this
  rw [this, map_erase]
 refine CallD.of_body Tryz.func71 rfl (by decide) (Nat.le_of_ble_eq_true rfl) fun w0 => ?_
 refine DW.seq ?_
 refine DW.region ?_
 (repeat(first|refine zA ?_|refine zB ?_|refine zE rfl (by decide) rfl ?_))
 refine RO.nil ?_
 refine DW.seq ?_
 refine DW.regionDead 5 (s := 13) [(0, .ref b 0 ps.length 5), (1, I (i : Nat)), (2, I ((i : Int) + 1)), (6, .nil)] rfl rfl rfl (fun t d h hh => by subst hh; cases h) ?_
 dsimp only [List.take, List.drop]
 (repeat(first|refine zA ?_|refine zB ?_|refine zE rfl (by decide) rfl ?_))
 refine RO.nil ?_
 refine ⟨?_, ⟨rfl, rfl, rfl, rfl, trivial⟩, ?_⟩
 ·exact dead_sliceI (a := i) (c := i + 1) (m := ps.length) rfl rfl (by rw [Int.natCast_add]; rfl) rfl (by omega) (by omega) (Nat.le_refl _)
 (repeat(first|refine zA ?_|refine zB ?_|refine zE rfl (by decide) rfl ?_|refine zF ?_|refine zG ?_|refine zH ?_|refine zI ?_|refine zJ ?_|refine zK ?_|refine zL rfl ?_|refine zM rfl ?_))
 rw [show ((i : Int) == (i : Int) + 1) = false by simp; omega]
 (repeat(first|refine zA ?_|refine zB ?_|refine zE rfl (by decide) rfl ?_|refine zF ?_|refine zG ?_|refine zH ?_|refine zI ?_|refine zJ ?_|refine zK ?_|refine zL rfl ?_|refine zM rfl ?_))
 by_cases hlast : i + 1 = ps.length
 ·refine DW.drawS 7 Tryz.mixed (by kernel_rfl) (by decide) ?_
  dsimp only [List.take, List.drop]
  (repeat(first|refine zN ?_|refine zO ?_|refine zR rfl (by decide) rfl ?_|refine zS ?_))
  refine RS.sta (fun H' hov => s_sliceRef (T := 68) (cells := (ps.map mbC).flatten) (a := 0) (c := i) (by decide) rfl rfl (boundD_eq rfl rfl) (by omega) (.inl (by omega)) (.inr (by omega))) rfl ?_
  (repeat(first|refine zN ?_|refine zO ?_|refine zR rfl (by decide) rfl ?_|refine zS ?_))
  refine RS.sta (fun H' hov => s_sliceEnd rfl (boundD_eq rfl (by omega)) rfl) rfl ?_
  refine RS.sta (fun H' hov => s_appendNone rfl rfl) rfl ?_
  refine RS.nil ?_
  (repeat(first|refine zA ?_|refine zB ?_|refine zE rfl (by decide) rfl ?_|refine zF ?_|refine zG ?_|refine zH ?_|refine zI ?_|refine zJ ?_|refine zK ?_|refine zL rfl ?_|refine zM rfl ?_))
  refine RO.sta (s_sliceRef (T := 68) (cells := (ps.map mbC).flatten) (a := i) (c := ps.length) (by decide) rfl (boundD_eq rfl rfl) (boundD_eq rfl rfl) (by omega) (.inr ⟨hH, by rw [hfl]; omega⟩) (.inl (by omega))) rfl ?_
  have e1 : (0 : Nat) + i * 5 = (ps.length - 1) * 5 := by rw [Nat.zero_add]; congr 1; omega
  have e2 : ps.length - i = 1 := by omega
  have e3 : i - 0 = ps.length - 1 := by omega
  rw [show (D.ref b (0 + i * 5) (ps.length - i) 5) = D.ref b ((ps.length - 1) * 5) 1 5 by rw [e1, e2]]
  refine RO.dyn rfl (d_clearAt rfl hH (by rw [hfl]; omega) ?_)
  (repeat(first|refine zA ?_|refine zB ?_|refine zE rfl (by decide) rfl ?_|refine zF ?_|refine zG ?_|refine zH ?_|refine zI ?_|refine zJ ?_|refine zK ?_|refine zL rfl ?_|refine zM rfl ?_))
  refine DW.ret ⟨.inl rfl, _, _, _, rfl, fun _ _ h => h, .same _, ?_, [.nil, I 0, I 0, .nil, .nil], rfl, ?_⟩
  ·show D.ref b (0 + 0 * 5) (i - 0) 5 = _
   rw [e3]
  ·have : ((ps.map mbC).drop (i + 1)).flatten = [] := by rw [List.drop_eq_nil_of_le (by rw [List.length_map]; omega)]; rfl
   rw [this]
   have h0 : ∀ l : List D, ∀ n, setMany l n [] = l := fun l n => by unfold setMany; simp
   rw [h0]
 ·refine DW.drawS 6 Tryz.mixed (by kernel_rfl) (by decide) ?_
  dsimp only [List.take, List.drop]
  (repeat(first|refine zN ?_|refine zO ?_|refine zR rfl (by decide) rfl ?_|refine zS ?_))
  refine RS.sta (fun H' hov => s_sliceRef (T := 68) (cells := (ps.map mbC).flatten) (a := 0) (c := i) (by decide) rfl rfl (boundD_eq rfl rfl) (by omega) (.inl (by omega)) (.inr (by omega))) rfl ?_
  (repeat(first|refine zN ?_|refine zO ?_|refine zR rfl (by decide) rfl ?_|refine zS ?_))
  refine RS.sta (fun H' hov => s_sliceRef (T := 68) (cells := (ps.map mbC).flatten) (a := i + 1) (c := ps.length) (by decide) rfl (boundD_eq rfl (by omega)) rfl (by omega) (.inl (by omega)) (.inl (by omega))) rfl ?_
  refine RS.nil ?_
  have hdrop : ((ps.drop (i + 1)).map mbD).flatMap cellsOf = ((ps.map mbC).drop (i + 1)).flatten := by
   rw [← List.map_drop]
   exact flat_map mbC _
  have hmul : ps.length * 5 = i * 5 + (ps.length - i) * 5 := by rw [← Nat.add_mul]; congr 1; omega
  refine RO.dyn rfl (d_appendIn (n := i - 0) (cells := (ps.map mbC).flatten) (xs := (ps.drop (i + 1)).map mbD) (by decide) (by show some (D.ref b (0 + 0 * 5) (i - 0) 5) = _; rw [Nat.zero_mul]) hH (fun ρ w ha ho => NewsOf.ref (ha _ _ rfl) ho hH (uni_mb _) (by simp) fun j x hx => ?_) (uni_mb _) (by simp; omega) (by rw [hfl, List.length_map, List.length_drop, hmul, Nat.sub_zero]; have : (ps.length - (i + 1)) * 5 ≤ (ps.length - i) * 5 := Nat.mul_le_mul_right _ (by omega); omega) ?_)
  ·rw [hdrop] at hx
   have := flatten_drop hc (i + 1)
   rw [← this, List.getElem?_drop] at hx
   rwa [Nat.zero_add]
  rw [hdrop, Nat.sub_zero]
  have e3 : i + ((ps.drop (i + 1)).map mbD).length = ps.length - 1 := by rw [List.length_map, List.length_drop]; omega
  rw [e3]
  have hset : (H.set b (68, setMany (ps.map mbC).flatten (i * 5) ((ps.map mbC).drop (i + 1)).flatten)) b = some (68, setMany (ps.map mbC).flatten (i * 5) ((ps.map mbC).drop (i + 1)).flatten) := Heap.set_self _ _ _
  have hdl : ((ps.map mbC).drop (i + 1)).flatten.length = (ps.length - (i + 1)) * 5 := by
   rw [flat_len (fun c hx => hc c (List.mem_of_mem_drop hx)), List.length_drop, List.length_map]
  have hsl : (setMany (ps.map mbC).flatten (i * 5) ((ps.map mbC).drop (i + 1)).flatten).length = ps.length * 5 := by
   rw [setMany_length, hfl]
   rw [hdl, hfl, hmul]
   have : (ps.length - (i + 1)) * 5 ≤ (ps.length - i) * 5 := Nat.mul_le_mul_right _ (by omega)
   omega
  (repeat(first|refine zA ?_|refine zB ?_|refine zE rfl (by decide) rfl ?_|refine zF ?_|refine zG ?_|refine zH ?_|refine zI ?_|refine zJ ?_|refine zK ?_|refine zL rfl ?_|refine zM rfl ?_))
  refine RO.sta (s_sliceRef (T := 68) (cells := setMany (ps.map mbC).flatten (i * 5) ((ps.map mbC).drop (i + 1)).flatten) (a := ps.length - 1) (c := ps.length) (by decide) rfl (boundD_eq rfl rfl) (boundD_eq rfl rfl) (by omega) (.inr ⟨hset, by rw [hsl]; omega⟩) (.inl (by omega))) rfl ?_
  have e4 : ps.length - (ps.length - 1) = 1 := by omega
  rw [e4]
  refine RO.dyn rfl (d_clearAt rfl hset (by rw [hsl]; omega) ?_)
  rw [Heap.set_set]
  (repeat(first|refine zA ?_|refine zB ?_|refine zE rfl (by decide) rfl ?_|refine zF ?_|refine zG ?_|refine zH ?_|refine zI ?_|refine zJ ?_|refine zK ?_|refine zL rfl ?_|refine zM rfl ?_))
  refine DW.ret ⟨.inl rfl, _, _, _, rfl, fun _ _ h => h, .same _, rfl, [.nil, I 0, I 0, .nil, .nil], rfl, by rw [Nat.zero_add]⟩
end
section
open Go.RowKit
set_option maxHeartbeats 8000000

instance : AggT Tryz.prog 93 3 := .of Tryz.underlying93 rfl (by kernel_rfl)

instance : SizeT Tryz.prog 93 3 := .of (by kernel_rfl)

instance : SizeT Tryz.prog 81 1 := .of (by kernel_rfl)

instance : FieldT Tryz.prog 93 0 0 := ⟨by kernel_rfl⟩

instance : FieldT Tryz.prog 93 1 1 := ⟨by kernel_rfl⟩

instance : FieldT Tryz.prog 93 2 2 := ⟨by kernel_rfl⟩

instance : BuildT Tryz.prog 93 [I 0, I 0, .nil] #[(0, 1), (1, 1), (2, 1)] := .of (by kernel_rfl) Tryz.underlying93 (by kernel_rfl) rfl

theorem next_call {H : Heap} {bm bp : Nat} {r : Rg} {dm : D} {ps : List Pr} (hm : H bm = some (83, mkCs r dm (.ref bp 0 ps.length 3))) (hp : H bp = some (93, (ps.map prC).flatten)) (hne : bm ≠ bp) (h0 : ps ≠ []) (hl : ps.length ≤ 4000000000000) (he : ∀ p ∈ ps, MOk p.e) :
  CallD Tryz.prog H 66 [.ptr bm 0] fun d H' => d = prD (ps.getD (nextAt ps) default) ∧ H' bm = some (83, mkCs r dm (.ref bp 0 (ps.length - 1) 3)) ∧ H' bp = some (93, ((ps.eraseIdx (nextAt ps)).map prC).flatten) ∧ ∀ c z, c ≠ bm → c ≠ bp → H c = some z → H' c = some z := by
 have hc : ∀ c ∈ ps.map prC, c.length = 3 := fun c hc => by
  obtain ⟨p, _, rfl⟩ := List.mem_map.1 hc
  rfl
 have hfl := flat_len hc
 rw [List.length_map] at hfl
 have hrow : ∀ i (hi : i < ps.length), ((ps.map prC).flatten.drop (0 + i * 3)).take 3 = prC ps[i] := fun i hi => by
  rw [Nat.zero_add, flat_at (by simpa using hi) hc]
  simp
 have hcell : ∀ i (hi : i < ps.length), (ps.map prC).flatten[0 + i * 3 + 2]? = some (intsD ps[i].e) := fun i hi => by
  have h1 := hrow i hi
  have h2 : (prC ps[i])[2]? = some (intsD ps[i].e) := rfl
  rw [← h1, List.getElem?_take_of_lt (by omega), List.getElem?_drop] at h2
  exact h2
 obtain ⟨hat, _⟩ := nextAt_ok h0
 have hpos : 0 < ps.length := List.length_pos_iff.2 h0
 refine CallD.of_bodyR Tryz.func66 rfl (by decide) (Nat.le_of_ble_eq_true rfl) fun w0 => ?_
 refine DW.seq ?_
 refine DW.region ?_
 refine RO.dyn rfl (d_alloc fun b2 hb2 => ?_)
 refine RO.nil ?_
 have h2m : b2 ≠ bm := fun h => by rw [h, hm] at hb2; cases hb2
 have h2p : b2 ≠ bp := fun h => by rw [h, hp] at hb2; cases hb2
 have hm2 : (H.set b2 (93, [I 0, I 0, .nil])) bm = some (83, mkCs r dm (.ref bp 0 ps.length 3)) := by rw [Heap.set_other _ _ h2m.symm]; exact hm
 have hp2 : (H.set b2 (93, [I 0, I 0, .nil])) bp = some (93, (ps.map prC).flatten) := by rw [Heap.set_other _ _ h2p.symm]; exact hp
 have hs2 : (H.set b2 (93, [I 0, I 0, .nil])) b2 = some (93, [I 0, I 0, .nil]) := Heap.set_self _ _ _
 have hov2 : Over H (H.set b2 (93, [I 0, I 0, .nil])) := (Over.refl H).set hb2
 generalize H.set b2 (93, [I 0, I 0, .nil]) = Hb at *
 (repeat(first|refine zA ?_|refine zB ?_|refine zE rfl (by decide) rfl ?_|refine zF ?_|refine zG ?_|refine zH ?_|refine zI ?_|refine zJ ?_|refine zK ?_|refine zL rfl ?_|refine zM rfl ?_))
 refine RO.sta (s_nilCheck rfl) rfl ?_
 (repeat(first|refine zA ?_|refine zB ?_|refine zE rfl (by decide) rfl ?_|refine zF ?_|refine zG ?_|refine zH ?_|refine zI ?_|refine zJ ?_|refine zK ?_|refine zL rfl ?_|refine zM rfl ?_))
 refine RO.sta (s_loadMut (d := .ref bp 0 ps.length 3) rfl hm2 rfl) rfl ?_
 (repeat(first|refine zA ?_|refine zB ?_|refine zE rfl (by decide) rfl ?_|refine zF ?_|refine zG ?_|refine zH ?_|refine zI ?_|refine zJ ?_|refine zK ?_|refine zL rfl ?_|refine zM rfl ?_))
 refine DW.loopG (fun k : Nat => k ≤ ps.length) (fun k => [(0, .ptr bm 0), (2, .ptr b2 0), (3, I (nextUp ps k : Nat)), (10, .ref bp 0 ps.length 3), (11, I ps.length), (12, I k)]) (fun _ => Hb) (fun k => ps.length - k) 0 (Nat.zero_le _) (Heap.sub_refl _) (by repeat first | exact trivial | refine HasG.one rfl ?_ | refine HasN.one rfl ?_) fun k hk => ?_
 (repeat(first|refine zA ?_|refine zB ?_|refine zE rfl (by decide) rfl ?_|refine zF ?_|refine zG ?_|refine zH ?_|refine zI ?_|refine zJ ?_|refine zK ?_|refine zL rfl ?_|refine zM rfl ?_))
 refine DW.cond rfl (fun hb => ?_) (fun hb => ?_)
 ·have hlt : k < ps.length := by have := of_decide_eq_true hb; omega
  have hup : nextUp ps k < ps.length := by
   obtain ⟨u1, u2, _⟩ := nextUp_ok (ps := ps) (n := k) (by omega)
   by_cases hk0 : k = 0
   ·rw [u2 hk0]; exact hpos
   ·have := u1 (by omega); omega
  have hgk : ps.getD k default = ps[k] := getD_lt hlt
  have hgu : ps.getD (nextUp ps k) default = ps[nextUp ps k] := getD_lt hup
  have mk := he _ (List.getElem_mem hlt)
  have mu := he _ (List.getElem_mem hup)
  clear hb
  (repeat(first|refine zA ?_|refine zB ?_|refine zE rfl (by decide) rfl ?_|refine zF ?_|refine zG ?_|refine zH ?_|refine zI ?_|refine zJ ?_|refine zK ?_|refine zL rfl ?_|refine zM rfl ?_))
  refine RO.sta (s_indexRef (i := k) rfl rfl hlt) rfl ?_
  refine RO.sta (s_loadMutAgg (ds := prC ps[k]) rfl hp2 (hrow k hlt) rfl) rfl ?_
  refine RO.dyn rfl (d_alloc fun b5 hb5 => ?_)
  (repeat(first|refine zA ?_|refine zB ?_|refine zE rfl (by decide) rfl ?_|refine zF ?_|refine zG ?_|refine zH ?_|refine zI ?_|refine zJ ?_|refine zK ?_|refine zL rfl ?_|refine zM rfl ?_))
  refine RO.dyn rfl (d_store (k := 3) rfl rfl rfl (Heap.set_self _ _ _) (Nat.le_refl _) (by simp [cellsOf, prC, D.isCell, intsD]) ?_)
  rw [Heap.set_set]
  have hov5 : Over Hb (Hb.set b5 (93, setMany [I 0, I 0, .nil] 0 (cellsOf (D.agg (prC ps[k]))))) := (Over.refl Hb).set hb5
  have hs5 : (Hb.set b5 (93, setMany [I 0, I 0, .nil] 0 (cellsOf (D.agg (prC ps[k]))))) b5 = some (93, prC ps[k]) := Heap.set_self _ _ _
  have hm3 := hov5 _ _ hm2
  have hp3 := hov5 _ _ hp2
  have hsub5 : Hb.sub (Hb.set b5 (93, setMany [I 0, I 0, .nil] 0 (cellsOf (D.agg (prC ps[k]))))) := Heap.sub_set _ hb5
  generalize Hb.set b5 (93, setMany [I 0, I 0, .nil] 0 (cellsOf (D.agg (prC ps[k])))) = Hc at *
  (repeat(first|refine zA ?_|refine zB ?_|refine zE rfl (by decide) rfl ?_|refine zF ?_|refine zG ?_|refine zH ?_|refine zI ?_|refine zJ ?_|refine zK ?_|refine zL rfl ?_|refine zM rfl ?_))
  refine DW.drawS 13 Tryz.mixed (by kernel_rfl) (by decide) ?_
  dsimp only [List.take, List.drop]
  (repeat(first|refine zN ?_|refine zO ?_|refine zR rfl (by decide) rfl ?_|refine zS ?_))
  refine RS.sta (r_loadMut (d := intsD ps[k].e) rfl hs5 rfl) rfl ?_
  refine RS.sta (fun H' hov => sta_call rfl rfl (Degree_pure mk _)) rfl ?_
  (repeat(first|refine zN ?_|refine zO ?_|refine zR rfl (by decide) rfl ?_|refine zS ?_))
  refine RS.sta (fun H' hov => s_nilCheck rfl) rfl ?_
  (repeat(first|refine zN ?_|refine zO ?_|refine zR rfl (by decide) rfl ?_|refine zS ?_))
  refine RS.sta (r_loadMut (d := .ref bp 0 ps.length 3) rfl hm3 rfl) rfl ?_
  (repeat(first|refine zN ?_|refine zO ?_|refine zR rfl (by decide) rfl ?_|refine zS ?_))
  refine RS.sta (fun H' hov => s_indexRef (i := nextUp ps k) rfl rfl hup) rfl ?_
  (repeat(first|refine zN ?_|refine zO ?_|refine zR rfl (by decide) rfl ?_|refine zS ?_))
  refine RS.sta (r_loadMut (d := intsD ps[nextUp ps k].e) rfl hp3 (hcell _ hup)) rfl ?_
  refine RS.sta (fun H' hov => sta_call rfl rfl (Degree_pure mu _)) rfl ?_
  (repeat(first|refine zN ?_|refine zO ?_|refine zR rfl (by decide) rfl ?_|refine zS ?_))
  (repeat(first|refine zA ?_|refine zB ?_|refine zE rfl (by decide) rfl ?_|refine zF ?_|refine zG ?_|refine zH ?_|refine zI ?_|refine zJ ?_|refine zK ?_|refine zL rfl ?_|refine zM rfl ?_))
  have hnx : nextUp ps (k + 1) = if ps[k].e.sum < ps[nextUp ps k].e.sum then k else nextUp ps k := by
   show (if (ps.getD k default).e.sum < (ps.getD (nextUp ps k) default).e.sum then k else nextUp ps k) = _
   rw [hgk, hgu]
  refine DW.cond rfl (fun hb => ?_) (fun hb => ?_)
  ·have hlt2 := of_decide_eq_true hb
   rw [if_pos hlt2] at hnx
   (repeat(first|refine zA ?_|refine zB ?_|refine zE rfl (by decide) rfl ?_|refine zF ?_|refine zG ?_|refine zH ?_|refine zI ?_|refine zJ ?_|refine zK ?_|refine zL rfl ?_|refine zM rfl ?_))
   exact ⟨k + 1, hlt, by dsimp only; omega, hsub5, by dsimp only; rw [hnx]; exact (by repeat first | exact trivial | refine HasG.one rfl ?_ | refine HasN.one rfl ?_)⟩
  ·have hlt2 := of_decide_eq_false hb
   rw [if_neg hlt2] at hnx
   (repeat(first|refine zA ?_|refine zB ?_|refine zE rfl (by decide) rfl ?_|refine zF ?_|refine zG ?_|refine zH ?_|refine zI ?_|refine zJ ?_|refine zK ?_|refine zL rfl ?_|refine zM rfl ?_))
   exact ⟨k + 1, hlt, by dsimp only; omega, hsub5, by dsimp only; rw [hnx]; exact (by repeat first | exact trivial | refine HasG.one rfl ?_ | refine HasN.one rfl ?_)⟩
 ·have hge : k = ps.length := by have := of_decide_eq_false hb; omega
  have hna : nextUp ps k = nextAt ps := by rw [hge]; rfl
  rw [hna]
  clear hb
  (repeat(first|refine zA ?_|refine zB ?_|refine zE rfl (by decide) rfl ?_|refine zF ?_|refine zG ?_|refine zH ?_|refine zI ?_|refine zJ ?_|refine zK ?_|refine zL rfl ?_|refine zM rfl ?_))
  refine RO.sta (s_nilCheck rfl) rfl ?_
  (repeat(first|refine zA ?_|refine zB ?_|refine zE rfl (by decide) rfl ?_|refine zF ?_|refine zG ?_|refine zH ?_|refine zI ?_|refine zJ ?_|refine zK ?_|refine zL rfl ?_|refine zM rfl ?_))
  refine RO.sta (s_loadMut (d := .ref bp 0 ps.length 3) rfl hm2 rfl) rfl ?_
  (repeat(first|refine zA ?_|refine zB ?_|refine zE rfl (by decide) rfl ?_|refine zF ?_|refine zG ?_|refine zH ?_|refine zI ?_|refine zJ ?_|refine zK ?_|refine zL rfl ?_|refine zM rfl ?_))
  refine RO.sta (s_indexRef (i := nextAt ps) rfl rfl hat) rfl ?_
  refine RO.sta (s_loadMutAgg (ds := prC ps[nextAt ps]) rfl hp2 (hrow _ hat) rfl) rfl ?_
  refine RO.dyn rfl (d_alloc fun b6 hb6 => ?_)
  (repeat(first|refine zA ?_|refine zB ?_|refine zE rfl (by decide) rfl ?_|refine zF ?_|refine zG ?_|refine zH ?_|refine zI ?_|refine zJ ?_|refine zK ?_|refine zL rfl ?_|refine zM rfl ?_))
  refine RO.dyn rfl (d_store (k := 3) rfl rfl rfl (Heap.set_self _ _ _) (Nat.le_refl _) (by simp [cellsOf, prC, D.isCell, intsD]) ?_)
  rw [Heap.set_set]
  have hov6 : Over Hb (Hb.set b6 (93, setMany [I 0, I 0, .nil] 0 (cellsOf (D.agg (prC ps[nextAt ps]))))) := (Over.refl Hb).set hb6
  have hs6 : (Hb.set b6 (93, setMany [I 0, I 0, .nil] 0 (cellsOf (D.agg (prC ps[nextAt ps]))))) b6 = some (93, prC ps[nextAt ps]) := Heap.set_self _ _ _
  have h6m : b6 ≠ bm := fun h => by rw [h, hm2] at hb6; cases hb6
  have h6p : b6 ≠ bp := fun h => by rw [h, hp2] at hb6; cases hb6
  have h62 : b6 ≠ b2 := fun h => by rw [h, hs2] at hb6; cases hb6
  have hm3 := hov6 _ _ hm2
  have hp3 := hov6 _ _ hp2
  have hs3 := hov6 _ _ hs2
  generalize Hb.set b6 (93, setMany [I 0, I 0, .nil] 0 (cellsOf (D.agg (prC ps[nextAt ps])))) = Hc at *
  (repeat(first|refine zA ?_|refine zB ?_|refine zE rfl (by decide) rfl ?_|refine zF ?_|refine zG ?_|refine zH ?_|refine zI ?_|refine zJ ?_|refine zK ?_|refine zL rfl ?_|refine zM rfl ?_))
  refine RO.sta (s_nilCheck rfl) rfl ?_
  (repeat(first|refine zA ?_|refine zB ?_|refine zE rfl (by decide) rfl ?_|refine zF ?_|refine zG ?_|refine zH ?_|refine zI ?_|refine zJ ?_|refine zK ?_|refine zL rfl ?_|refine zM rfl ?_))
  refine RO.sta (s_loadMut (d := .ref bp 0 ps.length 3) rfl hm3 rfl) rfl ?_
  (repeat(first|refine zA ?_|refine zB ?_|refine zE rfl (by decide) rfl ?_|refine zF ?_|refine zG ?_|refine zH ?_|refine zI ?_|refine zJ ?_|refine zK ?_|refine zL rfl ?_|refine zM rfl ?_))
  refine RO.dyn rfl ((opD_call rfl rfl (pdelete_call hp3 hat hl)).mono fun dd Hd ⟨hdd, hHd⟩ => ?_)
  subst hdd
  have hmd : Hd bm = some (83, mkCs r dm (.ref bp 0 ps.length 3)) := by rw [hHd, Heap.set_other _ _ hne]; exact hm3
  have hpd : Hd bp = some (93, ((ps.eraseIdx (nextAt ps)).map prC).flatten) := by rw [hHd, Heap.set_self]
  have hsd : Hd b2 = some (93, [I 0, I 0, .nil]) := by rw [hHd, Heap.set_other _ _ h2p]; exact hs3
  have h6d : Hd b6 = some (93, prC ps[nextAt ps]) := by rw [hHd, Heap.set_other _ _ h6p]; exact hs6
  have hovd : ∀ c z, c ≠ bp → Hb c = some z → Hd c = some z := fun c z h1 h2 => by rw [hHd, Heap.set_other _ _ h1]; exact hov6 c z h2
  clear hHd
  (repeat(first|refine zA ?_|refine zB ?_|refine zE rfl (by decide) rfl ?_|refine zF ?_|refine zG ?_|refine zH ?_|refine zI ?_|refine zJ ?_|refine zK ?_|refine zL rfl ?_|refine zM rfl ?_))
  refine RO.sta (s_nilCheck rfl) rfl ?_
  (repeat(first|refine zA ?_|refine zB ?_|refine zE rfl (by decide) rfl ?_|refine zF ?_|refine zG ?_|refine zH ?_|refine zI ?_|refine zJ ?_|refine zK ?_|refine zL rfl ?_|refine zM rfl ?_))
  refine RO.dyn rfl (d_store (k := 1) rfl rfl rfl hmd (by show 0 + 5 + 1 ≤ 6; omega) (by simp [cellsOf, D.isCell]) ?_)
  have g2 : (Hd.set bm (83, setMany (mkCs r dm (.ref bp 0 ps.length 3)) (0 + 5) (cellsOf (D.ref bp 0 (ps.length - 1) 3)))) b2 = some (93, [I 0, I 0, .nil]) := by rw [Heap.set_other _ _ h2m]; exact hsd
  have g6 : (Hd.set bm (83, setMany (mkCs r dm (.ref bp 0 ps.length 3)) (0 + 5) (cellsOf (D.ref bp 0 (ps.length - 1) 3)))) b6 = some (93, prC ps[nextAt ps]) := by rw [Heap.set_other _ _ h6m]; exact h6d
  have gp : (Hd.set bm (83, setMany (mkCs r dm (.ref bp 0 ps.length 3)) (0 + 5) (cellsOf (D.ref bp 0 (ps.length - 1) 3)))) bp = some (93, ((ps.eraseIdx (nextAt ps)).map prC).flatten) := by rw [Heap.set_other _ _ hne.symm]; exact hpd
  have gm : (Hd.set bm (83, setMany (mkCs r dm (.ref bp 0 ps.length 3)) (0 + 5) (cellsOf (D.ref bp 0 (ps.length - 1) 3)))) bm = some (83, mkCs r dm (.ref bp 0 (ps.length - 1) 3)) := Heap.set_self _ _ _
  have gk : ∀ c z, c ≠ bm → c ≠ bp → Hb c = some z → (Hd.set bm (83, setMany (mkCs r dm (.ref bp 0 ps.length 3)) (0 + 5) (cellsOf (D.ref bp 0 (ps.length - 1) 3)))) c = some z := fun c z h1 h2 h3 => by rw [Heap.set_other _ _ h1]; exact hovd c z h2 h3
  generalize Hd.set bm (83, setMany (mkCs r dm (.ref bp 0 ps.length 3)) (0 + 5) (cellsOf (D.ref bp 0 (ps.length - 1) 3))) = He at *
  (repeat(first|refine zA ?_|refine zB ?_|refine zE rfl (by decide) rfl ?_|refine zF ?_|refine zG ?_|refine zH ?_|refine zI ?_|refine zJ ?_|refine zK ?_|refine zL rfl ?_|refine zM rfl ?_))
  refine RO.sta (s_loadMutAgg (ds := prC ps[nextAt ps]) rfl g6 rfl rfl) rfl ?_
  refine RO.dyn rfl (d_store (k := 3) rfl rfl rfl g2 (Nat.le_refl _) (by simp [cellsOf, prC, D.isCell, intsD]) ?_)
  (repeat(first|refine zA ?_|refine zB ?_|refine zE rfl (by decide) rfl ?_|refine zF ?_|refine zG ?_|refine zH ?_|refine zI ?_|refine zJ ?_|refine zK ?_|refine zL rfl ?_|refine zM rfl ?_))
  refine DW.ret ⟨.inl rfl, [.agg (prC ps[nextAt ps])], _, _, .cell (cells := prC ps[nextAt ps]) (T0 := 93) (b := b2) inferInstance rfl (Heap.set_self _ _ _) .nil, Heap.sub_refl _, .same _, ?_, ?_, ?_, fun c z h1 h2 h3 => ?_⟩
  ·rw [getD_lt hat]; rfl
  ·rw [Heap.set_other _ _ h2m.symm]; exact gm
  ·rw [Heap.set_other _ _ h2p.symm]; exact gp
  ·rw [Heap.set_other _ _ (fun h => by rw [h, hb2] at h3; cases h3)]
   exact gk c z h1 h2 (hov2 c z h3)
end
section
open Go.RowKit
set_option maxHeartbeats 8000000

structure MkAt (H00 H : Heap) (bm : Nat) (r : Rg) (ms : List Mb) (ps : List Pr) (dm dp : D) : Prop where
 own : H00 bm = none
 over : Over H00 H
 at_ : H bm = some (83, mkCs r dm dp)
 ms : Acc H00 H dm 5 68 (ms.map mbD)
 ps : Acc H00 H dp 3 93 (ps.map prD)

theorem Acc.blk_some {H0 H : Heap} {d : D} {k : Nat} {T : TypeId} {l : List D} (h : Acc H0 H d k T l) {b : Nat} (hb : d.blk = some b) : H b = some (T, l.flatMap cellsOf) ∧ H0 b = none := by
 rcases h.is with ⟨h1, _⟩ | ⟨b', h1, h2, h3⟩
 ·rw [h1] at hb; cases hb
 ·rw [h2] at hb; cases hb; exact ⟨h3, h1⟩

theorem Acc.fresh {H0 H : Heap} {d : D} {k : Nat} {T : TypeId} {l : List D} (h : Acc H0 H d k T l) {b : Nat} (hb : H b = none) : d.blk ≠ some b := fun h1 => by
 rw [(h.blk_some h1).1] at hb; cases hb

def newTo (ms : List Mb) (x : Mb) (n : Nat) : List Pr := (List.range n).filterMap fun j => if x.a = (ms.getD j default).a then some ⟨j, ms.length, zipE max x.u.e (ms.getD j default).u.e⟩ else none

theorem newTo_succ (ms : List Mb) (x : Mb) (n : Nat) : newTo ms x (n + 1) = newTo ms x n ++ (if x.a = (ms.getD n default).a then [⟨n, ms.length, zipE max x.u.e (ms.getD n default).u.e⟩] else []) := by
 unfold newTo
 rw [List.range_succ, List.filterMap_append]
 congr 1
 rw [List.filterMap_cons, List.filterMap_nil]
 split <;> split <;> simp_all

theorem newTo_len (ms : List Mb) (x : Mb) (n : Nat) : (newTo ms x n).length ≤ n := by
 unfold newTo
 have := List.length_filterMap_le (fun j => if x.a = (ms.getD j default).a then some (⟨j, ms.length, zipE max x.u.e (ms.getD j default).u.e⟩ : Pr) else none) (List.range n)
 rwa [List.length_range] at this

theorem Acc.blk_ne {H0 H : Heap} {d : D} {k : Nat} {T T' : TypeId} {l c : List D} {b : Nat} (h : Acc H0 H d k T l) (hb : H b = some (T', c)) (hT : T ≠ T') : d.blk ≠ some b := fun h1 => by
 rw [(h.blk_some h1).1] at hb
 cases hb
 exact hT rfl

theorem MkAt.n1 {H00 H : Heap} {bm : Nat} {r : Rg} {ms : List Mb} {ps : List Pr} {dm dp : D} (h : MkAt H00 H bm r ms ps dm dp) : dm.blk ≠ some bm := h.ms.blk_ne h.at_ (by decide)
theorem MkAt.n2 {H00 H : Heap} {bm : Nat} {r : Rg} {ms : List Mb} {ps : List Pr} {dm dp : D} (h : MkAt H00 H bm r ms ps dm dp) : dp.blk ≠ some bm := h.ps.blk_ne h.at_ (by decide)
theorem MkAt.n3 {H00 H : Heap} {bm : Nat} {r : Rg} {ms : List Mb} {ps : List Pr} {dm dp : D} (h : MkAt H00 H bm r ms ps dm dp) {b : Nat} (hb : dm.blk = some b) : dp.blk ≠ some b := h.ps.blk_ne (h.ms.blk_some hb).1 (by decide)
theorem MkAt.mono {H00 H H' : Heap} {bm : Nat} {r : Rg} {ms : List Mb} {ps : List Pr} {dm dp : D} (h : MkAt H00 H bm r ms ps dm dp) (hov : Over H H') : MkAt H00 H' bm r ms ps dm dp :=
 ⟨h.own, fun c z hc => hov c z (h.over c z hc), hov _ _ h.at_, h.ms.over' hov, h.ps.over' hov⟩

theorem addM_call {H00 H : Heap} {bm : Nat} {r : Rg} {ms : List Mb} {ps : List Pr} {dm dp : D} {v y : Vc} {a : Nat} {u : Tm} {n : Nat} (hm : MkAt H00 H bm r ms ps dm dp) (hv : VM r n v) (hvb : VB r n 8000 512192024001 v) (ht : topV r v = some (a, u))
  (hl : ms.length ≤ 1000000000) (hp : ps.length + ms.length ≤ 3000000000000) (he : ∀ x ∈ ms, MOk x.u.e ∧ x.u.e.length = u.e.length) (hu : MOk u.e) :
  CallD Tryz.prog H 50 [.ptr bm 0, vcD v, vcD y] fun _ H' => ∃ dm' dp', MkAt H00 H' bm r (addM ⟨ms, ps⟩ ⟨v, a, u, y⟩).ms (addM ⟨ms, ps⟩ ⟨v, a, u, y⟩).ps dm' dp' := by
 refine CallD.of_body Tryz.func50 rfl (by decide) (Nat.le_of_ble_eq_true rfl) fun w0 => ?_
 have hof := dvOfM_pure r v hv hvb
 unfold dvD dvC at hof
 rw [ht] at hof
 have hat := hm.at_
 (repeat(first|refine zA ?_|refine zB ?_|refine zE rfl (by decide) rfl ?_|refine zF ?_|refine zG ?_|refine zH ?_|refine zI ?_|refine zJ ?_|refine zK ?_|refine zL rfl ?_|refine zM rfl ?_))
 refine RO.sta (s_nilCheck rfl) rfl ?_
 (repeat(first|refine zA ?_|refine zB ?_|refine zE rfl (by decide) rfl ?_|refine zF ?_|refine zG ?_|refine zH ?_|refine zI ?_|refine zJ ?_|refine zK ?_|refine zL rfl ?_|refine zM rfl ?_))
 refine RO.sta (s_loadMutAgg (ds := [I r.p, I r.n, I r.order, I r.over]) rfl hat rfl rfl) rfl ?_
 (repeat(first|refine zA ?_|refine zB ?_|refine zE rfl (by decide) rfl ?_|refine zF ?_|refine zG ?_|refine zH ?_|refine zI ?_|refine zJ ?_|refine zK ?_|refine zL rfl ?_|refine zM rfl ?_))
 refine RO.sta (sta_call rfl rfl (hof _)) rfl ?_
 (repeat(first|refine zA ?_|refine zB ?_|refine zE rfl (by decide) rfl ?_|refine zF ?_|refine zG ?_|refine zH ?_|refine zI ?_|refine zJ ?_|refine zK ?_|refine zL rfl ?_|refine zM rfl ?_))
 refine RO.sta (s_buildT (out := mbC ⟨v, a, u, y⟩) rfl rfl) rfl ?_
 refine RO.dyn rfl (d_alloc fun b6 hb6 => ?_)
 (repeat(first|refine zA ?_|refine zB ?_|refine zE rfl (by decide) rfl ?_|refine zF ?_|refine zG ?_|refine zH ?_|refine zI ?_|refine zJ ?_|refine zK ?_|refine zL rfl ?_|refine zM rfl ?_))
 refine RO.dyn rfl (d_store (k := 5) rfl rfl rfl (Heap.set_self _ _ _) (Nat.le_refl _) (by simp [cellsOf, mbC, D.isCell, vcD, intsD]) ?_)
 rw [Heap.set_set]
 refine RO.nil ?_
 have hm6 := hm.mono ((Over.refl H).set (x := (68, setMany [.nil, I 0, I 0, .nil, .nil] 0 (cellsOf (D.agg (mbC ⟨v, a, u, y⟩))))) hb6)
 have h6 : (H.set b6 (68, setMany [.nil, I 0, I 0, .nil, .nil] 0 (cellsOf (D.agg (mbC ⟨v, a, u, y⟩))))) b6 = some (68, mbC ⟨v, a, u, y⟩) := Heap.set_self _ _ _
 have h6d : dm.blk ≠ some b6 := hm.ms.fresh hb6
 have h60 : H00 b6 = none := by
  cases hx : H00 b6 with
  | none => rfl
  | some z => have := hm.over _ _ hx; rw [hb6] at this; cases this
 clear hat hm
 generalize H.set b6 (68, setMany [.nil, I 0, I 0, .nil, .nil] 0 (cellsOf (D.agg (mbC ⟨v, a, u, y⟩)))) = Hb at *
 generalize hxx : (⟨v, a, u, y⟩ : Mb) = x at *
 have hxa : x.a = a := by rw [← hxx]
 have hxu : x.u = u := by rw [← hxx]
 have hat := hm6.at_
 (repeat(first|refine zA ?_|refine zB ?_|refine zE rfl (by decide) rfl ?_|refine zF ?_|refine zG ?_|refine zH ?_|refine zI ?_|refine zJ ?_|refine zK ?_|refine zL rfl ?_|refine zM rfl ?_))
 refine RO.sta (s_nilCheck rfl) rfl ?_
 (repeat(first|refine zA ?_|refine zB ?_|refine zE rfl (by decide) rfl ?_|refine zF ?_|refine zG ?_|refine zH ?_|refine zI ?_|refine zJ ?_|refine zK ?_|refine zL rfl ?_|refine zM rfl ?_))
 refine RO.sta (s_loadMut (d := dm) rfl hat rfl) rfl ?_
 refine RO.sta (s_len rfl hm6.ms.len') rfl ?_
 rw [List.length_map]
 (repeat(first|refine zA ?_|refine zB ?_|refine zE rfl (by decide) rfl ?_|refine zF ?_|refine zG ?_|refine zH ?_|refine zI ?_|refine zJ ?_|refine zK ?_|refine zL rfl ?_|refine zM rfl ?_))
 refine DW.loopG (fun z : Nat × Heap × D => z.1 ≤ ms.length ∧ MkAt H00 z.2.1 bm r ms (ps ++ newTo ms x z.1) dm z.2.2 ∧ z.2.1 b6 = some (68, mbC x)) (fun z => [(0, .ptr bm 0), (6, .ptr b6 0), (20, dm), (21, I ms.length), (22, I z.1)]) (fun z => z.2.1) (fun z => ms.length - z.1) (0, Hb, dp)
  ⟨Nat.zero_le _, by rw [show newTo ms x 0 = [] from rfl, List.append_nil]; exact hm6, h6⟩ (Heap.sub_refl _) (by repeat first | exact trivial | refine HasG.one rfl ?_ | refine HasN.one rfl ?_) fun ⟨k, Hk, dk⟩ ⟨hk, hmk, h6k⟩ => ?_
 dsimp only at hk hmk h6k ⊢
 have hatk := hmk.at_
 (repeat(first|refine zA ?_|refine zB ?_|refine zE rfl (by decide) rfl ?_|refine zF ?_|refine zG ?_|refine zH ?_|refine zI ?_|refine zJ ?_|refine zK ?_|refine zL rfl ?_|refine zM rfl ?_))
 refine DW.cond rfl (fun hb => ?_) (fun hb => ?_)
 ·have hlt : k < ms.length := by have := of_decide_eq_true hb; omega
  clear hb
  obtain ⟨b1, g1, g2, ⟨T2, cells, g3, g4, g5⟩, g6⟩ := hmk.ms.rowAt (f := mbC) (fun _ => rfl) (by omega)
  have hck : (cells.drop (0 + k * 5)).take 5 = mbC ms[k] := by rw [g5 k (by simpa using hlt)]; simp
  obtain ⟨mk1, mk2⟩ := he _ (List.getElem_mem hlt)
  have hgk : ms.getD k default = ms[k] := getD_lt hlt
  subst g2
  (repeat(first|refine zA ?_|refine zB ?_|refine zE rfl (by decide) rfl ?_|refine zF ?_|refine zG ?_|refine zH ?_|refine zI ?_|refine zJ ?_|refine zK ?_|refine zL rfl ?_|refine zM rfl ?_))
  refine RO.sta (s_indexRef (i := k) rfl rfl hlt) rfl ?_
  refine RO.sta (s_loadMutAgg (ds := mbC ms[k]) rfl g3 hck rfl) rfl ?_
  refine RO.dyn rfl (d_alloc fun b8 hb8 => ?_)
  (repeat(first|refine zA ?_|refine zB ?_|refine zE rfl (by decide) rfl ?_|refine zF ?_|refine zG ?_|refine zH ?_|refine zI ?_|refine zJ ?_|refine zK ?_|refine zL rfl ?_|refine zM rfl ?_))
  refine RO.dyn rfl (d_store (k := 5) rfl rfl rfl (Heap.set_self _ _ _) (Nat.le_refl _) (by simp [cellsOf, mbC, D.isCell, vcD, intsD]) ?_)
  rw [Heap.set_set]
  have hov8 : Over Hk (Hk.set b8 (68, setMany [.nil, I 0, I 0, .nil, .nil] 0 (cellsOf (D.agg (mbC ms[k]))))) := (Over.refl Hk).set hb8
  have h8 : (Hk.set b8 (68, setMany [.nil, I 0, I 0, .nil, .nil] 0 (cellsOf (D.agg (mbC ms[k]))))) b8 = some (68, mbC ms[k]) := Heap.set_self _ _ _
  have hsub8 : Hk.sub (Hk.set b8 (68, setMany [.nil, I 0, I 0, .nil, .nil] 0 (cellsOf (D.agg (mbC ms[k]))))) := Heap.sub_set _ hb8
  have hm8 := hmk.mono hov8
  have h68 := hov8 _ _ h6k
  generalize Hk.set b8 (68, setMany [.nil, I 0, I 0, .nil, .nil] 0 (cellsOf (D.agg (mbC ms[k])))) = Hc at *
  (repeat(first|refine zA ?_|refine zB ?_|refine zE rfl (by decide) rfl ?_|refine zF ?_|refine zG ?_|refine zH ?_|refine zI ?_|refine zJ ?_|refine zK ?_|refine zL rfl ?_|refine zM rfl ?_))
  refine RO.sta (s_loadMut (d := I (x.a : Nat)) rfl h68 rfl) rfl ?_
  (repeat(first|refine zA ?_|refine zB ?_|refine zE rfl (by decide) rfl ?_|refine zF ?_|refine zG ?_|refine zH ?_|refine zI ?_|refine zJ ?_|refine zK ?_|refine zL rfl ?_|refine zM rfl ?_))
  refine RO.sta (s_loadMut (d := I (ms[k].a : Nat)) rfl h8 rfl) rfl ?_
  (repeat(first|refine zA ?_|refine zB ?_|refine zE rfl (by decide) rfl ?_|refine zF ?_|refine zG ?_|refine zH ?_|refine zI ?_|refine zJ ?_|refine zK ?_|refine zL rfl ?_|refine zM rfl ?_))
  cases heq : ((x.a : Int) == (ms[k].a : Int))
  case false =>
   rw [beq_nat_int] at heq
   have hne : x.a ≠ ms[k].a := by simpa using heq
   have hns : newTo ms x (k + 1) = newTo ms x k := by rw [newTo_succ, hgk, if_neg hne, List.append_nil]
   (repeat(first|refine zA ?_|refine zB ?_|refine zE rfl (by decide) rfl ?_|refine zF ?_|refine zG ?_|refine zH ?_|refine zI ?_|refine zJ ?_|refine zK ?_|refine zL rfl ?_|refine zM rfl ?_))
   exact ⟨(k + 1, Hk, dk), ⟨hlt, by dsimp only; rw [hns]; exact hmk, h6k⟩, by dsimp only; omega, hsub8, (by repeat first | exact trivial | refine HasG.one rfl ?_ | refine HasN.one rfl ?_)⟩
  rw [beq_nat_int] at heq
  have hae : x.a = ms[k].a := by simpa using heq
  have hns : newTo ms x (k + 1) = newTo ms x k ++ [⟨k, ms.length, zipE max x.u.e ms[k].u.e⟩] := by rw [newTo_succ, hgk, if_pos hae]
  have hat8 := hm8.at_
  have hnl := newTo_len ms x k
  (repeat(first|refine zA ?_|refine zB ?_|refine zE rfl (by decide) rfl ?_|refine zF ?_|refine zG ?_|refine zH ?_|refine zI ?_|refine zJ ?_|refine zK ?_|refine zL rfl ?_|refine zM rfl ?_))
  refine DW.drawX [0, 1, 2, 3, 4, 5, 6, 7, 8, 9, 10, 11, 12, 13, 14, 15, 16, 17, 18, 19, 20, 21] [0] (fun _ => none) Tryz.mixed (by kernel_rfl) (Over.nul _) ?_
  (repeat(first|refine RX.A ?_|refine RX.nil ?_))
  refine RX.any (fun H' => s_nilCheck rfl) rfl ?_
  (repeat(first|refine RX.A ?_|refine RX.nil ?_))
  refine RX.sta rfl (r_loadMut (d := dk) rfl hat8 rfl) rfl ?_
  (repeat(first|refine RX.A ?_|refine RX.nil ?_))
  refine RX.any (fun H' => s_nilCheck rfl) rfl ?_
  (repeat(first|refine RX.A ?_|refine RX.nil ?_))
  refine RX.sta rfl (r_loadMut (d := .ref b1 0 ms.length 5) rfl hat8 rfl) rfl ?_
  (repeat(first|refine RX.A ?_|refine RX.nil ?_))
  refine RX.sta rfl (r_loadMut (d := intsD x.u.e) rfl h68 rfl) rfl ?_
  (repeat(first|refine RX.A ?_|refine RX.nil ?_))
  refine RX.sta rfl (r_loadMut (d := intsD ms[k].u.e) rfl h8 rfl) rfl ?_
  refine RX.any (fun H' => sta_call rfl rfl (Common_pure (a := x.u.e) (b := ms[k].u.e) (by rw [hxu]; exact hu) (by rw [hxu]; exact mk2.symm) _)) rfl ?_
  refine RX.any (fun H' => s_buildT (out := prC ⟨k, ms.length, zipE max x.u.e ms[k].u.e⟩) rfl rfl) rfl ?_
  refine RX.any (fun H' => s_lit1 (k := 3) (by decide) rfl rfl) rfl ?_
  refine RX.nil ?_
  refine RY.dyn rfl (d_append (H0 := H00) (l := (ps ++ newTo ms x k).map prD) (xs := [prD ⟨k, ms.length, zipE max x.u.e ms[k].u.e⟩]) rfl hm8.ps hm8.over rfl (.inl rfl) (uni_pr [_]) (by simp; omega) (by simp; omega) fun d' H' q1 q2 q3 => ⟨Over.nul _, ?_⟩)
  have hat' : H' bm = some (83, mkCs r (.ref b1 0 ms.length 5) dk) := q3 _ _ hat8 hm8.n2
  have h6' : H' b6 = some (68, mbC x) := q3 _ _ h68 (hm8.ps.blk_ne h68 (by decide))
  have hms' : Acc H00 H' (.ref b1 0 ms.length 5) 5 68 (ms.map mbD) := by
   refine ⟨hm8.ms.uni, .inr ⟨b1, g1, by simp, ?_⟩⟩
   have := (hm8.ms.blk_some (b := b1) rfl).1
   exact q3 _ _ this (hm8.n3 rfl)
  rw [← List.map_singleton, ← List.map_append, List.append_assoc, ← hns] at q1
  refine RY.sta (Over.nul _) (s_nilCheck rfl) rfl ?_
  (repeat(first|refine RY.S ?_|refine RY.nil ?_))
  refine RY.dyn rfl (d_store (k := 1) rfl rfl (by rw [q1.cell.1]; rfl) hat' (by rw [q1.cell.1]; show 0 + 5 + 1 ≤ 6; omega) (by rw [q1.cell.1]; intro z hz; rw [List.mem_singleton.1 hz]; exact q1.cell.2) ⟨Over.nul _, ?_⟩)
  refine RY.nil ?_
  rw [q1.cell.1]
  have hbm1 : b1 ≠ bm := fun h => by have := hm8.n1; rw [h] at this; exact this rfl
  have hb6m : b6 ≠ bm := fun h => by rw [h] at h6'; rw [hat'] at h6'; cases h6'
  have hdm : d'.blk ≠ some bm := q1.blk_ne hat' (by decide)
  (repeat(first|refine zA ?_|refine zB ?_|refine zE rfl (by decide) rfl ?_|refine zF ?_|refine zG ?_|refine zH ?_|refine zI ?_|refine zJ ?_|refine zK ?_|refine zL rfl ?_|refine zM rfl ?_))
  refine ⟨(k + 1, H'.set bm (83, mkCs r (.ref b1 0 ms.length 5) d'), d'), ⟨hlt, ⟨hm8.own, fun c z hc => ?_, Heap.set_self _ _ _, ⟨hms'.uni, .inr ⟨b1, g1, by simp, ?_⟩⟩, ⟨q1.uni, ?_⟩⟩, ?_⟩, by dsimp only; omega, Heap.sub_refl _, (by repeat first | exact trivial | refine HasG.one rfl ?_ | refine HasN.one rfl ?_)⟩
  ·dsimp only
   rw [Heap.set_other _ _ (fun h => by rw [h, hm8.own] at hc; cases hc)]
   exact q2 c z hc
  ·dsimp only
   rw [Heap.set_other _ _ hbm1]
   exact (hms'.blk_some (b := b1) rfl).1
  ·rcases q1.is with ⟨e1, e2⟩ | ⟨b', e1, e2, e3⟩
   ·exact .inl ⟨e1, e2⟩
   ·refine .inr ⟨b', e1, e2, ?_⟩
    dsimp only
    rw [Heap.set_other _ _ (fun h => by rw [e2, h] at hdm; exact hdm rfl)]
    exact e3
  ·dsimp only
   rw [Heap.set_other _ _ hb6m]
   exact h6'
 ·have hge : k = ms.length := by have := of_decide_eq_false hb; omega
  subst hge
  clear hb
  (repeat(first|refine zA ?_|refine zB ?_|refine zE rfl (by decide) rfl ?_|refine zF ?_|refine zG ?_|refine zH ?_|refine zI ?_|refine zJ ?_|refine zK ?_|refine zL rfl ?_|refine zM rfl ?_))
  refine DW.drawX [0, 1, 2, 3, 4, 5, 6] [0] (fun _ => none) Tryz.mixed (by kernel_rfl) (Over.nul _) ?_
  (repeat(first|refine RX.A ?_|refine RX.nil ?_))
  refine RX.any (fun H' => s_nilCheck rfl) rfl ?_
  (repeat(first|refine RX.A ?_|refine RX.nil ?_))
  refine RX.sta rfl (r_loadMut (d := dm) rfl hatk rfl) rfl ?_
  refine RX.sta rfl (r_loadMutAgg (ds := mbC x) rfl h6k rfl rfl) rfl ?_
  refine RX.any (fun H' => s_lit1 (k := 5) (by decide) rfl rfl) rfl ?_
  refine RX.nil ?_
  refine RY.dyn rfl (d_append (H0 := H00) (l := ms.map mbD) (xs := [mbD x]) rfl hmk.ms hmk.over rfl (.inl rfl) (uni_mb [_]) (by simp; omega) (by simp; omega) fun d' H' q1 q2 q3 => ⟨Over.nul _, ?_⟩)
  have hat' : H' bm = some (83, mkCs r dm dk) := q3 _ _ hatk hmk.n1
  rw [← List.map_singleton, ← List.map_append] at q1
  refine RY.sta (Over.nul _) (s_nilCheck rfl) rfl ?_
  (repeat(first|refine RY.S ?_|refine RY.nil ?_))
  refine RY.dyn rfl (d_store (k := 1) rfl rfl (by rw [q1.cell.1]; rfl) hat' (by rw [q1.cell.1]; show 0 + 4 + 1 ≤ 6; omega) (by rw [q1.cell.1]; intro z hz; rw [List.mem_singleton.1 hz]; exact q1.cell.2) ⟨Over.nul _, ?_⟩)
  refine RY.nil ?_
  rw [q1.cell.1]
  have hdm : d'.blk ≠ some bm := q1.blk_ne hat' (by decide)
  (repeat(first|refine zA ?_|refine zB ?_|refine zE rfl (by decide) rfl ?_|refine zF ?_|refine zG ?_|refine zH ?_|refine zI ?_|refine zJ ?_|refine zK ?_|refine zL rfl ?_|refine zM rfl ?_))
  refine ⟨.inr rfl, _, _, _, rfl, Heap.sub_refl _, .same _, d', dk, hmk.own, fun c z hc => ?_, Heap.set_self _ _ _, ⟨q1.uni, ?_⟩, ⟨hmk.ps.uni, ?_⟩⟩
  ·rw [Heap.set_other _ _ (fun h => by rw [h, hmk.own] at hc; cases hc)]
   exact q2 c z hc
  ·rcases q1.is with ⟨e1, e2⟩ | ⟨b', e1, e2, e3⟩
   ·exact .inl ⟨e1, e2⟩
   ·refine .inr ⟨b', e1, e2, ?_⟩
    rw [Heap.set_other _ _ (fun h => by rw [e2, h] at hdm; exact hdm rfl)]
    exact e3
  ·rcases hmk.ps.is with ⟨e1, e2⟩ | ⟨b', e1, e2, e3⟩
   ·exact .inl ⟨e1, e2⟩
   ·refine .inr ⟨b', e1, e2, ?_⟩
    have hkb : dm.blk ≠ some b' := hmk.ms.blk_ne e3 (by decide)
    have hb'm : b' ≠ bm := fun h => by have := hmk.n2; rw [e2, h] at this; exact this rfl
    rw [Heap.set_other _ _ hb'm]
    exact q3 _ _ e3 hkb
end
end Go.Proofs.YtfjmdhemlfafbaaGreat
