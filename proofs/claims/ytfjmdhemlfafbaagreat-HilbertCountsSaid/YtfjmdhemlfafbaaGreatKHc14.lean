/-
  The document's answer on monomials. No condition.
-/
import Derived.Test.YtfjmdhemlfafbaaGreatKHc13
import Derived.Test.YtfjmdhemlfafbaaGreatKHc5
import Derived.Test.YtfjmdhemlfafbaaGreatKHc7
import Derived.Test.YtfjmdhemlfafbaaGreatKHc10
import Derived.Test.YtfjmdhemlfafbaaGreatKHc9
import Derived.Test.YtfjmdhemlfafbaaGreatKHc12
import Derived.Test.YtfjmdhemlfafbaaGreatKHc8
set_option linter.unusedVariables false
set_option linter.unusedSimpArgs false

namespace Go.Proofs.YtfjmdhemlfafbaaGreat
section
open Go.RowKit
set_option maxHeartbeats 8000000

theorem monosT_len : ∀ (n t : Nat), (monosT n t).length ≤ (t + 1) ^ n
 | 0, t => by unfold monosT; split <;> simp
 | 1, t => by simp [monosT]
 | n + 2, t => by
  unfold monosT
  rw [List.length_flatMap]
  have h : ∀ i ∈ List.range (t + 1), ((monosT (n + 1) (t - i)).map fun e => (i : Int) :: e).length ≤ (t + 1) ^ (n + 1) := fun i _ => by
   rw [List.length_map]
   exact Nat.le_trans (monosT_len (n + 1) (t - i)) (Nat.pow_le_pow_left (by omega) _)
  have hs : ∀ (l : List Nat) (f : Nat → Nat) (B : Nat), (∀ i ∈ l, f i ≤ B) → (l.map f).sum ≤ l.length * B := by
   intro l f B hf
   induction l with
   | nil => simp
   | cons x l ih =>
    have h1 := hf x (by simp)
    have h2 := ih fun i hi => hf i (by simp [hi])
    rw [List.map_cons, List.sum_cons, List.length_cons, Nat.succ_mul]
    omega
  have := hs (List.range (t + 1)) (fun i => ((monosT (n + 1) (t - i)).map fun e => (i : Int) :: e).length) _ h
  rw [List.length_range] at this
  rw [Nat.pow_succ, Nat.mul_comm]
  exact this

theorem frN_le {n : Nat} {d : Int} (hn : n ≤ 3) (hd : d ≤ 100) : frN n d ≤ 1030301 := by
 unfold frN monZ
 split
 ·simp
 ·refine Nat.le_trans (monosT_len n d.toNat) ?_
  refine Nat.le_trans (Nat.pow_le_pow_left (show d.toNat + 1 ≤ 101 by omega) n) (Nat.le_trans (Nat.pow_le_pow_right (by omega) hn) (by decide))

set_option maxRecDepth 100000 in
theorem monomials_calls (n d : Int) (w : World) : CallsIn Fence.wide 0 Tryz.prog 14 #[.int .i64 n, .int .i64 d] w fun en w' => en = .returned (.func (.func 33) #[] #[.pointer (some ⟨w.heap.size, 0, none⟩), .pointer (some ⟨w.heap.size + 1, 0, none⟩)]) ∧ w' = (w.alloc (.cells #[.int .i64 n] 3)).alloc (.cells #[.int .i64 d] 3) := by
 refine callsIn_of_wp Tryz.func14 rfl trivial ?_ rfl
 simp only [Tryz.ntmps14, List.size_toArray, List.length_cons, List.length_nil, Nat.reduceAdd, Nat.reduceSub, Array.replicate_succ, Array.replicate_zero, List.push_toArray, List.append_toArray, List.nil_append, List.cons_append]
 gi_wp2
 go_ret
 exact ⟨rfl, rfl⟩

theorem monomials_pure (n d : Int) : Pure Tryz.prog 14 [I n, I d] (.fn 33 [.ipt 1 [I n] 0 0, .ipt 1 [I d] 0 0]) := by
 intro H
 refine ⟨⟨_, Tryz.func14, by decide, rfl⟩, fun w args ho ha => ?_⟩
 obtain ⟨v0, h0, r0⟩ := ha.2 0 _ rfl
 obtain ⟨v1, h1, r1⟩ := ha.2 1 _ rfl
 have e0 := rep_int r0
 have e1 := rep_int r1
 subst e0
 subst e1
 have hs : args.size = 2 := ha.1
 have hargs : args = #[.int .i64 n, .int .i64 d] := by
  apply Array.ext_getElem?
  intro j
  match j with
  | 0 => exact h0
  | 1 => exact h1
  | j + 2 => rw [Array.getElem?_eq_none (by omega), Array.getElem?_eq_none (by simp)]
 subst hargs
 refine (callsIn_wide.1 (monomials_calls n d w)).mono fun en w' ⟨h1, h2⟩ => ?_
 subst h2
 have hx : Ext w H ((w.alloc (.cells #[.int .i64 n] 3)).alloc (.cells #[.int .i64 d] 3)) H := (Ext.alloc w H _).trans (Ext.alloc _ H _)
 have hfresh : ∀ b, w.heap.size ≤ b → H b = none := fun b hb => by
  cases hx : H b with
  | none => rfl
  | some x => have := ho.lt hx; omega
 have hipt : ∀ {W : World} {b : Nat} {x : Int}, H b = none → W.cell? ⟨b, 0, none⟩ = some (.int .i64 x) → Rep W H (.pointer (some ⟨b, 0, none⟩)) (.ipt 1 [I x] 0 0) := fun {W b x} hb hc => by
  have := Rep.ipt (w := W) (H := H) (k := 1) (l := [I x]) (b := b) (off := 0) (i := 0) (j := 0) (fun _ _ => .int .i64 x) (fun i d h => by
   match i with
   | 0 => cases h; rfl) (fun i j y h => by
   match i, j with
   | 0, 0 => exact ⟨hb, hc⟩
   | 0, j + 1 => simp [cellAt, cellsOf] at h
   | i + 1, j => simp [cellAt] at h) (fun i j y h => by
   match i, j with
   | 0, 0 => simp [cellAt, cellsOf] at h; subst h; exact .int _ _
   | 0, j + 1 => simp [cellAt, cellsOf] at h
   | i + 1, j => simp [cellAt] at h)
  simpa using this
 refine ⟨_, h1, ?_, (ho.alloc _).alloc _, hx⟩
 refine RepsA.fn _ ⟨rfl, fun j x hj => ?_⟩
 match j with
 | 0 =>
  cases hj
  refine ⟨_, rfl, hipt (hfresh _ (Nat.le_refl _)) ?_⟩
  have g : ((w.alloc (.cells #[.int .i64 n] 3)).alloc (.cells #[.int .i64 d] 3)).heap[w.heap.size]? = some (.cells #[.int .i64 n] 3 (0, 0)) := (heap_push _ _ _ (by simp)).trans (World.alloc_heap_new w _)
  simp [World.cell?, g]
 | 1 =>
  cases hj
  refine ⟨_, rfl, hipt (hfresh _ (by omega)) ?_⟩
  have g := World.alloc_heap_new (w.alloc (.cells #[.int .i64 n] 3)) (.cells #[.int .i64 d] 3)
  rw [World.size_alloc] at g
  unfold World.cell?
  dsimp only
  rw [g]
  rfl

def freeBad (n d : Int) : Bool := decide (n < 1) || decide (3 < n) || decide (d < -100) || decide (100 < d)
def freeN (n d : Int) : Int := if freeBad n d then 0 else frN n.toNat d
def freeE (n d : Int) : Int := if freeBad n d then 3 else 0

theorem Free_pure (n d : Int) : Pure Tryz.prog 6 [I n, I d] (.tup [I (freeN n d), I (freeE n d)]) := by
 intro H
 refine PureH.of_body Tryz.func6 rfl (by decide) (Nat.le_of_ble_eq_true rfl) fun w0 => ?_
 (repeat(first|refine zA ?_|refine zB ?_|refine zE rfl (by decide) rfl ?_|refine zF ?_|refine zG ?_|refine zH ?_|refine zI ?_|refine zJ ?_|refine zK ?_|refine zL rfl ?_|refine zM rfl ?_))
 have hbad : freeBad n d = (decide (n < 1) || decide (3 < n) || decide (d < -100) || decide (100 < d)) := rfl
 unfold freeN freeE
 rw [hbad]
 clear hbad
 cases h1 : decide (n < 1)
 case true =>
  (repeat(first|refine zA ?_|refine zB ?_|refine zE rfl (by decide) rfl ?_|refine zF ?_|refine zG ?_|refine zH ?_|refine zI ?_|refine zJ ?_|refine zK ?_|refine zL rfl ?_|refine zM rfl ?_))
  exact DW.ret ⟨.inl rfl, _, rfl, Over.refl _, .same _⟩
 (repeat(first|refine zA ?_|refine zB ?_|refine zE rfl (by decide) rfl ?_|refine zF ?_|refine zG ?_|refine zH ?_|refine zI ?_|refine zJ ?_|refine zK ?_|refine zL rfl ?_|refine zM rfl ?_))
 cases h2 : decide (3 < n)
 case true =>
  (repeat(first|refine zA ?_|refine zB ?_|refine zE rfl (by decide) rfl ?_|refine zF ?_|refine zG ?_|refine zH ?_|refine zI ?_|refine zJ ?_|refine zK ?_|refine zL rfl ?_|refine zM rfl ?_))
  exact DW.ret ⟨.inl rfl, _, rfl, Over.refl _, .same _⟩
 (repeat(first|refine zA ?_|refine zB ?_|refine zE rfl (by decide) rfl ?_|refine zF ?_|refine zG ?_|refine zH ?_|refine zI ?_|refine zJ ?_|refine zK ?_|refine zL rfl ?_|refine zM rfl ?_))
 cases h3 : decide (d < -100)
 case true =>
  (repeat(first|refine zA ?_|refine zB ?_|refine zE rfl (by decide) rfl ?_|refine zF ?_|refine zG ?_|refine zH ?_|refine zI ?_|refine zJ ?_|refine zK ?_|refine zL rfl ?_|refine zM rfl ?_))
  exact DW.ret ⟨.inl rfl, _, rfl, Over.refl _, .same _⟩
 (repeat(first|refine zA ?_|refine zB ?_|refine zE rfl (by decide) rfl ?_|refine zF ?_|refine zG ?_|refine zH ?_|refine zI ?_|refine zJ ?_|refine zK ?_|refine zL rfl ?_|refine zM rfl ?_))
 cases h4 : decide (100 < d)
 case true =>
  (repeat(first|refine zA ?_|refine zB ?_|refine zE rfl (by decide) rfl ?_|refine zF ?_|refine zG ?_|refine zH ?_|refine zI ?_|refine zJ ?_|refine zK ?_|refine zL rfl ?_|refine zM rfl ?_))
  exact DW.ret ⟨.inl rfl, _, rfl, Over.refl _, .same _⟩
 have g1 := of_decide_eq_false h1
 have g2 := of_decide_eq_false h2
 have g3 := of_decide_eq_false h3
 have g4 := of_decide_eq_false h4
 obtain ⟨m, rfl⟩ := Int.eq_ofNat_of_zero_le (show 0 ≤ n by omega)
 (repeat(first|refine zA ?_|refine zB ?_|refine zE rfl (by decide) rfl ?_|refine zF ?_|refine zG ?_|refine zH ?_|refine zI ?_|refine zJ ?_|refine zK ?_|refine zL rfl ?_|refine zM rfl ?_))
 refine RO.dyn rfl (d_alloc fun b6 hb6 => ?_)
 (repeat(first|refine zA ?_|refine zB ?_|refine zE rfl (by decide) rfl ?_|refine zF ?_|refine zG ?_|refine zH ?_|refine zI ?_|refine zJ ?_|refine zK ?_|refine zL rfl ?_|refine zM rfl ?_))
 refine RO.dyn rfl (d_store (k := 1) rfl rfl rfl (Heap.set_self _ _ _) (Nat.le_refl _) (by simp [cellsOf, D.isCell]) ?_)
 rw [Heap.set_set]
 (repeat(first|refine zA ?_|refine zB ?_|refine zE rfl (by decide) rfl ?_|refine zF ?_|refine zG ?_|refine zH ?_|refine zI ?_|refine zJ ?_|refine zK ?_|refine zL rfl ?_|refine zM rfl ?_))
 refine RO.sta (sta_call rfl rfl (monomials_pure m d _)) rfl ?_
 (repeat(first|refine zA ?_|refine zB ?_|refine zE rfl (by decide) rfl ?_|refine zF ?_|refine zG ?_|refine zH ?_|refine zI ?_|refine zJ ?_|refine zK ?_|refine zL rfl ?_|refine zM rfl ?_))
 refine DW.monos (n := m) (d := d) rfl (by omega) (by omega) (by decide) (fun pre Hk => Over H Hk ∧ Hk b6 = some (3, [I (wrap64 pre.length)])) ⟨(Over.refl H).set hb6, by rw [Heap.set_self, show wrap64 ((([] : List (List Int)).length : Nat) : Int) = 0 by unfold wrap64; simp]; rfl⟩ (fun pre x Hk b r ⟨ho, h6⟩ hxl hkb w1 H1 => DR.skip ⟨rfl, fun w2 H2 => ?_⟩) fun Hk ⟨ho, h6⟩ => ?_
 ·have hne : b6 ≠ b := fun e => by rw [e, hkb] at h6; cases h6
  have h6b : (Hk.set b (3, intCells x)) b6 = some (3, [I (wrap64 pre.length)]) := by rw [Heap.set_other _ _ hne]; exact h6
  refine DR.block (DR.region rfl ?_)
  refine RO.sta (s_loadMut (d := I (wrap64 pre.length)) rfl h6b rfl) rfl ?_
  refine RO.sta (s_addW rfl rfl) rfl ?_
  refine RO.dyn rfl (d_store (k := 1) rfl rfl rfl h6b (Nat.le_refl _) (by simp [cellsOf, D.isCell]) ?_)
  refine RO.nil ⟨rfl, Hk.set b6 (3, [I (wrap64 (pre ++ [x]).length)]), ⟨fun c z hc => ?_, Heap.set_self _ _ _⟩, ?_, fun c z hc => ?_⟩
  ·have hcb : c ≠ b6 := fun e => by rw [e, hb6] at hc; cases hc
   rw [Heap.set_other _ _ hcb]
   exact ho c z hc
  ·rw [Heap.set_other _ _ hne.symm]
   exact hkb
  ·have hw : wrap64 (wrap64 (pre.length : Int) + 1) = wrap64 ((pre ++ [x]).length : Int) := by
    rw [List.length_append, List.length_singleton]
    unfold wrap64
    omega
   show (Heap.set (Hk.set b (3, intCells x)) b6 (3, [I (wrap64 (wrap64 (pre.length : Int) + 1))])) c = some z
   rw [hw]
   by_cases hcb : c = b6
   ·subst hcb
    rw [Heap.set_other _ _ hne, Heap.set_self] at hc
    rw [Heap.set_self]
    exact hc
   ·rw [Heap.set_other _ _ hcb]
    by_cases hcb2 : c = b
    ·subst hcb2
     rw [Heap.set_self] at hc ⊢
     exact hc
    ·rw [Heap.set_other _ _ hcb2, Heap.set_other _ _ hcb] at hc
     rw [Heap.set_other _ _ hcb2]
     exact hc
 ·have hfr := frN_le (n := m) (d := d) (by omega) (by omega)
  have hlen : wrap64 ((monZ m d).length : Int) = frN m d := by
   unfold frN at hfr ⊢
   unfold wrap64
   omega
  rw [hlen] at h6
  refine DW.seq (DW.region ?_)
  refine RO.sta (s_loadMut (d := I (frN m d)) rfl h6 rfl) rfl ?_
  (repeat(first|refine zA ?_|refine zB ?_|refine zE rfl (by decide) rfl ?_|refine zF ?_|refine zG ?_|refine zH ?_|refine zI ?_|refine zJ ?_|refine zK ?_|refine zL rfl ?_|refine zM rfl ?_))
  exact DW.ret ⟨.inl rfl, _, rfl, ho, .same _⟩
end
section
def partRow (full row : List Int) (j : Nat) : List Int := full.take j ++ row.drop j

theorem partRow_len {full row : List Int} (h : full.length = row.length) (j : Nat) : (partRow full row j).length = row.length := by simp [partRow]; omega

theorem partRow_get {full row : List Int} (h : full.length = row.length) {j i : Nat} (hi : i < row.length) (hi' : i < (partRow full row j).length) : (partRow full row j)[i] = if i < j then full[i]'(by omega) else row[i] := by
 have hi2 : i < (full.take j ++ row.drop j).length := hi'
 show (full.take j ++ row.drop j)[i]'hi2 = _
 by_cases hij : i < j
 ·rw [if_pos hij, List.getElem_append_left (by simp; omega), List.getElem_take]
 ·rw [if_neg hij, List.getElem_append_right (by simp; omega)]
  simp only [List.length_take, List.getElem_drop]
  congr 1
  omega

theorem partRow_set {full row : List Int} (h : full.length = row.length) {j : Nat} (hj : j < row.length) : (partRow full row j).set j (full[j]'(by omega)) = partRow full row (j + 1) := by
 apply List.ext_getElem
 ·simp [partRow_len h]
 ·intro i h1 h2
  have hi : i < row.length := by rw [partRow_len h] at h2; exact h2
  rw [List.getElem_set, partRow_get h hi h2]
  split
  ·rename_i hji
   subst hji
   rw [if_pos (by omega)]
  ·rw [partRow_get h hi (by rw [partRow_len h]; exact hi)]
   by_cases hij : i < j
   ·rw [if_pos hij, if_pos (by omega)]
   ·rw [if_neg hij, if_neg (by omega)]

theorem partRow_all {full row : List Int} (h : full.length = row.length) : partRow full row row.length = full := by simp [partRow, ← h]
end
section
open Go.RowKit
set_option maxHeartbeats 4000000

section
variable {P : Program} {H : Heap} {e : Env} {dst : Option Tmp} {ty : TypeId} {pos : String} {af : Array Edge} {gd : Option (Nat × Bool)}

theorem s_loadVec {t T0 : TypeId} {x : Operand} {b off j : Nat} {l : List Int} [CellT P t] (hx : e.ev x = some (.ptr b off)) (hH : H b = some (T0, l.map I)) (ho : off = j) (hl : j < l.length) : Sta P H e ⟨dst, .load t x, ty, pos, af, gd⟩ (I (vec l j)) := by
 subst ho
 rw [vec_lt hl]
 exact s_loadInt hx hH hl

theorem r_loadVec {t T0 : TypeId} {x : Operand} {b off j : Nat} {l : List Int} [CellT P t] (hx : e.ev x = some (.ptr b off)) (hH : H b = some (T0, l.map I)) (ho : off = j) (hl : j < l.length) : ∀ H', Over H H' → Sta P H' e ⟨dst, .load t x, ty, pos, af, gd⟩ (I (vec l j)) :=
 fun H' hov => s_loadVec hx (hov _ _ hH) ho hl

end

theorem turnGo_range {p : Int} (hp : 0 < p) : ∀ (f : Nat) (n a out : Int), 0 ≤ out → out < p → 0 ≤ turnGo p f n a out ∧ turnGo p f n a out < p
 | 0, _, _, out, h0, h1 => ⟨h0, h1⟩
 | f + 1, n, a, out, h0, h1 => by
  simp only [turnGo]
  split
  ·exact ⟨h0, h1⟩
  ·refine turnGo_range hp f _ _ _ ?_ ?_
   ·split
    ·exact Int.emod_nonneg _ (by omega)
    ·exact h0
   ·split
    ·exact Int.emod_lt_of_pos _ hp
    ·exact h1

theorem turnP_range {p : Int} (hp : 2 ≤ p) (a : Int) : 0 ≤ turnP p a ∧ turnP p a < p := turnGo_range (by omega) _ _ _ _ (by omega) (by omega)

theorem Heap.set_same {H : Heap} {b : Nat} {x : TypeId × List D} (h : H b = some x) : H.set b x = H := by
 funext c
 simp only [Heap.set]
 split
 ·rename_i e; rw [e, h]
 ·rfl

theorem indexFunc_rows {H : Heap} {f : FuncId} {caps : List D} (l : List (List Int)) (g : List Int → Bool) (hl : l.length ≤ 4611686018427387904) (hg : ∀ x, x ∈ l → PureH Tryz.prog H f (intsD x :: caps) (.bool (g x))) :
  PureH Tryz.prog H 35 [intssD l, .fn f caps] (I (idxD g l)) := by
 refine PureH.of_body Tryz.func35 rfl (by decide) (Nat.le_of_ble_eq_true rfl) fun w0 => ?_
 (repeat(first|refine zC ?_|refine zD ?_|refine zE rfl (by decide) rfl ?_|refine zF ?_|refine zG ?_|refine zH ?_|refine zI ?_|refine zJ ?_|refine zK ?_|refine zL rfl ?_|refine zM rfl ?_))
 refine DW.loopI (fun k : Nat => k ≤ l.length ∧ ∀ (j : Nat) (hj : j < l.length), j < k → g l[j] = false) (fun k => [(0, intssD l), (1, .fn f caps), (7, I l.length), (8, I k)]) (fun _ => H) (fun k => l.length - k) 0 ⟨Nat.zero_le _, fun j hj h => by omega⟩ rfl ⟨rfl, rfl, rfl, rfl, trivial⟩ fun k ⟨hk, hk2⟩ => ?_
 (repeat(first|refine zC ?_|refine zD ?_|refine zE rfl (by decide) rfl ?_|refine zF ?_|refine zG ?_|refine zH ?_|refine zI ?_|refine zJ ?_|refine zK ?_|refine zL rfl ?_|refine zM rfl ?_))
 refine DW.cond rfl (fun hb => ?_) (fun hb => ?_)
 ·have hlt : k < l.length := by have := of_decide_eq_true hb; omega
  (repeat(first|refine zC ?_|refine zD ?_|refine zE rfl (by decide) rfl ?_|refine zF ?_|refine zG ?_|refine zH ?_|refine zI ?_|refine zJ ?_|refine zK ?_|refine zL rfl ?_|refine zM rfl ?_))
  refine RO.sta (sta_call rfl rfl (hg _ (List.getElem_mem hlt))) rfl ?_
  (repeat(first|refine zC ?_|refine zD ?_|refine zE rfl (by decide) rfl ?_|refine zF ?_|refine zG ?_|refine zH ?_|refine zI ?_|refine zJ ?_|refine zK ?_|refine zL rfl ?_|refine zM rfl ?_))
  refine DW.cond rfl (fun hb => ?_) (fun hb => ?_)
  ·(repeat(first|refine zC ?_|refine zD ?_|refine zE rfl (by decide) rfl ?_|refine zF ?_|refine zG ?_|refine zH ?_|refine zI ?_|refine zJ ?_|refine zK ?_|refine zL rfl ?_|refine zM rfl ?_))
   rw [idxD_at hlt hk2 hb]
   exact DW.ret ⟨.inl rfl, _, rfl, Over.refl _, .same _⟩
  ·(repeat(first|refine zC ?_|refine zD ?_|refine zE rfl (by decide) rfl ?_|refine zF ?_|refine zG ?_|refine zH ?_|refine zI ?_|refine zJ ?_|refine zK ?_|refine zL rfl ?_|refine zM rfl ?_))
   refine ⟨k + 1, ⟨by omega, fun j hj hjk => ?_⟩, by dsimp only; omega, rfl, rfl, rfl, rfl, rfl, trivial⟩
   by_cases h : j = k
   ·subst h; exact hb
   ·exact hk2 j hj (by omega)
 ·(repeat(first|refine zC ?_|refine zD ?_|refine zE rfl (by decide) rfl ?_|refine zF ?_|refine zG ?_|refine zH ?_|refine zI ?_|refine zJ ?_|refine zK ?_|refine zL rfl ?_|refine zM rfl ?_))
  have hn : ¬ k < l.length := by have := of_decide_eq_false hb; omega
  rw [idxD_none fun j hj => hk2 j hj (by omega)]
  exact DW.ret ⟨.inl rfl, _, rfl, Over.refl _, .same _⟩

theorem containsFunc_rows {H : Heap} {f : FuncId} {caps : List D} (l : List (List Int)) (g : List Int → Bool) (hl : l.length ≤ 4611686018427387904) (hg : ∀ x, x ∈ l → PureH Tryz.prog H f (intsD x :: caps) (.bool (g x))) :
  PureH Tryz.prog H 15 [intssD l, .fn f caps] (.bool (l.any g)) := by
 refine PureH.of_body Tryz.func15 rfl (by decide) (Nat.le_of_ble_eq_true rfl) fun w0 => ?_
 (repeat(first|refine zC ?_|refine zD ?_|refine zE rfl (by decide) rfl ?_|refine zF ?_|refine zG ?_|refine zH ?_|refine zI ?_|refine zJ ?_|refine zK ?_|refine zL rfl ?_|refine zM rfl ?_))
 refine RO.sta (sta_call rfl rfl (indexFunc_rows l g hl hg)) rfl ?_
 (repeat(first|refine zC ?_|refine zD ?_|refine zE rfl (by decide) rfl ?_|refine zF ?_|refine zG ?_|refine zH ?_|refine zI ?_|refine zJ ?_|refine zK ?_|refine zL rfl ?_|refine zM rfl ?_))
 have h : decide (0 ≤ idxD g l) = l.any g := by
  unfold idxD
  cases hx : l.findIdx? g with
  | none =>
   rw [List.findIdx?_eq_none_iff] at hx
   have : l.any g = false := by rw [List.any_eq_false]; intro x hm; simp [hx x hm]
   rw [this]; rfl
  | some i =>
   rw [List.findIdx?_eq_some_iff_getElem] at hx
   obtain ⟨h1, h2, _⟩ := hx
   have : l.any g = true := List.any_eq_true.2 ⟨_, List.getElem_mem h1, h2⟩
   rw [this]
   show decide (0 ≤ (i : Int)) = true
   exact decide_eq_true (by omega)
 rw [← h]
 exact DW.ret ⟨.inl rfl, _, rfl, Over.refl _, .same _⟩
end
section
open Go.RowKit

theorem getD_lt {α : Type} {l : List α} {i : Nat} {z : α} (h : i < l.length) : l.getD i z = l[i] := by
 rw [List.getD_eq_getElem?_getD, List.getElem?_eq_getElem h]; rfl

theorem getD_set {α : Type} {l : List α} {i j : Nat} {x z : α} (h : i < l.length) : (l.set i x).getD j z = if i = j then x else l.getD j z := by
 rw [List.getD_eq_getElem?_getD, List.getElem?_set]
 by_cases hij : i = j
 ·subst hij; rw [if_pos rfl, if_pos rfl, if_pos h]; rfl
 ·rw [if_neg hij, if_neg hij, List.getD_eq_getElem?_getD]
end
section
open Go.RowKit
set_option maxHeartbeats 8000000

theorem clone_acc {H : Heap} (l : List Int) (hl : l.length ≤ 1000000000000) : CallD Tryz.prog H 46 [intsD l] fun d H' => Acc H H' d 1 3 (l.map I) ∧ Over H H' := by
 refine CallD.of_body Tryz.func46 rfl (by decide) (Nat.le_of_ble_eq_true rfl) fun w0 => ?_
 (repeat(first|refine zC ?_|refine zD ?_|refine zE rfl (by decide) rfl ?_|refine zF ?_|refine zG ?_|refine zH ?_|refine zI ?_|refine zJ ?_|refine zK ?_|refine zL rfl ?_|refine zM rfl ?_))
 refine RO.dyn rfl (d_eqNil rfl fun b hb => ?_)
 (repeat(first|refine zC ?_|refine zD ?_|refine zE rfl (by decide) rfl ?_|refine zF ?_|refine zG ?_|refine zH ?_|refine zI ?_|refine zJ ?_|refine zK ?_|refine zL rfl ?_|refine zM rfl ?_))
 refine DW.cond rfl (fun hbt => ?_) (fun hbt => ?_)
 ·have hnil : l = [] := by
   cases l with
   | nil => rfl
   | cons x l => rw [hb (by simp)] at hbt; cases hbt
  subst hnil
  (repeat(first|refine zC ?_|refine zD ?_|refine zE rfl (by decide) rfl ?_|refine zF ?_|refine zG ?_|refine zH ?_|refine zI ?_|refine zJ ?_|refine zK ?_|refine zL rfl ?_|refine zM rfl ?_))
  exact DW.ret ⟨.inl rfl, _, .nil, _, rfl, fun _ _ h => h, .same _, Acc.nil _ _ _ _, Over.refl _⟩
 ·(repeat(first|refine zC ?_|refine zD ?_|refine zE rfl (by decide) rfl ?_|refine zF ?_|refine zG ?_|refine zH ?_|refine zI ?_|refine zJ ?_|refine zK ?_|refine zL rfl ?_|refine zM rfl ?_))
  refine RO.dyn rfl (d_append (H0 := H) (l := []) (xs := l.map I) rfl (Acc.nil _ _ _ _) (Over.refl _) rfl (.inl rfl) (uni_I _) (by simp; omega) (by simp; omega) fun d' H' h1 h2 h3 => ?_)
  (repeat(first|refine zC ?_|refine zD ?_|refine zE rfl (by decide) rfl ?_|refine zF ?_|refine zG ?_|refine zH ?_|refine zI ?_|refine zJ ?_|refine zK ?_|refine zL rfl ?_|refine zM rfl ?_))
  exact DW.ret ⟨.inl rfl, _, d', H', rfl, fun _ _ h => h, .same _, by simpa using h1, h2⟩

theorem cellsI (l : List Int) : (l.map I).flatMap cellsOf = l.map I := by
 induction l with
 | nil => rfl
 | cons x l ih => simp [cellsOf, ih] 

theorem plus_pure {a b : List Int} (t : Int) (f : Nat) (ha : a.length ≤ 1000000000000) (hb : b.length ≤ 1000000000000) (hf : f ≤ 1000000000000) :
  Pure Tryz.prog 30 [intsD a, intsD b, I t, I f] (intsD (plusT a b t f)) := by
 intro H
 refine PureH.of_body Tryz.func30 rfl (by decide) (Nat.le_of_ble_eq_true rfl) fun w0 => ?_
 (repeat(first|refine zA ?_|refine zB ?_|refine zE rfl (by decide) rfl ?_|refine zF ?_|refine zG ?_|refine zH ?_|refine zI ?_|refine zJ ?_|refine zK ?_|refine zL rfl ?_|refine zM rfl ?_))
 refine RO.dyn rfl ((opD_call rfl rfl (clone_acc a ha)).mono fun d H1 ⟨hacc, hov⟩ => ?_)
 (repeat(first|refine zA ?_|refine zB ?_|refine zE rfl (by decide) rfl ?_|refine zF ?_|refine zG ?_|refine zH ?_|refine zI ?_|refine zJ ?_|refine zK ?_|refine zL rfl ?_|refine zM rfl ?_))
 refine DW.loopG (fun z : Nat × Heap × D => z.1 ≤ b.length ∧ Acc H z.2.1 z.2.2 1 3 ((plusU a b t f z.1).map I) ∧ Over H z.2.1) (fun z => [(2, I t), (3, I f), (9, z.2.2), (14, intsD b), (15, I b.length), (16, I z.1)]) (fun z => z.2.1) (fun z => b.length - z.1) (0, H1, d)
  ⟨Nat.zero_le _, hacc, hov⟩ (Heap.sub_refl _) (by repeat first | exact trivial | refine HasG.one rfl ?_ | refine HasN.one rfl ?_) fun ⟨i, Hi, di⟩ ⟨hi, hai, hoi⟩ => ?_
 dsimp only at hi hai hoi ⊢
 have hli := plusU_len a b t f i
 have hlb : (plusU a b t f i).length ≤ 2001000000000 := by rw [hli]; split <;> omega
 (repeat(first|refine zA ?_|refine zB ?_|refine zE rfl (by decide) rfl ?_|refine zF ?_|refine zG ?_|refine zH ?_|refine zI ?_|refine zJ ?_|refine zK ?_|refine zL rfl ?_|refine zM rfl ?_))
 refine DW.cond rfl (fun hb => ?_) (fun hb => ?_)
 ·have hlt : i < b.length := by have := of_decide_eq_true hb; omega
  clear hb
  (repeat(first|refine zA ?_|refine zB ?_|refine zE rfl (by decide) rfl ?_|refine zF ?_|refine zG ?_|refine zH ?_|refine zI ?_|refine zJ ?_|refine zK ?_|refine zL rfl ?_|refine zM rfl ?_))
  refine DW.loopG (fun z : Nat × Heap × D => (plusU a b t f i).length + z.1 ≤ max (plusU a b t f i).length (i + f + 1) ∧ Acc H z.2.1 z.2.2 1 3 ((plusU a b t f i ++ List.replicate z.1 0).map I) ∧ Over H z.2.1) (fun z => [(2, I t), (3, I f), (9, z.2.2), (10, I i), (11, I b[i]), (14, intsD b), (15, I b.length), (16, I i)]) (fun z => z.2.1) (fun z => i + f + 1 - z.1) (0, Hi, di)
   ⟨by dsimp only; omega, by simpa using hai, hoi⟩ (Heap.sub_refl _) (by repeat first | exact trivial | refine HasG.one rfl ?_ | refine HasN.one rfl ?_) fun ⟨m, Hm, dm⟩ ⟨hm, ham, hom⟩ => ?_
  dsimp only at hm ham hom ⊢
  have hlm := ham.len'
  rw [List.length_map, List.length_append, List.length_replicate] at hlm
  (repeat(first|refine zA ?_|refine zB ?_|refine zE rfl (by decide) rfl ?_|refine zF ?_|refine zG ?_|refine zH ?_|refine zI ?_|refine zJ ?_|refine zK ?_|refine zL rfl ?_|refine zM rfl ?_))
  refine RO.sta (s_len rfl hlm) rfl ?_
  (repeat(first|refine zA ?_|refine zB ?_|refine zE rfl (by decide) rfl ?_|refine zF ?_|refine zG ?_|refine zH ?_|refine zI ?_|refine zJ ?_|refine zK ?_|refine zL rfl ?_|refine zM rfl ?_))
  refine DW.cond rfl (fun hb => ?_) (fun hb => ?_)
  ·have hlt2 : (plusU a b t f i).length + m ≤ i + f := by have := of_decide_eq_true hb; omega
   clear hb
   (repeat(first|refine zA ?_|refine zB ?_|refine zE rfl (by decide) rfl ?_|refine zF ?_|refine zG ?_|refine zH ?_|refine zI ?_|refine zJ ?_|refine zK ?_|refine zL rfl ?_|refine zM rfl ?_))
   refine RO.dyn rfl (d_append (H0 := H) (l := (plusU a b t f i ++ List.replicate m 0).map I) (xs := [I 0]) rfl ham hom rfl (.inl rfl) (uni_I [0]) (by simp; omega) (by simp; omega) fun d' H' q1 q2 q3 => ?_)
   (repeat(first|refine zA ?_|refine zB ?_|refine zE rfl (by decide) rfl ?_|refine zF ?_|refine zG ?_|refine zH ?_|refine zI ?_|refine zJ ?_|refine zK ?_|refine zL rfl ?_|refine zM rfl ?_))
   refine ⟨(m + 1, H', d'), ⟨by dsimp only; omega, ?_, q2⟩, by dsimp only; omega, Heap.sub_refl _, (by repeat first | exact trivial | refine HasG.one rfl ?_ | refine HasN.one rfl ?_)⟩
   dsimp only
   rw [List.replicate_succ', ← List.append_assoc, List.map_append]
   exact q1
  ·have hge : ¬ (plusU a b t f i).length + m ≤ i + f := by have := of_decide_eq_false hb; omega
   clear hb
   have hpad : plusU a b t f i ++ List.replicate m 0 = padT (plusU a b t f i) (i + f + 1) := by
    unfold padT
    rw [show m = i + f + 1 - (plusU a b t f i).length by omega]
   rw [hpad] at ham
   have hpl := padT_len (plusU a b t f i) (i + f + 1)
   have hpg := padT_get (plusU a b t f i) (i + f + 1) (i + f)
   have hplt : i + f < (padT (plusU a b t f i) (i + f + 1)).length := by omega
   generalize hO : padT (plusU a b t f i) (i + f + 1) = O at *
   obtain ⟨bb, hbb, rfl, hHb⟩ := ham.ref (by rw [List.length_map]; omega)
   rw [cellsI] at hHb
   have hx1 : (O.map I)[i + f]? = some (I ((plusU a b t f i).getD (i + f) 0)) := by
    rw [← hpg, List.getElem?_map, List.getElem?_eq_getElem hplt, getD_lt hplt]
    rfl
   have hci : ((i : Int) + f) = ((i + f : Nat) : Int) := by omega
   (repeat(first|refine zA ?_|refine zB ?_|refine zE rfl (by decide) rfl ?_|refine zF ?_|refine zG ?_|refine zH ?_|refine zI ?_|refine zJ ?_|refine zK ?_|refine zL rfl ?_|refine zM rfl ?_))
   rw [hci]
   refine RO.sta (s_indexRef (i := i + f) rfl rfl (by rw [List.length_map]; exact hplt)) rfl ?_
   refine RO.sta (s_loadMut (d := I ((plusU a b t f i).getD (i + f) 0)) rfl hHb (by rw [show 0 + (i + f) * 1 = i + f by omega]; exact hx1)) rfl ?_
   (repeat(first|refine zA ?_|refine zB ?_|refine zE rfl (by decide) rfl ?_|refine zF ?_|refine zG ?_|refine zH ?_|refine zI ?_|refine zJ ?_|refine zK ?_|refine zL rfl ?_|refine zM rfl ?_))
   refine RO.sta (s_mulW rfl rfl) rfl ?_
   refine RO.sta (s_addW rfl rfl) rfl ?_
   refine RO.sta (s_indexRef (i := i + f) rfl rfl (by rw [List.length_map]; exact hplt)) rfl ?_
   refine RO.dyn rfl (d_store (k := 1) rfl rfl rfl hHb (by rw [List.length_map]; show 0 + (i + f) * 1 + 1 ≤ O.length; omega) (by simp [cellsOf, D.isCell]) ?_)
   (repeat(first|refine zA ?_|refine zB ?_|refine zE rfl (by decide) rfl ?_|refine zF ?_|refine zG ?_|refine zH ?_|refine zI ?_|refine zJ ?_|refine zK ?_|refine zL rfl ?_|refine zM rfl ?_))
   have hbi : b.getD i 0 = b[i] := getD_lt hlt
   have hU : plusU a b t f (i + 1) = O.set (i + f) (wrap64 ((plusU a b t f i).getD (i + f) 0 + wrap64 (t * b[i]))) := by
    show (padT (plusU a b t f i) (i + f + 1)).set (i + f) (wrap64 ((plusU a b t f i).getD (i + f) 0 + wrap64 (t * b.getD i 0))) = _
    rw [hO, hbi]
   have hset : setMany (O.map I) (0 + (i + f) * 1) (cellsOf (I (wrap64 ((plusU a b t f i).getD (i + f) 0 + wrap64 (t * b[i]))))) = (plusU a b t f (i + 1)).map I := by
    rw [show 0 + (i + f) * 1 = i + f by omega, hU, List.map_set]
    exact setManyD (O.map I) (i + f) (I _) rfl (by rw [List.length_map]; exact hplt)
   have hlU : (plusU a b t f (i + 1)).length = O.length := by
    rw [hU, List.length_set]
   refine ⟨(i + 1, Hm.set bb (3, (plusU a b t f (i + 1)).map I), .ref bb 0 (O.map I).length 1), ⟨hlt, ⟨uni_I _, .inr ⟨bb, hbb, by dsimp only; rw [List.length_map, List.length_map, hlU], by dsimp only; rw [Heap.set_self, cellsI]⟩⟩, hom.set hbb⟩, by dsimp only; omega, by dsimp only; rw [← hset]; exact Heap.sub_refl _, (by repeat first | exact trivial | refine HasG.one rfl ?_ | refine HasN.one rfl ?_)⟩
 ·have hie : i = b.length := by have := of_decide_eq_false hb; omega
  subst hie
  clear hb
  (repeat(first|refine zA ?_|refine zB ?_|refine zE rfl (by decide) rfl ?_|refine zF ?_|refine zG ?_|refine zH ?_|refine zI ?_|refine zJ ?_|refine zK ?_|refine zL rfl ?_|refine zM rfl ?_))
  exact DW.ret ⟨.inl rfl, _, rfl, hoi, hai.done⟩
end
section
open Go.RowKit
set_option maxHeartbeats 8000000

def monU (n : Nat) (d : Int) (k : Nat) : List (List Int) := (List.range k).flatMap fun (i : Nat) => (monZ n (d - (i : Int))).map fun e => (i : Int) :: e

theorem monU_succ (n : Nat) (d : Int) (k : Nat) : monU n d (k + 1) = monU n d k ++ (monZ n (d - k)).map fun e => (k : Int) :: e := by
 unfold monU
 rw [List.range_succ, List.flatMap_append, List.flatMap_singleton]

theorem monZ_two {n : Nat} {d : Int} (hd : 0 ≤ d) : monZ (n + 2) d = monU (n + 1) d (d.toNat + 1) := by
 have e : monZ (n + 2) d = monosT (n + 2) d.toNat := by unfold monZ; rw [if_neg (by omega)]
 rw [e]
 unfold monosT monU
 have h : ∀ i ∈ List.range (d.toNat + 1), ((monosT (n + 1) (d.toNat - i)).map fun e => (i : Int) :: e) = (monZ (n + 1) (d - i)).map fun e => (i : Int) :: e := fun i hi => by
  have := List.mem_range.1 hi
  unfold monZ
  rw [if_neg (by omega), show (d - (i : Int)).toNat = d.toNat - i by omega]
 rw [List.flatMap_def, List.flatMap_def, List.map_congr_left h]

theorem monU_len {n : Nat} {d : Int} (hn : n ≤ 3) (hd : d ≤ 100) (k : Nat) : (monU n d k).length ≤ 1030301 * k := by
 induction k with
 | zero => simp [monU]
 | succ k ih =>
  have := frN_le (n := n) (d := d - k) hn (by omega)
  unfold frN at this
  rw [monU_succ, List.length_append, List.length_map]
  omega

theorem Monos_pure : ∀ (m : Nat) (d : Int), m + 1 ≤ 3 → -1000 ≤ d → d ≤ 100 → Pure Tryz.prog 10 [I ((m + 1 : Nat) : Int), I d] (intssD (monZ (m + 1) d)) := by
 intro m
 induction m with
 | zero =>
  intro d hm hd0 hd H
  refine PureH.of_body Tryz.func10 rfl (by decide) (Nat.le_of_ble_eq_true rfl) fun w0 => ?_
  (repeat(first|refine zA ?_|refine zB ?_|refine zE rfl (by decide) rfl ?_|refine zF ?_|refine zG ?_|refine zH ?_|refine zI ?_|refine zJ ?_|refine zK ?_|refine zL rfl ?_|refine zM rfl ?_))
  cases h1 : decide (d < 0)
  case true =>
   have h0 : monZ (0 + 1) d = [] := by unfold monZ; rw [if_pos (of_decide_eq_true h1)]
   rw [h0]
   (repeat(first|refine zA ?_|refine zB ?_|refine zE rfl (by decide) rfl ?_|refine zF ?_|refine zG ?_|refine zH ?_|refine zI ?_|refine zJ ?_|refine zK ?_|refine zL rfl ?_|refine zM rfl ?_))
   exact DW.ret ⟨.inl rfl, _, rfl, Over.refl _, .nil 1⟩
  have h0 : monZ (0 + 1) d = [[d]] := by
   have := of_decide_eq_false h1
   unfold monZ
   rw [if_neg this]
   show [[((d.toNat : Nat) : Int)]] = _
   rw [show ((d.toNat : Nat) : Int) = d by omega]
  rw [h0]
  (repeat(first|refine zA ?_|refine zB ?_|refine zE rfl (by decide) rfl ?_|refine zF ?_|refine zG ?_|refine zH ?_|refine zI ?_|refine zJ ?_|refine zK ?_|refine zL rfl ?_|refine zM rfl ?_))
  exact DW.ret ⟨.inl rfl, _, rfl, Over.refl _, .same _⟩
 | succ m ih =>
  intro d hm hd0 hd H
  refine PureH.of_body Tryz.func10 rfl (by decide) (Nat.le_of_ble_eq_true rfl) fun w0 => ?_
  (repeat(first|refine zA ?_|refine zB ?_|refine zE rfl (by decide) rfl ?_|refine zF ?_|refine zG ?_|refine zH ?_|refine zI ?_|refine zJ ?_|refine zK ?_|refine zL rfl ?_|refine zM rfl ?_))
  cases h1 : decide (d < 0)
  case true =>
   have h0 : monZ (m + 1 + 1) d = [] := by unfold monZ; rw [if_pos (of_decide_eq_true h1)]
   rw [h0]
   (repeat(first|refine zA ?_|refine zB ?_|refine zE rfl (by decide) rfl ?_|refine zF ?_|refine zG ?_|refine zH ?_|refine zI ?_|refine zJ ?_|refine zK ?_|refine zL rfl ?_|refine zM rfl ?_))
   exact DW.ret ⟨.inl rfl, _, rfl, Over.refl _, .nil 1⟩
  have hdn := of_decide_eq_false h1
  rw [monZ_two (by omega)]
  have hn1 : (((m + 1 + 1 : Nat) : Int) == 1) = false := by
   rw [beq_eq_false_iff_ne]
   omega
  have hn2 : ((m + 1 + 1 : Nat) : Int) - 1 = ((m + 1 : Nat) : Int) := by omega
  (repeat(first|refine zA ?_|refine zB ?_|refine zE rfl (by decide) rfl ?_|refine zF ?_|refine zG ?_|refine zH ?_|refine zI ?_|refine zJ ?_|refine zK ?_|refine zL rfl ?_|refine zM rfl ?_))
  rw [hn1]
  (repeat(first|refine zA ?_|refine zB ?_|refine zE rfl (by decide) rfl ?_|refine zF ?_|refine zG ?_|refine zH ?_|refine zI ?_|refine zJ ?_|refine zK ?_|refine zL rfl ?_|refine zM rfl ?_))
  refine DW.loopG (fun z : Nat × Heap × D => z.1 ≤ d.toNat + 1 ∧ Acc H z.2.1 z.2.2 1 24 ((monU (m + 1) d z.1).map intsD) ∧ Over H z.2.1) (fun z => [(0, I ((m + 1 + 1 : Nat) : Int)), (1, I d), (5, z.2.2), (6, I z.1)]) (fun z => z.2.1) (fun z => d.toNat + 1 - z.1) (0, H, .nil)
   ⟨Nat.zero_le _, Acc.nil _ _ _ _, Over.refl _⟩ (Heap.sub_refl _) (by repeat first | exact trivial | refine HasG.one rfl ?_ | refine HasN.one rfl ?_) fun ⟨k, Hk, dk⟩ ⟨hk, hak, hok⟩ => ?_
  dsimp only at hk hak hok ⊢
  (repeat(first|refine zA ?_|refine zB ?_|refine zE rfl (by decide) rfl ?_|refine zF ?_|refine zG ?_|refine zH ?_|refine zI ?_|refine zJ ?_|refine zK ?_|refine zL rfl ?_|refine zM rfl ?_))
  refine DW.cond rfl (fun hb => ?_) (fun hb => ?_)
  ·have hlt : (k : Int) ≤ d := of_decide_eq_true hb
   clear hb
   have hfr := frN_le (n := m + 1) (d := d - k) (by omega) (by omega)
   unfold frN at hfr
   have hul := monU_len (n := m + 1) (d := d) (by omega) hd k
   (repeat(first|refine zA ?_|refine zB ?_|refine zE rfl (by decide) rfl ?_|refine zF ?_|refine zG ?_|refine zH ?_|refine zI ?_|refine zJ ?_|refine zK ?_|refine zL rfl ?_|refine zM rfl ?_))
   rw [hn2]
   refine RO.sta (sta_call rfl rfl (ih (d - k) (by omega) (by omega) (by omega) _)) rfl ?_
   have hus := monU_succ (m + 1) d k
   generalize hR : monZ (m + 1) (d - k) = R at hfr hus
   (repeat(first|refine zA ?_|refine zB ?_|refine zE rfl (by decide) rfl ?_|refine zF ?_|refine zG ?_|refine zH ?_|refine zI ?_|refine zJ ?_|refine zK ?_|refine zL rfl ?_|refine zM rfl ?_))
   refine DW.loopG (fun z : Nat × Heap × D => z.1 ≤ R.length ∧ Acc H z.2.1 z.2.2 1 24 ((monU (m + 1) d k ++ (R.take z.1).map fun e => (k : Int) :: e).map intsD) ∧ Over H z.2.1) (fun z => [(0, I ((m + 1 + 1 : Nat) : Int)), (1, I d), (5, z.2.2), (6, I k), (7, intssD R), (8, I z.1)]) (fun z => z.2.1) (fun z => R.length - z.1) (0, Hk, dk)
    ⟨Nat.zero_le _, by simpa using hak, hok⟩ (Heap.sub_refl _) (by repeat first | exact trivial | refine HasG.one rfl ?_ | refine HasN.one rfl ?_) fun ⟨i, Hi, di⟩ ⟨hi, hai, hoi⟩ => ?_
   dsimp only at hi hai hoi ⊢
   (repeat(first|refine zA ?_|refine zB ?_|refine zE rfl (by decide) rfl ?_|refine zF ?_|refine zG ?_|refine zH ?_|refine zI ?_|refine zJ ?_|refine zK ?_|refine zL rfl ?_|refine zM rfl ?_))
   refine DW.cond rfl (fun hb => ?_) (fun hb => ?_)
   ·have hil : i < R.length := by have := of_decide_eq_true hb; omega
    clear hb
    have hel : R[i].length = m + 1 := by
     have hx := List.getElem_mem hil
     have hy : R[i] ∈ monZ (m + 1) (d - k) := by rw [hR]; exact hx
     exact ((monZ_mem (by omega)).1 hy).1.len
    refine DW.skip ?_
    refine DW.seq (DW.block (DW.regionF 8 ?_))
    dsimp only [List.take, List.drop]
    refine RO.sta (sta_move rfl) rfl ?_
    refine RO.sta (sta_move rfl) rfl ?_
    refine RO.dyn rfl (d_lit1 rfl rfl rfl fun bL hbL => ?_)
    (repeat(first|refine zC ?_|refine zD ?_|refine zE rfl (by decide) rfl ?_))
    refine RO.dyn rfl (d_append (H0 := Hi) (l := [I k]) (xs := R[i].map I) rfl ⟨uni_I [(k : Int)], .inr ⟨bL, hbL, rfl, Heap.set_self _ _ _⟩⟩ ((Over.refl Hi).set hbL) rfl (.inl rfl) (uni_I _) (by simp; omega) (by simp; omega) fun dr Hr r1 r2 r3 => ?_)
    refine RO.nil ⟨[(0, I ((m + 1 + 1 : Nat) : Int)), (1, I d), (6, I k), (7, intssD R), (8, I i), (33, di), (40, intsD ((k : Int) :: R[i]))], Hi, r2, ?_, ?_⟩
    ·(repeat refine HasG.one rfl ?_)
     exact ⟨⟨dr, rfl, r1.done⟩, trivial⟩
    (repeat(first|refine zC ?_|refine zD ?_|refine zE rfl (by decide) rfl ?_))
    refine RO.dyn rfl (d_append (H0 := H) (l := (monU (m + 1) d k ++ (R.take i).map fun e => (k : Int) :: e).map intsD) (xs := [intsD ((k : Int) :: R[i])]) rfl hai hoi rfl (.inl rfl) (uni_ints [(k : Int) :: R[i]]) (by simp; omega) (by simp; omega) fun d' H' q1 q2 q3 => ?_)
    (repeat(first|refine zC ?_|refine zD ?_|refine zE rfl (by decide) rfl ?_))
    refine RO.nil ?_
    (repeat(first|refine zA ?_|refine zB ?_|refine zE rfl (by decide) rfl ?_|refine zF ?_|refine zG ?_|refine zH ?_|refine zI ?_|refine zJ ?_|refine zK ?_|refine zL rfl ?_|refine zM rfl ?_))
    refine ⟨(i + 1, H', d'), ⟨hil, ?_, q2⟩, by dsimp only; omega, Heap.sub_refl _, (by repeat first | exact trivial | refine HasG.one rfl ?_ | refine HasN.one rfl ?_)⟩
    dsimp only
    have hx : ((monU (m + 1) d k ++ (R.take (i + 1)).map fun e => (k : Int) :: e).map intsD) = ((monU (m + 1) d k ++ (R.take i).map fun e => (k : Int) :: e).map intsD) ++ [intsD ((k : Int) :: R[i])] := by
     rw [List.take_succ_eq_append_getElem hil]
     simp only [List.map_append, List.append_assoc, List.map_cons, List.map_nil]
    rw [hx]
    exact q1
   ·have hie : i = R.length := by have := of_decide_eq_false hb; omega
    subst hie
    clear hb
    rw [List.take_length, ← hus] at hai
    (repeat(first|refine zA ?_|refine zB ?_|refine zE rfl (by decide) rfl ?_|refine zF ?_|refine zG ?_|refine zH ?_|refine zI ?_|refine zJ ?_|refine zK ?_|refine zL rfl ?_|refine zM rfl ?_))
    exact ⟨(k + 1, Hi, di), ⟨by dsimp only; omega, hai, hoi⟩, by dsimp only; omega, Heap.sub_refl _, (by repeat first | exact trivial | refine HasG.one rfl ?_ | refine HasN.one rfl ?_)⟩
  ·have hge : ¬ (k : Int) ≤ d := of_decide_eq_false hb
   have hke : k = d.toNat + 1 := by omega
   subst hke
   clear hb
   (repeat(first|refine zA ?_|refine zB ?_|refine zE rfl (by decide) rfl ?_|refine zF ?_|refine zG ?_|refine zH ?_|refine zI ?_|refine zJ ?_|refine zK ?_|refine zL rfl ?_|refine zM rfl ?_))
   exact DW.ret ⟨.inl rfl, _, rfl, hok, hak.done⟩
end
section
open Go.RowKit
set_option maxHeartbeats 4000000

theorem CheckRing_pure (r : Rg) : Pure Tryz.prog 54 [rgD r] (I (ringCk r)) := by
 intro H
 refine PureH.of_body Tryz.func54 rfl (by decide) (Nat.le_of_ble_eq_true rfl) fun w0 => ?_
 (repeat(first|refine zC ?_|refine zD ?_|refine zE rfl (by decide) rfl ?_|refine zF ?_|refine zG ?_|refine zH ?_|refine zI ?_|refine zJ ?_|refine zK ?_|refine zL rfl ?_|refine zM rfl ?_))
 refine RO.sta (sta_call rfl rfl (checkPrime_pure _ _)) rfl ?_
 (repeat(first|refine zC ?_|refine zD ?_|refine zE rfl (by decide) rfl ?_|refine zF ?_|refine zG ?_|refine zH ?_|refine zI ?_|refine zJ ?_|refine zK ?_|refine zL rfl ?_|refine zM rfl ?_))
 refine DW.cond rfl (fun hb => ?_) (fun hb => ?_)
 ·have h : ¬ ckP r.p = 0 := by simpa using hb
  have : ringCk r = ckP r.p := by unfold ringCk; rw [if_neg h]
  rw [this]
  (repeat(first|refine zC ?_|refine zD ?_|refine zE rfl (by decide) rfl ?_|refine zF ?_|refine zG ?_|refine zH ?_|refine zI ?_|refine zJ ?_|refine zK ?_|refine zL rfl ?_|refine zM rfl ?_))
  exact DW.ret ⟨.inl rfl, _, rfl, Over.refl _, .same _⟩
 ·have h : ckP r.p = 0 := by simpa using hb
  (repeat(first|refine zC ?_|refine zD ?_|refine zE rfl (by decide) rfl ?_|refine zF ?_|refine zG ?_|refine zH ?_|refine zI ?_|refine zJ ?_|refine zK ?_|refine zL rfl ?_|refine zM rfl ?_))
  refine RO.sta (sta_call rfl rfl (between_pure _ _ _ _)) rfl ?_
  (repeat(first|refine zC ?_|refine zD ?_|refine zE rfl (by decide) rfl ?_|refine zF ?_|refine zG ?_|refine zH ?_|refine zI ?_|refine zJ ?_|refine zK ?_|refine zL rfl ?_|refine zM rfl ?_))
  refine DW.cond rfl (fun hb => ?_) (fun hb => ?_)
  ·have : ringCk r = 3 := ringCk_3 h (by simp at hb; omega)
   rw [this]
   (repeat(first|refine zC ?_|refine zD ?_|refine zE rfl (by decide) rfl ?_|refine zF ?_|refine zG ?_|refine zH ?_|refine zI ?_|refine zJ ?_|refine zK ?_|refine zL rfl ?_|refine zM rfl ?_))
   exact DW.ret ⟨.inl rfl, _, rfl, Over.refl _, .same _⟩
  ·have hn : 1 ≤ r.n ∧ r.n ≤ 3 := by simp at hb; omega
   (repeat(first|refine zC ?_|refine zD ?_|refine zE rfl (by decide) rfl ?_|refine zF ?_|refine zG ?_|refine zH ?_|refine zI ?_|refine zJ ?_|refine zK ?_|refine zL rfl ?_|refine zM rfl ?_))
   refine RO.sta (sta_call rfl rfl (between_pure _ _ _ _)) rfl ?_
   (repeat(first|refine zC ?_|refine zD ?_|refine zE rfl (by decide) rfl ?_|refine zF ?_|refine zG ?_|refine zH ?_|refine zI ?_|refine zJ ?_|refine zK ?_|refine zL rfl ?_|refine zM rfl ?_))
   cases hc : (decide (1 ≤ r.order) && decide (r.order ≤ 2))
   ·rw [ringCk_6 h hn (by simp at hc; omega)]
    (repeat(first|refine zC ?_|refine zD ?_|refine zE rfl (by decide) rfl ?_|refine zF ?_|refine zG ?_|refine zH ?_|refine zI ?_|refine zJ ?_|refine zK ?_|refine zL rfl ?_|refine zM rfl ?_))
    exact DW.ret ⟨.inl rfl, _, rfl, Over.refl _, .same _⟩
   ·(repeat(first|refine zC ?_|refine zD ?_|refine zE rfl (by decide) rfl ?_|refine zF ?_|refine zG ?_|refine zH ?_|refine zI ?_|refine zJ ?_|refine zK ?_|refine zL rfl ?_|refine zM rfl ?_))
    refine RO.yes rfl rfl (OpD.of_sta (sta_call rfl rfl (between_pure _ _ _ _)) ?_)
    (repeat(first|refine zC ?_|refine zD ?_|refine zE rfl (by decide) rfl ?_|refine zF ?_|refine zG ?_|refine zH ?_|refine zI ?_|refine zJ ?_|refine zK ?_|refine zL rfl ?_|refine zM rfl ?_))
    refine DW.cond rfl (fun hb => ?_) (fun hb => ?_)
    ·rw [ringCk_6 h hn (by simp at hc hb; omega)]
     (repeat(first|refine zC ?_|refine zD ?_|refine zE rfl (by decide) rfl ?_|refine zF ?_|refine zG ?_|refine zH ?_|refine zI ?_|refine zJ ?_|refine zK ?_|refine zL rfl ?_|refine zM rfl ?_))
     exact DW.ret ⟨.inl rfl, _, rfl, Over.refl _, .same _⟩
    ·rw [ringCk_0 h hn (by simp at hc hb; omega)]
     (repeat(first|refine zC ?_|refine zD ?_|refine zE rfl (by decide) rfl ?_|refine zF ?_|refine zG ?_|refine zH ?_|refine zI ?_|refine zJ ?_|refine zK ?_|refine zL rfl ?_|refine zM rfl ?_))
     exact DW.ret ⟨.inl rfl, _, rfl, Over.refl _, .same _⟩

theorem DegreeOf_pure {e : List Int} (h : MOk e) : Pure Tryz.prog 38 [intsD e] (I e.sum) := by
 intro H
 refine PureH.of_body Tryz.func38 rfl (by decide) (Nat.le_of_ble_eq_true rfl) fun w0 => ?_
 (repeat(first|refine zC ?_|refine zD ?_|refine zE rfl (by decide) rfl ?_|refine zF ?_|refine zG ?_|refine zH ?_|refine zI ?_|refine zJ ?_|refine zK ?_|refine zL rfl ?_|refine zM rfl ?_))
 refine DW.loopI (fun k : Nat => k ≤ e.length) (fun k => [(0, intsD e), (4, I k), (3, I (e.take k).sum)]) (fun _ => H) (fun k => e.length - k) 0 (Nat.zero_le _) rfl ⟨rfl, rfl, rfl, trivial⟩ fun k hk => ?_
 have hl := h.len
 have hs := (h.take k).sum
 (repeat(first|refine zC ?_|refine zD ?_|refine zE rfl (by decide) rfl ?_|refine zF ?_|refine zG ?_|refine zH ?_|refine zI ?_|refine zJ ?_|refine zK ?_|refine zL rfl ?_|refine zM rfl ?_))
 refine DW.cond rfl (fun hb => ?_) (fun hb => ?_)
 ·have hlt : k < e.length := by have := of_decide_eq_true hb; omega
  have hx := h.at hlt
  (repeat(first|refine zC ?_|refine zD ?_|refine zE rfl (by decide) rfl ?_|refine zF ?_|refine zG ?_|refine zH ?_|refine zI ?_|refine zJ ?_|refine zK ?_|refine zL rfl ?_|refine zM rfl ?_))
  rw [← sum_take_succ e hlt]
  exact ⟨k + 1, hlt, by dsimp only; omega, rfl, rfl, rfl, rfl, trivial⟩
 ·have hge : k = e.length := by have := of_decide_eq_false hb; omega
  subst hge
  (repeat(first|refine zC ?_|refine zD ?_|refine zE rfl (by decide) rfl ?_|refine zF ?_|refine zG ?_|refine zH ?_|refine zI ?_|refine zJ ?_|refine zK ?_|refine zL rfl ?_|refine zM rfl ?_))
  rw [List.take_length]
  exact DW.ret ⟨.inl rfl, _, rfl, Over.refl _, .same _⟩

theorem CheckMono_pure (r : Rg) (e : List Int) (hr : r.n ≤ 3) : Pure Tryz.prog 96 [rgD r, intsD e] (I (monoCk r e)) := by
 intro H
 refine PureH.of_body Tryz.func96 rfl (by decide) (Nat.le_of_ble_eq_true rfl) fun w0 => ?_
 (repeat(first|refine zC ?_|refine zD ?_|refine zE rfl (by decide) rfl ?_|refine zF ?_|refine zG ?_|refine zH ?_|refine zI ?_|refine zJ ?_|refine zK ?_|refine zL rfl ?_|refine zM rfl ?_))
 refine DW.cond rfl (fun hb => ?_) (fun hb => ?_)
 ·have h : ¬ (e.length : Int) = r.n := by simp at hb; exact hb
  have : monoCk r e = 1 := by unfold monoCk; rw [if_neg h]
  rw [this]
  (repeat(first|refine zC ?_|refine zD ?_|refine zE rfl (by decide) rfl ?_|refine zF ?_|refine zG ?_|refine zH ?_|refine zI ?_|refine zJ ?_|refine zK ?_|refine zL rfl ?_|refine zM rfl ?_))
  exact DW.ret ⟨.inl rfl, _, rfl, Over.refl _, .same _⟩
 ·have h : (e.length : Int) = r.n := by simp at hb; exact hb
  have hl : e.length ≤ 3 := by omega
  (repeat(first|refine zC ?_|refine zD ?_|refine zE rfl (by decide) rfl ?_|refine zF ?_|refine zG ?_|refine zH ?_|refine zI ?_|refine zJ ?_|refine zK ?_|refine zL rfl ?_|refine zM rfl ?_))
  refine DW.loopI (fun k : Nat => k ≤ e.length ∧ (e.take k).all inE = true) (fun k => [(1, intsD e), (5, I k)]) (fun _ => H) (fun k => e.length - k) 0 ⟨Nat.zero_le _, rfl⟩ rfl ⟨rfl, rfl, trivial⟩ fun k ⟨hk, ha⟩ => ?_
  (repeat(first|refine zC ?_|refine zD ?_|refine zE rfl (by decide) rfl ?_|refine zF ?_|refine zG ?_|refine zH ?_|refine zI ?_|refine zJ ?_|refine zK ?_|refine zL rfl ?_|refine zM rfl ?_))
  refine DW.cond rfl (fun hb => ?_) (fun hb => ?_)
  ·have hlt : k < e.length := by have := of_decide_eq_true hb; omega
   (repeat(first|refine zC ?_|refine zD ?_|refine zE rfl (by decide) rfl ?_|refine zF ?_|refine zG ?_|refine zH ?_|refine zI ?_|refine zJ ?_|refine zK ?_|refine zL rfl ?_|refine zM rfl ?_))
   refine RO.sta (sta_call rfl rfl (between_pure _ _ _ _)) rfl ?_
   (repeat(first|refine zC ?_|refine zD ?_|refine zE rfl (by decide) rfl ?_|refine zF ?_|refine zG ?_|refine zH ?_|refine zI ?_|refine zJ ?_|refine zK ?_|refine zL rfl ?_|refine zM rfl ?_))
   refine DW.cond rfl (fun hb => ?_) (fun hb => ?_)
   ·have hc1 : inE e[k] = false := by simp [inE]; simp at hb; omega
    have : monoCk r e = 3 := by
     unfold monoCk
     rw [if_pos h, if_neg]
     intro hh
     simp only [Bool.and_eq_true] at hh
     have := List.all_eq_true.1 hh.1 _ (List.getElem_mem hlt)
     rw [hc1] at this; cases this
    rw [this]
    (repeat(first|refine zC ?_|refine zD ?_|refine zE rfl (by decide) rfl ?_|refine zF ?_|refine zG ?_|refine zH ?_|refine zI ?_|refine zJ ?_|refine zK ?_|refine zL rfl ?_|refine zM rfl ?_))
    exact DW.ret ⟨.inl rfl, _, rfl, Over.refl _, .same _⟩
   ·have hc1 : inE e[k] = true := by simpa [inE] using hb
    (repeat(first|refine zC ?_|refine zD ?_|refine zE rfl (by decide) rfl ?_|refine zF ?_|refine zG ?_|refine zH ?_|refine zI ?_|refine zJ ?_|refine zK ?_|refine zL rfl ?_|refine zM rfl ?_))
    refine ⟨k + 1, ⟨hlt, ?_⟩, by dsimp only; omega, rfl, rfl, rfl, trivial⟩
    rw [List.take_succ_eq_append_getElem hlt, List.all_append, ha]
    simp [hc1]
  ·have hge : k = e.length := by have := of_decide_eq_false hb; omega
   subst hge
   rw [List.take_length] at ha
   have hok : MOk e := ⟨hl, fun x hx => by have := inE_iff.1 (List.all_eq_true.1 ha x hx); omega⟩
   (repeat(first|refine zC ?_|refine zD ?_|refine zE rfl (by decide) rfl ?_|refine zF ?_|refine zG ?_|refine zH ?_|refine zI ?_|refine zJ ?_|refine zK ?_|refine zL rfl ?_|refine zM rfl ?_))
   refine RO.sta (sta_call rfl rfl (DegreeOf_pure hok _)) rfl ?_
   (repeat(first|refine zC ?_|refine zD ?_|refine zE rfl (by decide) rfl ?_|refine zF ?_|refine zG ?_|refine zH ?_|refine zI ?_|refine zJ ?_|refine zK ?_|refine zL rfl ?_|refine zM rfl ?_))
   refine DW.cond rfl (fun hb => ?_) (fun hb => ?_)
   ·have : monoCk r e = 3 := by
     unfold monoCk
     rw [if_pos h, if_neg]
     rw [ha]; simp at hb ⊢; exact hb
    rw [this]
    (repeat(first|refine zC ?_|refine zD ?_|refine zE rfl (by decide) rfl ?_|refine zF ?_|refine zG ?_|refine zH ?_|refine zI ?_|refine zJ ?_|refine zK ?_|refine zL rfl ?_|refine zM rfl ?_))
    exact DW.ret ⟨.inl rfl, _, rfl, Over.refl _, .same _⟩
   ·have : monoCk r e = 0 := by
     unfold monoCk
     rw [if_pos h, if_pos]
     rw [ha]; simp at hb ⊢; exact hb
    rw [this]
    (repeat(first|refine zC ?_|refine zD ?_|refine zE rfl (by decide) rfl ?_|refine zF ?_|refine zG ?_|refine zH ?_|refine zI ?_|refine zJ ?_|refine zK ?_|refine zL rfl ?_|refine zM rfl ?_))
    exact DW.ret ⟨.inl rfl, _, rfl, Over.refl _, .same _⟩

theorem SameInts_pure (a b : List Int) (hl : a.length ≤ 1000000000000000000) : Pure Tryz.prog 26 [intsD a, intsD b] (.bool (a == b)) := by
 intro H
 refine PureH.of_body Tryz.func26 rfl (by decide) (Nat.le_of_ble_eq_true rfl) fun w0 => ?_
 (repeat(first|refine zC ?_|refine zD ?_|refine zE rfl (by decide) rfl ?_|refine zF ?_|refine zG ?_|refine zH ?_|refine zI ?_|refine zJ ?_|refine zK ?_|refine zL rfl ?_|refine zM rfl ?_))
 refine DW.cond rfl (fun hb => ?_) (fun hb => ?_)
 ·have h : a.length ≠ b.length := by simp at hb; omega
  have : (a == b) = false := by
   rw [beq_eq_false_iff_ne]
   intro hh
   rw [hh] at h
   exact h rfl
  rw [this]
  (repeat(first|refine zC ?_|refine zD ?_|refine zE rfl (by decide) rfl ?_|refine zF ?_|refine zG ?_|refine zH ?_|refine zI ?_|refine zJ ?_|refine zK ?_|refine zL rfl ?_|refine zM rfl ?_))
  exact DW.ret ⟨.inl rfl, _, rfl, Over.refl _, .same _⟩
 ·have h : a.length = b.length := by simp at hb; omega
  (repeat(first|refine zC ?_|refine zD ?_|refine zE rfl (by decide) rfl ?_|refine zF ?_|refine zG ?_|refine zH ?_|refine zI ?_|refine zJ ?_|refine zK ?_|refine zL rfl ?_|refine zM rfl ?_))
  refine DW.loopI (fun k : Nat => k ≤ a.length ∧ a.take k = b.take k) (fun k => [(0, intsD a), (1, intsD b), (5, I k)]) (fun _ => H) (fun k => a.length - k) 0 ⟨Nat.zero_le _, rfl⟩ rfl ⟨rfl, rfl, rfl, trivial⟩ fun k ⟨hk, hg⟩ => ?_
  (repeat(first|refine zC ?_|refine zD ?_|refine zE rfl (by decide) rfl ?_|refine zF ?_|refine zG ?_|refine zH ?_|refine zI ?_|refine zJ ?_|refine zK ?_|refine zL rfl ?_|refine zM rfl ?_))
  refine DW.cond rfl (fun hb => ?_) (fun hb => ?_)
  ·have hlt : k < a.length := by have := of_decide_eq_true hb; omega
   have hlt2 : k < b.length := by omega
   (repeat(first|refine zC ?_|refine zD ?_|refine zE rfl (by decide) rfl ?_|refine zF ?_|refine zG ?_|refine zH ?_|refine zI ?_|refine zJ ?_|refine zK ?_|refine zL rfl ?_|refine zM rfl ?_))
   refine DW.drawS 9 Tryz.mixed (by kernel_rfl) (by decide) ?_
   dsimp only [List.take, List.drop]
   (repeat(first|refine zP ?_|refine zQ ?_|refine zR rfl (by decide) rfl ?_|refine zS ?_))
   (repeat(first|refine zC ?_|refine zD ?_|refine zE rfl (by decide) rfl ?_|refine zF ?_|refine zG ?_|refine zH ?_|refine zI ?_|refine zJ ?_|refine zK ?_|refine zL rfl ?_|refine zM rfl ?_))
   refine DW.cond rfl (fun hb => ?_) (fun hb => ?_)
   ·have hc : a[k] ≠ b[k] := by simpa using hb
    have : (a == b) = false := by
     rw [beq_eq_false_iff_ne]
     intro hh
     subst hh
     exact hc rfl
    rw [this]
    (repeat(first|refine zC ?_|refine zD ?_|refine zE rfl (by decide) rfl ?_|refine zF ?_|refine zG ?_|refine zH ?_|refine zI ?_|refine zJ ?_|refine zK ?_|refine zL rfl ?_|refine zM rfl ?_))
    exact DW.ret ⟨.inl rfl, _, rfl, Over.refl _, .same _⟩
   ·have hc : a[k] = b[k] := by simpa using hb
    (repeat(first|refine zC ?_|refine zD ?_|refine zE rfl (by decide) rfl ?_|refine zF ?_|refine zG ?_|refine zH ?_|refine zI ?_|refine zJ ?_|refine zK ?_|refine zL rfl ?_|refine zM rfl ?_))
    refine ⟨k + 1, ⟨hlt, ?_⟩, by dsimp only; omega, rfl, rfl, rfl, rfl, trivial⟩
    rw [List.take_succ_eq_append_getElem hlt, List.take_succ_eq_append_getElem hlt2, hg, hc]
  ·have hge : k = a.length := by have := of_decide_eq_false hb; omega
   subst hge
   rw [List.take_length, h, List.take_length] at hg
   have : (a == b) = true := by rw [hg]; simp
   rw [this]
   (repeat(first|refine zC ?_|refine zD ?_|refine zE rfl (by decide) rfl ?_|refine zF ?_|refine zG ?_|refine zH ?_|refine zI ?_|refine zJ ?_|refine zK ?_|refine zL rfl ?_|refine zM rfl ?_))
   exact DW.ret ⟨.inl rfl, _, rfl, Over.refl _, .same _⟩
end
end Go.Proofs.YtfjmdhemlfafbaaGreat
