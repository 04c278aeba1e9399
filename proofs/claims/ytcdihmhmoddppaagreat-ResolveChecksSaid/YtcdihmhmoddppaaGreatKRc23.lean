/-
  The law's term, vectorIs, vectorBegun. No condition.
-/
import Derived.Test.YtcdihmhmoddppaaGreatKRc22
import Derived.Test.YtcdihmhmoddppaaGreatKRc15
import Derived.Test.YtcdihmhmoddppaaGreatKRc18
import Derived.Test.YtcdihmhmoddppaaGreatKRc17
import Derived.Test.YtcdihmhmoddppaaGreatKRc5
import Derived.Test.YtcdihmhmoddppaaGreatKRc10

namespace Go.Proofs.YtcdihmhmoddppaaGreat
open Go.RowKit
set_option linter.unusedVariables false
set_option linter.unusedSimpArgs false
set_option maxHeartbeats 8000000

theorem First_pure (r : Rg) (i k : Int) {a b : List Int} (ha : MOk a) (hb : MOk b) (hab : a.length = b.length) : Pure Tryz.prog 113 [rgD r, I i, intsD a, I k, intsD b] (.bool (firstT r i a k b)) := by
  intro H
  refine PureH.of_body Tryz.func113 rfl (by decide) (Nat.le_of_ble_eq_true rfl) fun w0 => ?_
  (repeat (first | refine RO.Sv ?_ | refine RO.Yv ?_ | refine RO.no rfl (by decide) rfl ?_ | refine RO.nil ?_ | refine DW.region ?_ | refine DW.seq ?_ | refine DW.block ?_ | refine DW.skip ?_ | refine DW.exit ?_ | refine DW.condT rfl ?_ | refine DW.condF rfl ?_))
  refine RO.sta (sta_call rfl rfl (Compare_pure r ha hb hab _)) rfl ?_
  (repeat (first | refine RO.Sv ?_ | refine RO.Yv ?_ | refine RO.no rfl (by decide) rfl ?_ | refine RO.nil ?_ | refine DW.region ?_ | refine DW.seq ?_ | refine DW.block ?_ | refine DW.skip ?_ | refine DW.exit ?_ | refine DW.condT rfl ?_ | refine DW.condF rfl ?_))
  unfold firstT
  cases h1 : (r.over == 2)
  case true =>
    (repeat (first | refine RO.Sv ?_ | refine RO.Yv ?_ | refine RO.no rfl (by decide) rfl ?_ | refine RO.nil ?_ | refine DW.region ?_ | refine DW.seq ?_ | refine DW.block ?_ | refine DW.skip ?_ | refine DW.exit ?_ | refine DW.condT rfl ?_ | refine DW.condF rfl ?_))
    cases h2 : (i != k)
    case true =>
      rw [if_pos (.inl ⟨by simpa using h1, by simpa using h2⟩)]
      (repeat (first | refine RO.Sv ?_ | refine RO.Yv ?_ | refine RO.no rfl (by decide) rfl ?_ | refine RO.nil ?_ | refine DW.region ?_ | refine DW.seq ?_ | refine DW.block ?_ | refine DW.skip ?_ | refine DW.exit ?_ | refine DW.condT rfl ?_ | refine DW.condF rfl ?_))
      exact DW.ret ⟨.inl rfl, _, rfl, Over.refl _, .same _⟩
    (repeat (first | refine RO.Sv ?_ | refine RO.Yv ?_ | refine RO.no rfl (by decide) rfl ?_ | refine RO.nil ?_ | refine DW.region ?_ | refine DW.seq ?_ | refine DW.block ?_ | refine DW.skip ?_ | refine DW.exit ?_ | refine DW.condT rfl ?_ | refine DW.condF rfl ?_))
    cases h3 : (cmpM r.order a b == 0)
    case true =>
      rw [if_pos (.inr (by simpa using h3))]
      (repeat (first | refine RO.Sv ?_ | refine RO.Yv ?_ | refine RO.no rfl (by decide) rfl ?_ | refine RO.nil ?_ | refine DW.region ?_ | refine DW.seq ?_ | refine DW.block ?_ | refine DW.skip ?_ | refine DW.exit ?_ | refine DW.condT rfl ?_ | refine DW.condF rfl ?_))
      exact DW.ret ⟨.inl rfl, _, rfl, Over.refl _, .same _⟩
    rw [if_neg (by simp at h2 h3; simp [h2, h3])]
    (repeat (first | refine RO.Sv ?_ | refine RO.Yv ?_ | refine RO.no rfl (by decide) rfl ?_ | refine RO.nil ?_ | refine DW.region ?_ | refine DW.seq ?_ | refine DW.block ?_ | refine DW.skip ?_ | refine DW.exit ?_ | refine DW.condT rfl ?_ | refine DW.condF rfl ?_))
    exact DW.ret ⟨.inl rfl, _, rfl, Over.refl _, .same _⟩
  (repeat (first | refine RO.Sv ?_ | refine RO.Yv ?_ | refine RO.no rfl (by decide) rfl ?_ | refine RO.nil ?_ | refine DW.region ?_ | refine DW.seq ?_ | refine DW.block ?_ | refine DW.skip ?_ | refine DW.exit ?_ | refine DW.condT rfl ?_ | refine DW.condF rfl ?_))
  cases h3 : (cmpM r.order a b == 0)
  case true =>
    rw [if_pos (.inr (by simpa using h3))]
    (repeat (first | refine RO.Sv ?_ | refine RO.Yv ?_ | refine RO.no rfl (by decide) rfl ?_ | refine RO.nil ?_ | refine DW.region ?_ | refine DW.seq ?_ | refine DW.block ?_ | refine DW.skip ?_ | refine DW.exit ?_ | refine DW.condT rfl ?_ | refine DW.condF rfl ?_))
    exact DW.ret ⟨.inl rfl, _, rfl, Over.refl _, .same _⟩
  rw [if_neg (by simp at h1 h3; simp [h1, h3])]
  (repeat (first | refine RO.Sv ?_ | refine RO.Yv ?_ | refine RO.no rfl (by decide) rfl ?_ | refine RO.nil ?_ | refine DW.region ?_ | refine DW.seq ?_ | refine DW.block ?_ | refine DW.skip ?_ | refine DW.exit ?_ | refine DW.condT rfl ?_ | refine DW.condF rfl ?_))
  exact DW.ret ⟨.inl rfl, _, rfl, Over.refl _, .same _⟩

theorem Ahead_pure (r : Rg) (i k : Int) {a b : List Int} (ha : MOk a) (hb : MOk b) (hab : a.length = b.length) : Pure Tryz.prog 56 [rgD r, I i, intsD a, I k, intsD b] (.bool (firstT r i a k b)) := by
  intro H
  refine PureH.of_body Tryz.func56 rfl (by decide) (Nat.le_of_ble_eq_true rfl) fun w0 => ?_
  have hsame : (a == b) = (cmpM r.order a b == 0) := by
    rw [Bool.eq_iff_iff]
    simp only [beq_iff_eq]
    exact ⟨fun h => by rw [h]; exact cmpM_self _ _, fun h => cmpM_zero hab h⟩
  have al := ha.len
  unfold firstT
  (repeat (first | refine RO.Sv ?_ | refine RO.Yv ?_ | refine RO.no rfl (by decide) rfl ?_ | refine RO.nil ?_ | refine DW.region ?_ | refine DW.seq ?_ | refine DW.block ?_ | refine DW.skip ?_ | refine DW.exit ?_ | refine DW.condT rfl ?_ | refine DW.condF rfl ?_))
  cases h1 : (r.over == 2)
  case true =>
    (repeat (first | refine RO.Sv ?_ | refine RO.Yv ?_ | refine RO.no rfl (by decide) rfl ?_ | refine RO.nil ?_ | refine DW.region ?_ | refine DW.seq ?_ | refine DW.block ?_ | refine DW.skip ?_ | refine DW.exit ?_ | refine DW.condT rfl ?_ | refine DW.condF rfl ?_))
    cases h2 : (i != k)
    case true =>
      rw [if_pos (.inl ⟨by simpa using h1, by simpa using h2⟩)]
      (repeat (first | refine RO.Sv ?_ | refine RO.Yv ?_ | refine RO.no rfl (by decide) rfl ?_ | refine RO.nil ?_ | refine DW.region ?_ | refine DW.seq ?_ | refine DW.block ?_ | refine DW.skip ?_ | refine DW.exit ?_ | refine DW.condT rfl ?_ | refine DW.condF rfl ?_))
      exact DW.ret ⟨.inl rfl, _, rfl, Over.refl _, .same _⟩
    (repeat (first | refine RO.Sv ?_ | refine RO.Yv ?_ | refine RO.no rfl (by decide) rfl ?_ | refine RO.nil ?_ | refine DW.region ?_ | refine DW.seq ?_ | refine DW.block ?_ | refine DW.skip ?_ | refine DW.exit ?_ | refine DW.condT rfl ?_ | refine DW.condF rfl ?_))
    refine RO.sta (sta_call rfl rfl (SameInts_pure a b (by omega) _)) rfl ?_
    rw [hsame]
    (repeat (first | refine RO.Sv ?_ | refine RO.Yv ?_ | refine RO.no rfl (by decide) rfl ?_ | refine RO.nil ?_ | refine DW.region ?_ | refine DW.seq ?_ | refine DW.block ?_ | refine DW.skip ?_ | refine DW.exit ?_ | refine DW.condT rfl ?_ | refine DW.condF rfl ?_))
    cases h3 : (cmpM r.order a b == 0)
    case true =>
      rw [if_pos (.inr (by simpa using h3))]
      (repeat (first | refine RO.Sv ?_ | refine RO.Yv ?_ | refine RO.no rfl (by decide) rfl ?_ | refine RO.nil ?_ | refine DW.region ?_ | refine DW.seq ?_ | refine DW.block ?_ | refine DW.skip ?_ | refine DW.exit ?_ | refine DW.condT rfl ?_ | refine DW.condF rfl ?_))
      exact DW.ret ⟨.inl rfl, _, rfl, Over.refl _, .same _⟩
    rw [if_neg (by simp at h2 h3; simp [h2, h3])]
    (repeat (first | refine RO.Sv ?_ | refine RO.Yv ?_ | refine RO.no rfl (by decide) rfl ?_ | refine RO.nil ?_ | refine DW.region ?_ | refine DW.seq ?_ | refine DW.block ?_ | refine DW.skip ?_ | refine DW.exit ?_ | refine DW.condT rfl ?_ | refine DW.condF rfl ?_))
    refine RO.sta (sta_call rfl rfl (More_pure r ha hb hab _)) rfl ?_
    (repeat (first | refine RO.Sv ?_ | refine RO.Yv ?_ | refine RO.no rfl (by decide) rfl ?_ | refine RO.nil ?_ | refine DW.region ?_ | refine DW.seq ?_ | refine DW.block ?_ | refine DW.skip ?_ | refine DW.exit ?_ | refine DW.condT rfl ?_ | refine DW.condF rfl ?_))
    exact DW.ret ⟨.inl rfl, _, rfl, Over.refl _, .same _⟩
  (repeat (first | refine RO.Sv ?_ | refine RO.Yv ?_ | refine RO.no rfl (by decide) rfl ?_ | refine RO.nil ?_ | refine DW.region ?_ | refine DW.seq ?_ | refine DW.block ?_ | refine DW.skip ?_ | refine DW.exit ?_ | refine DW.condT rfl ?_ | refine DW.condF rfl ?_))
  refine RO.sta (sta_call rfl rfl (SameInts_pure a b (by omega) _)) rfl ?_
  rw [hsame]
  (repeat (first | refine RO.Sv ?_ | refine RO.Yv ?_ | refine RO.no rfl (by decide) rfl ?_ | refine RO.nil ?_ | refine DW.region ?_ | refine DW.seq ?_ | refine DW.block ?_ | refine DW.skip ?_ | refine DW.exit ?_ | refine DW.condT rfl ?_ | refine DW.condF rfl ?_))
  cases h3 : (cmpM r.order a b == 0)
  case true =>
    rw [if_pos (.inr (by simpa using h3))]
    (repeat (first | refine RO.Sv ?_ | refine RO.Yv ?_ | refine RO.no rfl (by decide) rfl ?_ | refine RO.nil ?_ | refine DW.region ?_ | refine DW.seq ?_ | refine DW.block ?_ | refine DW.skip ?_ | refine DW.exit ?_ | refine DW.condT rfl ?_ | refine DW.condF rfl ?_))
    exact DW.ret ⟨.inl rfl, _, rfl, Over.refl _, .same _⟩
  rw [if_neg (by simp at h1 h3; simp [h1, h3])]
  (repeat (first | refine RO.Sv ?_ | refine RO.Yv ?_ | refine RO.no rfl (by decide) rfl ?_ | refine RO.nil ?_ | refine DW.region ?_ | refine DW.seq ?_ | refine DW.block ?_ | refine DW.skip ?_ | refine DW.exit ?_ | refine DW.condT rfl ?_ | refine DW.condF rfl ?_))
  refine RO.sta (sta_call rfl rfl (More_pure r ha hb hab _)) rfl ?_
  (repeat (first | refine RO.Sv ?_ | refine RO.Yv ?_ | refine RO.no rfl (by decide) rfl ?_ | refine RO.nil ?_ | refine DW.region ?_ | refine DW.seq ?_ | refine DW.block ?_ | refine DW.skip ?_ | refine DW.exit ?_ | refine DW.condT rfl ?_ | refine DW.condF rfl ?_))
  exact DW.ret ⟨.inl rfl, _, rfl, Over.refl _, .same _⟩

def leadD (x : Option (Nat × Tm)) : D := .tup [I (atOf x), tmD (tmOf x)]

def tmCells : Option (Nat × Tm) → List D
  | none => [I 0, .nil]
  | some x => [I x.2.c, intsD x.2.e]

theorem frz_tm0 {H H' : Heap} : Frz H H' (.agg [I 0, .nil]) (tmD ⟨0, []⟩) := .agg rfl fun j x y hx hy => by
  match j, hx, hy with
  | 0, hx, hy => cases hx; cases hy; exact .same _
  | 1, hx, hy => cases hx; cases hy; exact .nil 1
  | j + 2, hx, hy => simp at hx

theorem frz_tmCells {H H' : Heap} (x : Option (Nat × Tm)) : Frz H H' (.agg (tmCells x)) (tmD (tmOf x)) := by
  cases x with
  | none => exact frz_tm0
  | some x => exact .same _

theorem tmCells_len (x : Option (Nat × Tm)) : (tmCells x).length = 2 := by cases x <;> rfl

theorem vTop_pure (r : Rg) (v : Vc) {n : Nat} {B : Int} {L : Nat} (hn : n ≤ 3) (hB : B ≤ 1000000) (hl : v.length ≤ 1000000) (hv : VB r n B L v) : Pure Tryz.prog 85 [rgD r, vcD v] (leadD (topV r v)) := by
  intro H
  refine PureH.of_bodyR Tryz.func85 rfl (by decide) (Nat.le_of_ble_eq_true rfl) fun w0 => ?_
  (repeat (first | refine RO.Sv ?_ | refine RO.Yv ?_ | refine RO.no rfl (by decide) rfl ?_ | refine RO.nil ?_ | refine DW.region ?_ | refine DW.seq ?_ | refine DW.block ?_ | refine DW.skip ?_ | refine DW.exit ?_ | refine DW.condT rfl ?_ | refine DW.condF rfl ?_))
  refine RO.dyn rfl (d_alloc fun b5 hb5 => ?_)
  (repeat (first | refine RO.Sv ?_ | refine RO.Yv ?_ | refine RO.no rfl (by decide) rfl ?_ | refine RO.nil ?_ | refine DW.region ?_ | refine DW.seq ?_ | refine DW.block ?_ | refine DW.skip ?_ | refine DW.exit ?_ | refine DW.condT rfl ?_ | refine DW.condF rfl ?_))
  refine DW.loopI (fun k : Nat => k ≤ v.length) (fun k => [(1, vcD v), (2, .ipt 4 [rgD r] 0 0), (5, .ptr b5 0), (6, I (atOf (topAt r v k))), (9, vcD v), (10, I v.length), (11, I k)]) (fun _ => H.set b5 (50, [I 0, .nil])) (fun k => v.length - k) 0 (Nat.zero_le _) rfl ⟨rfl, rfl, rfl, rfl, rfl, rfl, rfl, trivial⟩ fun k hk => ?_
  have hok := fun (i : Nat) (hi : i < v.length) (h0 : 0 < v[i].length) => (hv _ (List.getElem_mem hi)).1.all _ (List.getElem_mem h0)
  (repeat (first | refine RO.Sv ?_ | refine RO.Yv ?_ | refine RO.no rfl (by decide) rfl ?_ | refine RO.nil ?_ | refine DW.region ?_ | refine DW.seq ?_ | refine DW.block ?_ | refine DW.skip ?_ | refine DW.exit ?_ | refine DW.condT rfl ?_ | refine DW.condF rfl ?_))
  refine DW.cond rfl (fun hb => ?_) (fun hb => ?_)
  · have hlt : k < v.length := by have := of_decide_eq_true hb; omega
    clear hb
    have hsucc := topAt_succ (r := r) hlt
    (repeat (first | refine RO.Sv ?_ | refine RO.Yv ?_ | refine RO.no rfl (by decide) rfl ?_ | refine RO.nil ?_ | refine DW.region ?_ | refine DW.seq ?_ | refine DW.block ?_ | refine DW.skip ?_ | refine DW.exit ?_ | refine DW.condT rfl ?_ | refine DW.condF rfl ?_))
    refine DW.drawS 24 Tryz.mixed (by kernel_rfl) (by decide) ?_
    dsimp only [List.take, List.drop]
    (repeat (first | refine RS.Sv ?_ | refine RS.Yv ?_ | refine RS.no rfl (by decide) rfl ?_ | refine RS.nil ?_))
    cases h1 : decide ((0 : Int) < (v[k].length : Int))
    case false =>
      have hnil : v[k] = [] := List.length_eq_zero_iff.1 (by have := of_decide_eq_false h1; omega)
      rw [hnil] at hsucc
      (repeat (first | refine RS.Sv ?_ | refine RS.Yv ?_ | refine RS.no rfl (by decide) rfl ?_ | refine RS.nil ?_))
      (repeat (first | refine RO.Sv ?_ | refine RO.Yv ?_ | refine RO.no rfl (by decide) rfl ?_ | refine RO.nil ?_ | refine DW.region ?_ | refine DW.seq ?_ | refine DW.block ?_ | refine DW.skip ?_ | refine DW.exit ?_ | refine DW.condT rfl ?_ | refine DW.condF rfl ?_))
      exact ⟨k + 1, hlt, by dsimp only; omega, rfl, rfl, rfl, rfl, by rw [hsucc]; rfl, rfl, rfl, rfl, trivial⟩
    have hlk : 0 < v[k].length := by have := of_decide_eq_true h1; omega
    have ht := hok k hlt hlk
    obtain ⟨t, g, hvk⟩ : ∃ t g, v[k] = t :: g := by
      cases hc : v[k] with
      | nil => rw [hc] at hlk; simp at hlk
      | cons t g => exact ⟨t, g, rfl⟩
    have hvk0 : v[k][0] = t := by simp [hvk]
    cases hx : topAt r v k with
    | none =>
      rw [hx, hvk] at hsucc
      (repeat (first | refine RS.Sv ?_ | refine RS.Yv ?_ | refine RS.no rfl (by decide) rfl ?_ | refine RS.nil ?_))
      (repeat (first | refine RO.Sv ?_ | refine RO.Yv ?_ | refine RO.no rfl (by decide) rfl ?_ | refine RO.nil ?_ | refine DW.region ?_ | refine DW.seq ?_ | refine DW.block ?_ | refine DW.skip ?_ | refine DW.exit ?_ | refine DW.condT rfl ?_ | refine DW.condF rfl ?_))
      exact ⟨k + 1, hlt, by dsimp only; omega, rfl, rfl, rfl, rfl, by rw [hsucc]; rfl, rfl, rfl, rfl, trivial⟩
    | some x =>
      obtain ⟨a, u⟩ := x
      obtain ⟨hak, ha, ha2, hau⟩ := topAt_ok hk hx
      have hu := hok a ha ha2
      have hat : atOf (some (a, u)) = (a : Int) := rfl
      have hneg : decide ((a : Int) < 0) = false := decide_eq_false (by omega)
      rw [hx, hvk] at hsucc
      rw [hat]
      (repeat (first | refine RS.Sv ?_ | refine RS.Yv ?_ | refine RS.no rfl (by decide) rfl ?_ | refine RS.nil ?_))
      rw [hneg]
      (repeat (first | refine RS.Sv ?_ | refine RS.Yv ?_ | refine RS.no rfl (by decide) rfl ?_ | refine RS.nil ?_))
      refine RS.yes rfl (fun H' hov => sta_call rfl rfl (First_pure r k a (ht.mok hn hB) (hu.mok hn hB) (by rw [ht.len, hu.len]) _)) rfl ?_
      (repeat (first | refine RS.Sv ?_ | refine RS.Yv ?_ | refine RS.no rfl (by decide) rfl ?_ | refine RS.nil ?_))
      have hst : topStep r (some (a, u)) k (t :: g) = if firstT r k v[k][0].e a v[a][0].e = true then some (k, t) else some (a, u) := by rw [hvk0, hau]; rfl
      rw [hst] at hsucc
      cases h2 : firstT r k v[k][0].e a v[a][0].e
      · rw [h2, if_neg (by simp)] at hsucc
        (repeat (first | refine RO.Sv ?_ | refine RO.Yv ?_ | refine RO.no rfl (by decide) rfl ?_ | refine RO.nil ?_ | refine DW.region ?_ | refine DW.seq ?_ | refine DW.block ?_ | refine DW.skip ?_ | refine DW.exit ?_ | refine DW.condT rfl ?_ | refine DW.condF rfl ?_))
        exact ⟨k + 1, hlt, by dsimp only; omega, rfl, rfl, rfl, rfl, by rw [hsucc]; rfl, rfl, rfl, rfl, trivial⟩
      · rw [h2, if_pos rfl] at hsucc
        (repeat (first | refine RO.Sv ?_ | refine RO.Yv ?_ | refine RO.no rfl (by decide) rfl ?_ | refine RO.nil ?_ | refine DW.region ?_ | refine DW.seq ?_ | refine DW.block ?_ | refine DW.skip ?_ | refine DW.exit ?_ | refine DW.condT rfl ?_ | refine DW.condF rfl ?_))
        exact ⟨k + 1, hlt, by dsimp only; omega, rfl, rfl, rfl, rfl, by rw [hsucc]; rfl, rfl, rfl, rfl, trivial⟩
  · have hke : k = v.length := by have := of_decide_eq_false hb; omega
    subst hke
    clear hb
    show DW _ _ _ _ _
    have hov := (Over.refl H).set (x := (50, [I 0, .nil])) hb5
    unfold topV
    cases hx : topAt r v v.length with
    | none =>
      (repeat (first | refine RO.Sv ?_ | refine RO.Yv ?_ | refine RO.no rfl (by decide) rfl ?_ | refine RO.nil ?_ | refine DW.region ?_ | refine DW.seq ?_ | refine DW.block ?_ | refine DW.skip ?_ | refine DW.exit ?_ | refine DW.condT rfl ?_ | refine DW.condF rfl ?_))
      refine RO.sta (s_buildT (out := [I 0, .nil]) rfl rfl) rfl ?_
      (repeat (first | refine RO.Sv ?_ | refine RO.Yv ?_ | refine RO.no rfl (by decide) rfl ?_ | refine RO.nil ?_ | refine DW.region ?_ | refine DW.seq ?_ | refine DW.block ?_ | refine DW.skip ?_ | refine DW.exit ?_ | refine DW.condT rfl ?_ | refine DW.condF rfl ?_))
      refine RO.dyn rfl (d_store (k := 2) rfl rfl rfl (Heap.set_self _ _ _) (by decide) (by simp [cellsOf, D.isCell]) ?_)
      (repeat (first | refine RO.Sv ?_ | refine RO.Yv ?_ | refine RO.no rfl (by decide) rfl ?_ | refine RO.nil ?_ | refine DW.region ?_ | refine DW.seq ?_ | refine DW.block ?_ | refine DW.skip ?_ | refine DW.exit ?_ | refine DW.condT rfl ?_ | refine DW.condF rfl ?_))
      rw [Heap.set_set]
      exact DW.ret ⟨.inl rfl, _, .tmp rfl (.cell (cells := [I 0, .nil]) inferInstance rfl (Heap.set_self _ _ _) .nil), (Over.refl _).set hb5, .tup2 (.same _) frz_tm0⟩
    | some x =>
      obtain ⟨a, u⟩ := x
      obtain ⟨hak, ha, ha2, hau⟩ := topAt_ok hk hx
      have hat : atOf (some (a, u)) = (a : Int) := rfl
      have hneg : decide ((a : Int) < 0) = false := decide_eq_false (by omega)
      rw [hat]
      (repeat (first | refine RO.Sv ?_ | refine RO.Yv ?_ | refine RO.no rfl (by decide) rfl ?_ | refine RO.nil ?_ | refine DW.region ?_ | refine DW.seq ?_ | refine DW.block ?_ | refine DW.skip ?_ | refine DW.exit ?_ | refine DW.condT rfl ?_ | refine DW.condF rfl ?_))
      rw [hneg]
      (repeat (first | refine RO.Sv ?_ | refine RO.Yv ?_ | refine RO.no rfl (by decide) rfl ?_ | refine RO.nil ?_ | refine DW.region ?_ | refine DW.seq ?_ | refine DW.block ?_ | refine DW.skip ?_ | refine DW.exit ?_ | refine DW.condT rfl ?_ | refine DW.condF rfl ?_))
      refine DW.drawS 8 Tryz.mixed (by kernel_rfl) (by decide) ?_
      dsimp only [List.take, List.drop]
      (repeat (first | refine RS.Sv ?_ | refine RS.Yv ?_ | refine RS.no rfl (by decide) rfl ?_ | refine RS.nil ?_))
      refine RO.dyn rfl (d_storeTm rfl rfl (Heap.set_self _ _ _) rfl ?_)
      (repeat (first | refine RO.Sv ?_ | refine RO.Yv ?_ | refine RO.no rfl (by decide) rfl ?_ | refine RO.nil ?_ | refine DW.region ?_ | refine DW.seq ?_ | refine DW.block ?_ | refine DW.skip ?_ | refine DW.exit ?_ | refine DW.condT rfl ?_ | refine DW.condF rfl ?_))
      rw [Heap.set_set]
      refine DW.ret ⟨.inl rfl, _, .tmp rfl (.cell (cells := [I v[a][0].c, intsD v[a][0].e]) inferInstance rfl (Heap.set_self _ _ _) .nil), (Over.refl _).set hb5, .tup2 (.same _) ?_⟩
      rw [hau]
      exact .same _

end Go.Proofs.YtcdihmhmoddppaaGreat

namespace Go.Proofs.YtcdihmhmoddppaaGreat
open Go.RowKit
set_option linter.unusedVariables false
set_option linter.unusedSimpArgs false
set_option maxHeartbeats 8000000

theorem LeadOf_pure (r : Rg) (v : Vc) {n : Nat} {B : Int} {L : Nat} (hn : n ≤ 3) (hB : B ≤ 1000000) (hl : v.length ≤ 1000000) (hL : L ≤ 4000000000000) (hv : VB r n B L v) : Pure Tryz.prog 23 [rgD r, vcD v] (leadD (topV r v)) := by
  intro H
  refine PureH.of_bodyR Tryz.func23 rfl (by decide) (Nat.le_of_ble_eq_true rfl) fun w0 => ?_
  have hok := fun (i j : Nat) (hi : i < v.length) (h0 : j < v[i].length) => (hv _ (List.getElem_mem hi)).1.all _ (List.getElem_mem h0)
  (repeat (first | refine RO.Sv ?_ | refine RO.Yv ?_ | refine RO.no rfl (by decide) rfl ?_ | refine RO.nil ?_ | refine DW.region ?_ | refine DW.seq ?_ | refine DW.block ?_ | refine DW.skip ?_ | refine DW.exit ?_ | refine DW.condT rfl ?_ | refine DW.condF rfl ?_))
  refine RO.dyn rfl (d_alloc fun b5 hb5 => ?_)
  (repeat (first | refine RO.Sv ?_ | refine RO.Yv ?_ | refine RO.no rfl (by decide) rfl ?_ | refine RO.nil ?_ | refine DW.region ?_ | refine DW.seq ?_ | refine DW.block ?_ | refine DW.skip ?_ | refine DW.exit ?_ | refine DW.condT rfl ?_ | refine DW.condF rfl ?_))
  refine RO.dyn rfl (d_alloc fun b7 hb7 => ?_)
  have hne : b5 ≠ b7 := fun e => by rw [← e, Heap.set_self] at hb7; cases hb7
  (repeat (first | refine RO.Sv ?_ | refine RO.Yv ?_ | refine RO.no rfl (by decide) rfl ?_ | refine RO.nil ?_ | refine DW.region ?_ | refine DW.seq ?_ | refine DW.block ?_ | refine DW.skip ?_ | refine DW.exit ?_ | refine DW.condT rfl ?_ | refine DW.condF rfl ?_))
  refine DW.loopI (fun k : Nat => k ≤ v.length) (fun k => [(1, vcD v), (2, .ipt 4 [rgD r] 0 0), (5, .ptr b5 0), (6, I (atOf (topAt r v k))), (7, .ptr b7 0), (8, I k)]) (fun k => (H.set b5 (50, [I 0, .nil])).set b7 (50, tmCells (topAt r v k))) (fun k => v.length - k) 0 (Nat.zero_le _) rfl ⟨rfl, rfl, rfl, rfl, rfl, rfl, trivial⟩ fun k hk => ?_
  (repeat (first | refine RO.Sv ?_ | refine RO.Yv ?_ | refine RO.no rfl (by decide) rfl ?_ | refine RO.nil ?_ | refine DW.region ?_ | refine DW.seq ?_ | refine DW.block ?_ | refine DW.skip ?_ | refine DW.exit ?_ | refine DW.condT rfl ?_ | refine DW.condF rfl ?_))
  refine DW.cond rfl (fun hb => ?_) (fun hb => ?_)
  · have hlt : k < v.length := by have := of_decide_eq_true hb; omega
    clear hb
    have hsucc := topAt_succ (r := r) hlt
    have hvk := (hv _ (List.getElem_mem hlt)).2
    (repeat (first | refine RO.Sv ?_ | refine RO.Yv ?_ | refine RO.no rfl (by decide) rfl ?_ | refine RO.nil ?_ | refine DW.region ?_ | refine DW.seq ?_ | refine DW.block ?_ | refine DW.skip ?_ | refine DW.exit ?_ | refine DW.condT rfl ?_ | refine DW.condF rfl ?_))
    refine DW.loopI (fun j : Nat => j ≤ v[k].length) (fun j => [(1, vcD v), (2, .ipt 4 [rgD r] 0 0), (5, .ptr b5 0), (6, I (atOf (topAt r v (if j = 0 then k else k + 1)))), (7, .ptr b7 0), (8, I k), (9, I j)]) (fun j => (H.set b5 (50, [I 0, .nil])).set b7 (50, tmCells (topAt r v (if j = 0 then k else k + 1)))) (fun j => v[k].length - j) 0 (Nat.zero_le _) rfl ⟨rfl, rfl, rfl, rfl, rfl, rfl, rfl, trivial⟩ fun j hj => ?_
    (repeat (first | refine RO.Sv ?_ | refine RO.Yv ?_ | refine RO.no rfl (by decide) rfl ?_ | refine RO.nil ?_ | refine DW.region ?_ | refine DW.seq ?_ | refine DW.block ?_ | refine DW.skip ?_ | refine DW.exit ?_ | refine DW.condT rfl ?_ | refine DW.condF rfl ?_))
    refine DW.cond rfl (fun hb => ?_) (fun hb => ?_)
    · have hjl : j < v[k].length := by have := of_decide_eq_true hb; omega
      clear hb
      have ht := hok k j hlt hjl
      have hstay : ∀ {x : Option (Nat × Tm)}, topAt r v (if j = 0 then k else k + 1) = x → topAt r v (k + 1) = x → topAt r v (if j + 1 = 0 then k else k + 1) = topAt r v (if j = 0 then k else k + 1) := fun h1 h2 => by
        rw [if_neg (by omega), h1, h2]
      (repeat (first | refine RO.Sv ?_ | refine RO.Yv ?_ | refine RO.no rfl (by decide) rfl ?_ | refine RO.nil ?_ | refine DW.region ?_ | refine DW.seq ?_ | refine DW.block ?_ | refine DW.skip ?_ | refine DW.exit ?_ | refine DW.condT rfl ?_ | refine DW.condF rfl ?_))
      refine DW.drawS 18 Tryz.mixed (by kernel_rfl) (by decide) ?_
      dsimp only [List.take, List.drop]
      cases hx : topAt r v (if j = 0 then k else k + 1) with
      | none =>
        have hj0 : j = 0 := Classical.byContradiction fun hj0 => by
          obtain ⟨a, u, h1, _⟩ := ahead_no hv hlt (by omega) hjl
          rw [if_neg hj0, h1] at hx
          cases hx
        subst hj0
        rw [if_pos rfl] at hx
        have hnew : topAt r v (k + 1) = some (k, v[k][0]) := by
          rw [hsucc, hx, topStep_none hjl]
        (repeat (first | refine RS.Sv ?_ | refine RS.Yv ?_ | refine RS.no rfl (by decide) rfl ?_ | refine RS.nil ?_))
        (repeat (first | refine RO.Sv ?_ | refine RO.Yv ?_ | refine RO.no rfl (by decide) rfl ?_ | refine RO.nil ?_ | refine DW.region ?_ | refine DW.seq ?_ | refine DW.block ?_ | refine DW.skip ?_ | refine DW.exit ?_ | refine DW.condT rfl ?_ | refine DW.condF rfl ?_))
        refine DW.drawS 9 Tryz.mixed (by kernel_rfl) (by decide) ?_
        dsimp only [List.take, List.drop]
        (repeat (first | refine RS.Sv ?_ | refine RS.Yv ?_ | refine RS.no rfl (by decide) rfl ?_ | refine RS.nil ?_))
        refine RO.dyn rfl (d_storeTm rfl rfl (Heap.set_self _ _ _) rfl ?_)
        (repeat (first | refine RO.Sv ?_ | refine RO.Yv ?_ | refine RO.no rfl (by decide) rfl ?_ | refine RO.nil ?_ | refine DW.region ?_ | refine DW.seq ?_ | refine DW.block ?_ | refine DW.skip ?_ | refine DW.exit ?_ | refine DW.condT rfl ?_ | refine DW.condF rfl ?_))
        rw [Heap.set_set]
        exact ⟨1, hjl, by dsimp only; omega, by first | (dsimp only; rw [if_neg (by omega), hnew]; rfl) | (rw [if_neg (by omega), hnew]; rfl), rfl, rfl, rfl, by first | (dsimp only; rw [if_neg (by omega), hnew]; rfl) | (rw [if_neg (by omega), hnew]; rfl), rfl, rfl, rfl, trivial⟩
      | some x =>
        obtain ⟨a, u⟩ := x
        have hat : atOf (some (a, u)) = (a : Int) := rfl
        have hneg : decide ((a : Int) < 0) = false := decide_eq_false (by omega)
        obtain ⟨hak, ha, ha2, hau⟩ := topAt_ok (by split <;> omega) hx
        have hu := hok a 0 ha ha2
        rw [hau] at hu
        have hcl : tmCells (some (a, u)) = [I u.c, intsD u.e] := rfl
        rw [hat, hcl]
        (repeat (first | refine RS.Sv ?_ | refine RS.Yv ?_ | refine RS.no rfl (by decide) rfl ?_ | refine RS.nil ?_))
        rw [hneg]
        (repeat (first | refine RS.Sv ?_ | refine RS.Yv ?_ | refine RS.no rfl (by decide) rfl ?_ | refine RS.nil ?_))
        refine RS.yes rfl (fun H' hov => sta_call rfl rfl (Ahead_pure r k a (ht.mok hn hB) (hu.mok hn hB) (by rw [ht.len, hu.len]) _)) rfl ?_
        (repeat (first | refine RS.Sv ?_ | refine RS.Yv ?_ | refine RS.no rfl (by decide) rfl ?_ | refine RS.nil ?_))
        cases h2 : firstT r k v[k][j].e a u.e
        · have hnew : topAt r v (k + 1) = some (a, u) := by
            by_cases hj0 : j = 0
            · subst hj0
              rw [if_pos rfl] at hx
              rw [hsucc, hx, topStep_some hjl, h2, if_neg (by simp)]
            · rw [if_neg hj0] at hx
              exact hx
          (repeat (first | refine RO.Sv ?_ | refine RO.Yv ?_ | refine RO.no rfl (by decide) rfl ?_ | refine RO.nil ?_ | refine DW.region ?_ | refine DW.seq ?_ | refine DW.block ?_ | refine DW.skip ?_ | refine DW.exit ?_ | refine DW.condT rfl ?_ | refine DW.condF rfl ?_))
          exact ⟨j + 1, hjl, by dsimp only; omega, by first | (dsimp only; rw [if_neg (by omega), hnew]; rfl) | (rw [if_neg (by omega), hnew]; rfl), rfl, rfl, rfl, by first | (dsimp only; rw [if_neg (by omega), hnew]; rfl) | (rw [if_neg (by omega), hnew]; rfl), rfl, rfl, rfl, trivial⟩
        · have hj0 : j = 0 := Classical.byContradiction fun hj0 => by
            obtain ⟨a', u', h1, h3⟩ := ahead_no hv hlt (by omega) hjl
            rw [if_neg hj0, h1] at hx
            cases hx
            rw [h3] at h2
            cases h2
          subst hj0
          rw [if_pos rfl] at hx
          have hnew : topAt r v (k + 1) = some (k, v[k][0]) := by
            rw [hsucc, hx, topStep_some hjl, h2, if_pos rfl]
          (repeat (first | refine RO.Sv ?_ | refine RO.Yv ?_ | refine RO.no rfl (by decide) rfl ?_ | refine RO.nil ?_ | refine DW.region ?_ | refine DW.seq ?_ | refine DW.block ?_ | refine DW.skip ?_ | refine DW.exit ?_ | refine DW.condT rfl ?_ | refine DW.condF rfl ?_))
          refine DW.drawS 9 Tryz.mixed (by kernel_rfl) (by decide) ?_
          dsimp only [List.take, List.drop]
          (repeat (first | refine RS.Sv ?_ | refine RS.Yv ?_ | refine RS.no rfl (by decide) rfl ?_ | refine RS.nil ?_))
          refine RO.dyn rfl (d_storeTm rfl rfl (Heap.set_self _ _ _) rfl ?_)
          (repeat (first | refine RO.Sv ?_ | refine RO.Yv ?_ | refine RO.no rfl (by decide) rfl ?_ | refine RO.nil ?_ | refine DW.region ?_ | refine DW.seq ?_ | refine DW.block ?_ | refine DW.skip ?_ | refine DW.exit ?_ | refine DW.condT rfl ?_ | refine DW.condF rfl ?_))
          rw [Heap.set_set]
          exact ⟨1, hjl, by dsimp only; omega, by first | (dsimp only; rw [if_neg (by omega), hnew]; rfl) | (rw [if_neg (by omega), hnew]; rfl), rfl, rfl, rfl, by first | (dsimp only; rw [if_neg (by omega), hnew]; rfl) | (rw [if_neg (by omega), hnew]; rfl), rfl, rfl, rfl, trivial⟩
    · have hje : j = v[k].length := by have := of_decide_eq_false hb; omega
      clear hb
      have hnew : topAt r v (if j = 0 then k else k + 1) = topAt r v (k + 1) := by
        by_cases hj0 : j = 0
        · rw [if_pos hj0, hsucc, show v[k] = [] from List.length_eq_zero_iff.1 (by omega)]
          rfl
        · rw [if_neg hj0]
      rw [hnew]
      (repeat (first | refine RO.Sv ?_ | refine RO.Yv ?_ | refine RO.no rfl (by decide) rfl ?_ | refine RO.nil ?_ | refine DW.region ?_ | refine DW.seq ?_ | refine DW.block ?_ | refine DW.skip ?_ | refine DW.exit ?_ | refine DW.condT rfl ?_ | refine DW.condF rfl ?_))
      exact ⟨k + 1, hlt, by dsimp only; omega, rfl, rfl, rfl, rfl, rfl, rfl, rfl, trivial⟩
  · have hke : k = v.length := by have := of_decide_eq_false hb; omega
    subst hke
    clear hb
    unfold topV
    (repeat (first | refine RO.Sv ?_ | refine RO.Yv ?_ | refine RO.no rfl (by decide) rfl ?_ | refine RO.nil ?_ | refine DW.region ?_ | refine DW.seq ?_ | refine DW.block ?_ | refine DW.skip ?_ | refine DW.exit ?_ | refine DW.condT rfl ?_ | refine DW.condF rfl ?_))
    refine DW.drawS 3 Tryz.mixed (by kernel_rfl) (by decide) ?_
    dsimp only [List.take, List.drop]
    refine RS.sta (fun H' hov => by (first | exact sta_move rfl | exact sta_assign rfl | exact s_cmp rfl rfl rfl | (refine s_arith rfl rfl rfl ?_ ?_ <;> omega) | (refine sta_rem rfl rfl ?_ ?_ <;> omega) | exact s_lenM rfl | exact s_len rfl rfl | exact s_field rfl | (refine s_indexM rfl rfl ?_; omega) | (refine s_indexM0 rfl rfl ?_; omega) | (refine s_loadM (fun _ => rfl) rfl ?_; omega) | (refine s_loadTm rfl ?_; omega) | (refine s_loadC rfl ?_; omega) | (refine s_loadE rfl ?_; omega) | exact s_load rfl rfl | exact s_loadAgg rfl rfl rfl | exact sta_not rfl | exact sta_extract rfl rfl | exact s_pickT rfl rfl | exact s_pickF rfl rfl | exact sta_box (k := 1) rfl rfl | exact sta_box (k := 4) rfl rfl | exact sta_box (k := 2) rfl rfl | exact s_fn rfl | exact s_lit1 (k := 1) (by decide) rfl rfl | exact s_lit1 (k := 2) (by decide) rfl rfl | exact s_litEmpty | exact s_fieldMut rfl | exact s_loadMut rfl (Heap.set_self _ _ _) rfl | exact s_loadMutAgg rfl (Heap.set_self _ _ _) rfl rfl)) rfl ?_
    have hfin : ∀ (cs : List D), cs.length = 2 → Over H ((((H.set b5 (50, [I 0, .nil])).set b7 (50, cs))).set b5 (50, cs)) := fun cs _ => by
      refine Over.set (Over.set (Over.set (Over.refl _) hb5) ?_) hb5
      rw [Heap.set_other _ _ hne.symm] at hb7
      exact hb7
    cases hx : topAt r v v.length with
    | none =>
      refine RS.sta (r_loadMutAgg (ds := [I 0, .nil]) rfl (Heap.set_self _ _ _) rfl rfl) rfl ?_
      (repeat (first | refine RS.Sv ?_ | refine RS.Yv ?_ | refine RS.no rfl (by decide) rfl ?_ | refine RS.nil ?_))
      refine RO.dyn rfl (d_store (k := 2) rfl rfl rfl (by rw [Heap.set_other _ _ hne, Heap.set_self]) (by decide) (by simp [cellsOf, D.isCell]) ?_)
      (repeat (first | refine RO.Sv ?_ | refine RO.Yv ?_ | refine RO.no rfl (by decide) rfl ?_ | refine RO.nil ?_ | refine DW.region ?_ | refine DW.seq ?_ | refine DW.block ?_ | refine DW.skip ?_ | refine DW.exit ?_ | refine DW.condT rfl ?_ | refine DW.condF rfl ?_))
      exact DW.ret ⟨.inl rfl, _, .tmp rfl (.cell (cells := [I 0, .nil]) inferInstance rfl (Heap.set_self _ _ _) .nil), hfin [I 0, .nil] rfl, .tup2 (.same _) frz_tm0⟩
    | some x =>
      obtain ⟨a, u⟩ := x
      refine RS.sta (r_loadMutAgg rfl (Heap.set_self _ _ _) rfl rfl) rfl ?_
      (repeat (first | refine RS.Sv ?_ | refine RS.Yv ?_ | refine RS.no rfl (by decide) rfl ?_ | refine RS.nil ?_))
      refine RO.dyn rfl (d_storeTm (tm := u) rfl rfl (by rw [Heap.set_other _ _ hne, Heap.set_self]) rfl ?_)
      (repeat (first | refine RO.Sv ?_ | refine RO.Yv ?_ | refine RO.no rfl (by decide) rfl ?_ | refine RO.nil ?_ | refine DW.region ?_ | refine DW.seq ?_ | refine DW.block ?_ | refine DW.skip ?_ | refine DW.exit ?_ | refine DW.condT rfl ?_ | refine DW.condF rfl ?_))
      exact DW.ret ⟨.inl rfl, _, .tmp rfl (.cell (cells := [I u.c, intsD u.e]) inferInstance rfl (Heap.set_self _ _ _) .nil), hfin [I u.c, intsD u.e] rfl, .tup2 (.same _) (.same _)⟩

end Go.Proofs.YtcdihmhmoddppaaGreat

namespace Go.Proofs.YtcdihmhmoddppaaGreat
set_option linter.unusedVariables false

theorem turn_all' : ((List.range 102).all fun p => ckP (p : Int) != 0 || ((List.range p).all fun a => a == 0 || ((a : Int) * turnP p a % p == 1))) = true := by decide +kernel

theorem turnP_inv' {p : Int} (hp : ckP p = 0) : InvOk (turnP p) p := by
  intro a h0 h1
  have h2 := ckP_ok hp
  obtain ⟨q, rfl⟩ := Int.eq_ofNat_of_zero_le (show 0 ≤ p by omega)
  obtain ⟨b, rfl⟩ := Int.eq_ofNat_of_zero_le (show 0 ≤ a by omega)
  have h3 := List.all_eq_true.1 turn_all' q (List.mem_range.2 (by omega))
  rw [hp] at h3
  have h4 : ((List.range q).all fun a => a == 0 || ((a : Int) * turnP q a % q == 1)) = true := h3
  have h5 := List.all_eq_true.1 h4 b (List.mem_range.2 (by omega))
  simp only [Bool.or_eq_true, beq_iff_eq] at h5
  exact h5.resolve_left (by omega)

theorem turnGo_in {p : Int} (hp : 0 < p) : ∀ (f : Nat) (n a out : Int), 0 ≤ out → out < p → 0 ≤ turnGo p f n a out ∧ turnGo p f n a out < p
  | 0, _, _, out, h0, h1 => ⟨h0, h1⟩
  | f + 1, n, a, out, h0, h1 => by
    simp only [turnGo]
    split
    · exact ⟨h0, h1⟩
    · refine turnGo_in hp f _ _ _ ?_ ?_
      · split
        · exact Int.emod_nonneg _ (by omega)
        · exact h0
      · split
        · exact Int.emod_lt_of_pos _ hp
        · exact h1

theorem turnP_in {p : Int} (hp : 2 ≤ p) (a : Int) : 0 ≤ turnP p a ∧ turnP p a < p := turnGo_in (by omega) _ _ _ _ (by omega) (by omega)

theorem ckP_prm {p : Int} (hp : ckP p = 0) : Prm p := Prm.of (by have := ckP_ok hp; omega) (turnP_inv' hp)

end Go.Proofs.YtcdihmhmoddppaaGreat

namespace Go.Proofs.YtcdihmhmoddppaaGreat
open Go.RowKit
set_option linter.unusedVariables false
set_option linter.unusedSimpArgs false
set_option maxHeartbeats 8000000

theorem Heap.none_of_set {H : Heap} {b c : Nat} {x : TypeId × List D} (hne : b ≠ c) (h : H.set b x c = none) : H c = none := by
  rw [Heap.set_other _ _ hne.symm] at h; exact h

theorem two_le {l : List Vc} {v : Vc} {K : Nat} (hl : v.length ≤ K ∧ ∀ f ∈ v, f.length ≤ K) : ∀ u ∈ [v], u.length ≤ K ∧ ∀ f ∈ u, f.length ≤ K := fun u hu => by
  rw [List.mem_singleton.1 hu]; exact hl

theorem two_le2 {v w : Vc} {K : Nat} (hl : v.length ≤ K ∧ ∀ f ∈ v, f.length ≤ K) (hw : w.length ≤ K ∧ ∀ f ∈ w, f.length ≤ K) : ∀ u ∈ [v, w], u.length ≤ K ∧ ∀ f ∈ u, f.length ≤ K := fun u hu => by
  rcases List.mem_cons.1 hu with rfl | hu
  · exact hl
  · rw [List.mem_singleton.1 hu]; exact hw

def leadED (x : Int × Tm × Int) : D := .tup [I x.1, tmD x.2.1, I x.2.2]

/-- What Add answers. -/
def vaddT (r : Rg) (v w : Vc) : Vc × Int := if alikeCk r [v, w] ≠ 0 then ([], alikeCk r [v, w]) else vdoneT (vsumT r v w)

/-- Bounds make the polynomials readable. -/
theorem VB.mok {r : Rg} {n : Nat} {B : Int} {L : Nat} {v : Vc} (h : VB r n B L v) (hn : n ≤ 3) (hB : B ≤ 1000000) (hL : L ≤ 4000000000000) : ∀ f ∈ v, f.length ≤ 4000000000000 ∧ ∀ t ∈ f, MOk t.e :=
  fun f hf => ⟨by have := (h f hf).2; omega, fun t ht => ((h f hf).1.all t ht).mok hn hB⟩

theorem VB.mok3 {r : Rg} {n : Nat} {B : Int} {L : Nat} {v : Vc} (h : VB r n B L v) (hn : n ≤ 3) (hB : B ≤ 1000000) (hL : L ≤ 4000000000000) : ∀ f ∈ v, f.length ≤ 4000000000000 ∧ (∀ t ∈ f, MOk t.e) ∧ ∀ t ∈ f, t.e.sum ≤ topT f :=
  fun f hf => ⟨by have := (h f hf).2; omega, fun t ht => ((h f hf).1.all t ht).mok hn hB, topT_ge (h f hf).1⟩

theorem VB.len3 {r : Rg} {n : Nat} {B : Int} {L : Nat} {v : Vc} (h : VB r n B L v) (hn : n ≤ 3) (hL : L ≤ 4000000000000) : ∀ f ∈ v, f.length ≤ 4000000000000 ∧ ∀ t ∈ f, t.e.length ≤ 3 :=
  fun f hf => ⟨by have := (h f hf).2; omega, fun t ht => by have := ((h f hf).1.all t ht).len; omega⟩

theorem VB.sum {r : Rg} {n : Nat} {B : Int} {L M : Nat} {v w : Vc} (hp : 0 < r.p) (hv : VB r n B L v) (hw : VB r n B M w) : VB r n B (L + M) (vsumT r v w) := fun f hf => by
  unfold vsumT at hf
  obtain ⟨i, hi, rfl⟩ := List.getElem_of_mem hf
  rw [List.length_zipWith] at hi
  have h1 := hv _ (List.getElem_mem (show i < v.length by omega))
  have h2 := hw _ (List.getElem_mem (show i < w.length by omega))
  rw [List.getElem_zipWith]
  exact ⟨sumT_ok hp _ _ h1.1 h2.1, by have := sumT_length (p := r.p) (o := r.order) (v[i]'(by omega)) (w[i]'(by omega)); omega⟩

theorem VB.nil {r : Rg} {n : Nat} {B : Int} {L k : Nat} : VB r n B L (List.replicate k []) := fun f hf => by
  rw [List.eq_of_mem_replicate hf]; exact ⟨PB.nil _ _ _ _ _, Nat.zero_le _⟩

theorem VB.mono {r : Rg} {n : Nat} {B C : Int} {L M : Nat} {v : Vc} (h : VB r n B L v) (hB : B ≤ C) (hL : L ≤ M) : VB r n C M v := fun f hf => ⟨(h f hf).1.mono (by omega) hB, by have := (h f hf).2; omega⟩

/-- What Scale answers. -/
def vscaleT (r : Rg) (f : Pl) (v : Vc) : Vc × Int := if polysCk r [f] ≠ 0 then ([], polysCk r [f]) else if alikeCk r [v] ≠ 0 then ([], alikeCk r [v]) else if v.any (bigT f) = true then ([], 2) else vdoneT (vtimesT r f v)

end Go.Proofs.YtcdihmhmoddppaaGreat

namespace Go.Proofs.YtcdihmhmoddppaaGreat
open Go.RowKit
set_option linter.unusedVariables false
set_option linter.unusedSimpArgs false
set_option maxHeartbeats 8000000

def rowDeg (g : Int) : Int → Pl → Option Int
  | d, [] => some d
  | d, t :: f => if 0 ≤ d ∧ g + t.e.sum ≠ d then none else rowDeg g (g + t.e.sum) f

def degGo : List Int → Int → Vc → Option Int
  | g :: gs, d, f :: v => (rowDeg g d f).bind fun d => degGo gs d v
  | _, d, _ => some d

/-- One degree of all terms? -/
def sameT (gs : List Int) (v : Vc) : Int × Int := match degGo gs (-1) v with
  | none => (0, 4)
  | some d => if d < 0 then (0, 5) else (d, 0)

def badDeg (d : Int) : Bool := decide (d < 0) || decide (200 < d)

/-- What Degree answers. -/
def degT (r : Rg) (gs : List Int) (v : Vc) : Int × Int := if alikeCk r [v] ≠ 0 then (0, alikeCk r [v]) else if gs.length ≠ v.length then (0, 1) else if gs.any badDeg = true then (0, 3) else sameT gs v

theorem degGo_drop {gs : List Int} {v : Vc} {d : Int} {k : Nat} (h1 : k < gs.length) (h2 : k < v.length) : degGo (gs.drop k) d (v.drop k) = (rowDeg gs[k] d v[k]).bind fun d => degGo (gs.drop (k + 1)) d (v.drop (k + 1)) := by
  rw [List.drop_eq_getElem_cons h1, List.drop_eq_getElem_cons h2]
  rfl

theorem rowDeg_drop {g d : Int} {f : Pl} {j : Nat} (h : j < f.length) : rowDeg g d (f.drop j) = if 0 ≤ d ∧ g + f[j].e.sum ≠ d then none else rowDeg g (g + f[j].e.sum) (f.drop (j + 1)) := by
  rw [List.drop_eq_getElem_cons h]
  rfl

theorem degGo_end {gs : List Int} {d : Int} : degGo gs d [] = some d := by cases gs <;> rfl

theorem vSame_pure (gs : List Int) (v : Vc) (hl : v.length ≤ 1000000) (hlen : gs.length = v.length) (hg : ∀ g ∈ gs, -1000000 ≤ g ∧ g ≤ 1000000) (hv : ∀ f ∈ v, f.length ≤ 4000000000000 ∧ ∀ t ∈ f, MOk t.e) : Pure Tryz.prog 71 [intsD gs, vcD v] (pairD (sameT gs v)) := by
  intro H
  refine PureH.of_body Tryz.func71 rfl (by decide) (Nat.le_of_ble_eq_true rfl) fun w0 => ?_
  (repeat (first | refine RO.Sv ?_ | refine RO.Yv ?_ | refine RO.no rfl (by decide) rfl ?_ | refine RO.nil ?_ | refine DW.region ?_ | refine DW.seq ?_ | refine DW.block ?_ | refine DW.skip ?_ | refine DW.exit ?_ | refine DW.condT rfl ?_ | refine DW.condF rfl ?_))
  refine DW.loopG (fun x : Nat × Int => x.1 ≤ v.length ∧ degGo (gs.drop x.1) x.2 (v.drop x.1) = degGo gs (-1) v) (fun x => [(0, intsD gs), (6, I x.2), (12, vcD v), (13, I v.length), (14, I x.1)]) (fun _ => H) (fun x => v.length - x.1) (0, -1)
    ⟨Nat.zero_le _, rfl⟩ (Heap.sub_refl _) (.one rfl (.one rfl (.one rfl (.one rfl (.one rfl trivial))))) fun ⟨k, d⟩ ⟨hk, hgo⟩ => ?_
  dsimp only at hk hgo
  dsimp only
  (repeat (first | refine RO.Sv ?_ | refine RO.Yv ?_ | refine RO.no rfl (by decide) rfl ?_ | refine RO.nil ?_ | refine DW.region ?_ | refine DW.seq ?_ | refine DW.block ?_ | refine DW.skip ?_ | refine DW.exit ?_ | refine DW.condT rfl ?_ | refine DW.condF rfl ?_))
  refine DW.cond rfl (fun hb => ?_) (fun hb => ?_)
  · have hlt : k < v.length := by have := of_decide_eq_true hb; omega
    have hlt2 : k < gs.length := by omega
    obtain ⟨hv1, hv2⟩ := hv _ (List.getElem_mem hlt)
    have hgk := hg _ (List.getElem_mem hlt2)
    rw [degGo_drop hlt2 hlt] at hgo
    clear hb
    (repeat (first | refine RO.Sv ?_ | refine RO.Yv ?_ | refine RO.no rfl (by decide) rfl ?_ | refine RO.nil ?_ | refine DW.region ?_ | refine DW.seq ?_ | refine DW.block ?_ | refine DW.skip ?_ | refine DW.exit ?_ | refine DW.condT rfl ?_ | refine DW.condF rfl ?_))
    refine DW.loopG (fun x : Nat × Int => x.1 ≤ v[k].length ∧ rowDeg gs[k] x.2 (v[k].drop x.1) = rowDeg gs[k] d v[k]) (fun x => [(0, intsD gs), (6, I x.2), (7, I k), (12, vcD v), (13, I v.length), (14, I k), (19, plD v[k]), (20, I v[k].length), (21, I x.1)]) (fun _ => H) (fun x => v[k].length - x.1) (0, d)
      ⟨Nat.zero_le _, rfl⟩ (Heap.sub_refl _) (.one rfl (.one rfl (.one rfl (.one rfl (.one rfl (.one rfl (.one rfl (.one rfl (.one rfl trivial))))))))) fun ⟨j, c⟩ ⟨hj, hrow⟩ => ?_
    dsimp only at hj hrow
    dsimp only
    (repeat (first | refine RO.Sv ?_ | refine RO.Yv ?_ | refine RO.no rfl (by decide) rfl ?_ | refine RO.nil ?_ | refine DW.region ?_ | refine DW.seq ?_ | refine DW.block ?_ | refine DW.skip ?_ | refine DW.exit ?_ | refine DW.condT rfl ?_ | refine DW.condF rfl ?_))
    refine DW.cond rfl (fun hb => ?_) (fun hb => ?_)
    · have hjl : j < v[k].length := by have := of_decide_eq_true hb; omega
      have hm := hv2 _ (List.getElem_mem hjl)
      have hs := hm.sum
      rw [rowDeg_drop hjl] at hrow
      clear hb
      (repeat (first | refine RO.Sv ?_ | refine RO.Yv ?_ | refine RO.no rfl (by decide) rfl ?_ | refine RO.nil ?_ | refine DW.region ?_ | refine DW.seq ?_ | refine DW.block ?_ | refine DW.skip ?_ | refine DW.exit ?_ | refine DW.condT rfl ?_ | refine DW.condF rfl ?_))
      (refine RO.dyn rfl (d_alloc fun bv hbv => ?_); (repeat (first | refine RO.Sv ?_ | refine RO.Yv ?_ | refine RO.no rfl (by decide) rfl ?_)); refine RO.dyn rfl (d_storeTm rfl rfl (Heap.set_self _ _ _) rfl ?_); rw [Heap.set_set])
      (repeat (first | refine RO.Sv ?_ | refine RO.Yv ?_ | refine RO.no rfl (by decide) rfl ?_ | refine RO.nil ?_ | refine DW.region ?_ | refine DW.seq ?_ | refine DW.block ?_ | refine DW.skip ?_ | refine DW.exit ?_ | refine DW.condT rfl ?_ | refine DW.condF rfl ?_))
      refine DW.drawS 9 Tryz.mixed (by kernel_rfl) (by decide) ?_
      dsimp only [List.take, List.drop]
      (repeat (first | refine RS.Sv ?_ | refine RS.Yv ?_ | refine RS.no rfl (by decide) rfl ?_ | refine RS.nil ?_))
      refine RS.sta (fun H' hov => sta_call rfl rfl (Degree_pure hm _)) rfl ?_
      (repeat (first | refine RS.Sv ?_ | refine RS.Yv ?_ | refine RS.no rfl (by decide) rfl ?_ | refine RS.nil ?_))
      (repeat (first | refine RO.Sv ?_ | refine RO.Yv ?_ | refine RO.no rfl (by decide) rfl ?_ | refine RO.nil ?_ | refine DW.region ?_ | refine DW.seq ?_ | refine DW.block ?_ | refine DW.skip ?_ | refine DW.exit ?_ | refine DW.condT rfl ?_ | refine DW.condF rfl ?_))
      have next : ¬ (0 ≤ c ∧ gs[k] + v[k][j].e.sum ≠ c) → rowDeg gs[k] (gs[k] + v[k][j].e.sum) (v[k].drop (j + 1)) = rowDeg gs[k] d v[k] := fun h => by rwa [if_neg h] at hrow
      cases h1 : decide (0 ≤ c)
      · (repeat (first | refine RO.Sv ?_ | refine RO.Yv ?_ | refine RO.no rfl (by decide) rfl ?_ | refine RO.nil ?_ | refine DW.region ?_ | refine DW.seq ?_ | refine DW.block ?_ | refine DW.skip ?_ | refine DW.exit ?_ | refine DW.condT rfl ?_ | refine DW.condF rfl ?_))
        exact ⟨(j + 1, gs[k] + v[k][j].e.sum), ⟨hjl, next (by simp at h1; omega)⟩, by dsimp only; omega, Heap.sub_set _ hbv, (.one rfl (.one rfl (.one rfl (.one rfl (.one rfl (.one rfl (.one rfl (.one rfl (.one rfl trivial)))))))))⟩
      · (repeat (first | refine RO.Sv ?_ | refine RO.Yv ?_ | refine RO.no rfl (by decide) rfl ?_ | refine RO.nil ?_ | refine DW.region ?_ | refine DW.seq ?_ | refine DW.block ?_ | refine DW.skip ?_ | refine DW.exit ?_ | refine DW.condT rfl ?_ | refine DW.condF rfl ?_))
        cases h2 : (gs[k] + v[k][j].e.sum != c)
        · (repeat (first | refine RO.Sv ?_ | refine RO.Yv ?_ | refine RO.no rfl (by decide) rfl ?_ | refine RO.nil ?_ | refine DW.region ?_ | refine DW.seq ?_ | refine DW.block ?_ | refine DW.skip ?_ | refine DW.exit ?_ | refine DW.condT rfl ?_ | refine DW.condF rfl ?_))
          exact ⟨(j + 1, gs[k] + v[k][j].e.sum), ⟨hjl, next (by simp at h2; simp [h2])⟩, by dsimp only; omega, Heap.sub_set _ hbv, (.one rfl (.one rfl (.one rfl (.one rfl (.one rfl (.one rfl (.one rfl (.one rfl (.one rfl trivial)))))))))⟩
        · rw [if_pos ⟨of_decide_eq_true h1, by simpa using h2⟩] at hrow
          rw [← hrow] at hgo
          have : sameT gs v = (0, 4) := by unfold sameT; rw [← hgo]; rfl
          rw [this]
          (repeat (first | refine RO.Sv ?_ | refine RO.Yv ?_ | refine RO.no rfl (by decide) rfl ?_ | refine RO.nil ?_ | refine DW.region ?_ | refine DW.seq ?_ | refine DW.block ?_ | refine DW.skip ?_ | refine DW.exit ?_ | refine DW.condT rfl ?_ | refine DW.condF rfl ?_))
          exact DW.ret ⟨.inl rfl, _, rfl, (Over.refl _).set hbv, .same _⟩
    · have hje : j = v[k].length := by have := of_decide_eq_false hb; omega
      rw [hje, List.drop_length] at hrow
      rw [← hrow] at hgo
      (repeat (first | refine RO.Sv ?_ | refine RO.Yv ?_ | refine RO.no rfl (by decide) rfl ?_ | refine RO.nil ?_ | refine DW.region ?_ | refine DW.seq ?_ | refine DW.block ?_ | refine DW.skip ?_ | refine DW.exit ?_ | refine DW.condT rfl ?_ | refine DW.condF rfl ?_))
      exact ⟨(k + 1, c), ⟨hlt, hgo⟩, by dsimp only; omega, Heap.sub_refl _, (.one rfl (.one rfl (.one rfl (.one rfl (.one rfl trivial)))))⟩
  · have hke : k = v.length := by have := of_decide_eq_false hb; omega
    rw [hke, List.drop_length, degGo_end] at hgo
    clear hb
    unfold sameT
    rw [← hgo]
    dsimp only
    (repeat (first | refine RO.Sv ?_ | refine RO.Yv ?_ | refine RO.no rfl (by decide) rfl ?_ | refine RO.nil ?_ | refine DW.region ?_ | refine DW.seq ?_ | refine DW.block ?_ | refine DW.skip ?_ | refine DW.exit ?_ | refine DW.condT rfl ?_ | refine DW.condF rfl ?_))
    refine DW.cond rfl (fun hb => ?_) (fun hb => ?_)
    · rw [if_pos (of_decide_eq_true hb)]
      (repeat (first | refine RO.Sv ?_ | refine RO.Yv ?_ | refine RO.no rfl (by decide) rfl ?_ | refine RO.nil ?_ | refine DW.region ?_ | refine DW.seq ?_ | refine DW.block ?_ | refine DW.skip ?_ | refine DW.exit ?_ | refine DW.condT rfl ?_ | refine DW.condF rfl ?_))
      exact DW.ret ⟨.inl rfl, _, rfl, Over.refl _, .same _⟩
    · rw [if_neg (of_decide_eq_false hb)]
      (repeat (first | refine RO.Sv ?_ | refine RO.Yv ?_ | refine RO.no rfl (by decide) rfl ?_ | refine RO.nil ?_ | refine DW.region ?_ | refine DW.seq ?_ | refine DW.block ?_ | refine DW.skip ?_ | refine DW.exit ?_ | refine DW.condT rfl ?_ | refine DW.condF rfl ?_))
      exact DW.ret ⟨.inl rfl, _, rfl, Over.refl _, .same _⟩

theorem VDegree_pure (gs : List Int) (v : Vc) (hl : v.length ≤ 1000000) (hlen : gs.length = v.length) (hg : ∀ g ∈ gs, -1000000 ≤ g ∧ g ≤ 1000000) (hv : ∀ f ∈ v, f.length ≤ 4000000000000 ∧ ∀ t ∈ f, MOk t.e) : Pure Tryz.prog 41 [intsD gs, vcD v] (pairD (sameT gs v)) := by
  intro H
  refine PureH.of_body Tryz.func41 rfl (by decide) (Nat.le_of_ble_eq_true rfl) fun w0 => ?_
  (repeat (first | refine RO.Sv ?_ | refine RO.Yv ?_ | refine RO.no rfl (by decide) rfl ?_ | refine RO.nil ?_ | refine DW.region ?_ | refine DW.seq ?_ | refine DW.block ?_ | refine DW.skip ?_ | refine DW.exit ?_ | refine DW.condT rfl ?_ | refine DW.condF rfl ?_))
  refine DW.loopI (fun x : Nat × Int => x.1 ≤ v.length ∧ degGo (gs.drop x.1) x.2 (v.drop x.1) = degGo gs (-1) v) (fun x => [(0, intsD gs), (1, vcD v), (6, I x.2), (7, I x.1)]) (fun _ => H) (fun x => v.length - x.1) (0, -1)
    ⟨Nat.zero_le _, rfl⟩ rfl ⟨rfl, rfl, rfl, rfl, trivial⟩ fun ⟨k, d⟩ ⟨hk, hgo⟩ => ?_
  dsimp only at hk hgo
  dsimp only
  (repeat (first | refine RO.Sv ?_ | refine RO.Yv ?_ | refine RO.no rfl (by decide) rfl ?_ | refine RO.nil ?_ | refine DW.region ?_ | refine DW.seq ?_ | refine DW.block ?_ | refine DW.skip ?_ | refine DW.exit ?_ | refine DW.condT rfl ?_ | refine DW.condF rfl ?_))
  refine DW.cond rfl (fun hb => ?_) (fun hb => ?_)
  · have hlt : k < v.length := by have := of_decide_eq_true hb; omega
    have hlt2 : k < gs.length := by omega
    obtain ⟨hv1, hv2⟩ := hv _ (List.getElem_mem hlt)
    have hgk := hg _ (List.getElem_mem hlt2)
    rw [degGo_drop hlt2 hlt] at hgo
    clear hb
    (repeat (first | refine RO.Sv ?_ | refine RO.Yv ?_ | refine RO.no rfl (by decide) rfl ?_ | refine RO.nil ?_ | refine DW.region ?_ | refine DW.seq ?_ | refine DW.block ?_ | refine DW.skip ?_ | refine DW.exit ?_ | refine DW.condT rfl ?_ | refine DW.condF rfl ?_))
    refine DW.loopI (fun x : Nat × Int => x.1 ≤ v[k].length ∧ rowDeg gs[k] x.2 (v[k].drop x.1) = rowDeg gs[k] d v[k]) (fun x => [(0, intsD gs), (1, vcD v), (6, I x.2), (7, I k), (8, I x.1)]) (fun _ => H) (fun x => v[k].length - x.1) (0, d)
      ⟨Nat.zero_le _, rfl⟩ rfl ⟨rfl, rfl, rfl, rfl, rfl, trivial⟩ fun ⟨j, c⟩ ⟨hj, hrow⟩ => ?_
    dsimp only at hj hrow
    dsimp only
    (repeat (first | refine RO.Sv ?_ | refine RO.Yv ?_ | refine RO.no rfl (by decide) rfl ?_ | refine RO.nil ?_ | refine DW.region ?_ | refine DW.seq ?_ | refine DW.block ?_ | refine DW.skip ?_ | refine DW.exit ?_ | refine DW.condT rfl ?_ | refine DW.condF rfl ?_))
    refine DW.cond rfl (fun hb => ?_) (fun hb => ?_)
    · have hjl : j < v[k].length := by have := of_decide_eq_true hb; omega
      have hm := hv2 _ (List.getElem_mem hjl)
      have hs := hm.sum
      rw [rowDeg_drop hjl] at hrow
      clear hb
      (repeat (first | refine RO.Sv ?_ | refine RO.Yv ?_ | refine RO.no rfl (by decide) rfl ?_ | refine RO.nil ?_ | refine DW.region ?_ | refine DW.seq ?_ | refine DW.block ?_ | refine DW.skip ?_ | refine DW.exit ?_ | refine DW.condT rfl ?_ | refine DW.condF rfl ?_))
      refine DW.drawS 15 Tryz.mixed (by kernel_rfl) (by decide) ?_
      dsimp only [List.take, List.drop]
      (repeat (first | refine RS.Sv ?_ | refine RS.Yv ?_ | refine RS.no rfl (by decide) rfl ?_ | refine RS.nil ?_))
      refine RS.sta (fun H' hov => sta_call rfl rfl (DegreeOf_pure hm _)) rfl ?_
      (repeat (first | refine RS.Sv ?_ | refine RS.Yv ?_ | refine RS.no rfl (by decide) rfl ?_ | refine RS.nil ?_))
      (repeat (first | refine RO.Sv ?_ | refine RO.Yv ?_ | refine RO.no rfl (by decide) rfl ?_ | refine RO.nil ?_ | refine DW.region ?_ | refine DW.seq ?_ | refine DW.block ?_ | refine DW.skip ?_ | refine DW.exit ?_ | refine DW.condT rfl ?_ | refine DW.condF rfl ?_))
      have next : ¬ (0 ≤ c ∧ gs[k] + v[k][j].e.sum ≠ c) → rowDeg gs[k] (gs[k] + v[k][j].e.sum) (v[k].drop (j + 1)) = rowDeg gs[k] d v[k] := fun h => by rwa [if_neg h] at hrow
      cases h1 : decide (0 ≤ c)
      · (repeat (first | refine RO.Sv ?_ | refine RO.Yv ?_ | refine RO.no rfl (by decide) rfl ?_ | refine RO.nil ?_ | refine DW.region ?_ | refine DW.seq ?_ | refine DW.block ?_ | refine DW.skip ?_ | refine DW.exit ?_ | refine DW.condT rfl ?_ | refine DW.condF rfl ?_))
        exact ⟨(j + 1, gs[k] + v[k][j].e.sum), ⟨hjl, next (by simp at h1; omega)⟩, by dsimp only; omega, rfl, rfl, rfl, rfl, rfl, rfl, trivial⟩
      · (repeat (first | refine RO.Sv ?_ | refine RO.Yv ?_ | refine RO.no rfl (by decide) rfl ?_ | refine RO.nil ?_ | refine DW.region ?_ | refine DW.seq ?_ | refine DW.block ?_ | refine DW.skip ?_ | refine DW.exit ?_ | refine DW.condT rfl ?_ | refine DW.condF rfl ?_))
        cases h2 : (gs[k] + v[k][j].e.sum != c)
        · (repeat (first | refine RO.Sv ?_ | refine RO.Yv ?_ | refine RO.no rfl (by decide) rfl ?_ | refine RO.nil ?_ | refine DW.region ?_ | refine DW.seq ?_ | refine DW.block ?_ | refine DW.skip ?_ | refine DW.exit ?_ | refine DW.condT rfl ?_ | refine DW.condF rfl ?_))
          exact ⟨(j + 1, gs[k] + v[k][j].e.sum), ⟨hjl, next (by simp at h2; simp [h2])⟩, by dsimp only; omega, rfl, rfl, rfl, rfl, rfl, rfl, trivial⟩
        · rw [if_pos ⟨of_decide_eq_true h1, by simpa using h2⟩] at hrow
          rw [← hrow] at hgo
          have : sameT gs v = (0, 4) := by unfold sameT; rw [← hgo]; rfl
          rw [this]
          (repeat (first | refine RO.Sv ?_ | refine RO.Yv ?_ | refine RO.no rfl (by decide) rfl ?_ | refine RO.nil ?_ | refine DW.region ?_ | refine DW.seq ?_ | refine DW.block ?_ | refine DW.skip ?_ | refine DW.exit ?_ | refine DW.condT rfl ?_ | refine DW.condF rfl ?_))
          exact DW.ret ⟨.inl rfl, _, rfl, Over.refl _, .same _⟩
    · have hje : j = v[k].length := by have := of_decide_eq_false hb; omega
      rw [hje, List.drop_length] at hrow
      rw [← hrow] at hgo
      (repeat (first | refine RO.Sv ?_ | refine RO.Yv ?_ | refine RO.no rfl (by decide) rfl ?_ | refine RO.nil ?_ | refine DW.region ?_ | refine DW.seq ?_ | refine DW.block ?_ | refine DW.skip ?_ | refine DW.exit ?_ | refine DW.condT rfl ?_ | refine DW.condF rfl ?_))
      exact ⟨(k + 1, c), ⟨hlt, hgo⟩, by dsimp only; omega, rfl, rfl, rfl, rfl, rfl, trivial⟩
  · have hke : k = v.length := by have := of_decide_eq_false hb; omega
    rw [hke, List.drop_length, degGo_end] at hgo
    clear hb
    unfold sameT
    rw [← hgo]
    dsimp only
    (repeat (first | refine RO.Sv ?_ | refine RO.Yv ?_ | refine RO.no rfl (by decide) rfl ?_ | refine RO.nil ?_ | refine DW.region ?_ | refine DW.seq ?_ | refine DW.block ?_ | refine DW.skip ?_ | refine DW.exit ?_ | refine DW.condT rfl ?_ | refine DW.condF rfl ?_))
    refine DW.cond rfl (fun hb => ?_) (fun hb => ?_)
    · rw [if_pos (of_decide_eq_true hb)]
      (repeat (first | refine RO.Sv ?_ | refine RO.Yv ?_ | refine RO.no rfl (by decide) rfl ?_ | refine RO.nil ?_ | refine DW.region ?_ | refine DW.seq ?_ | refine DW.block ?_ | refine DW.skip ?_ | refine DW.exit ?_ | refine DW.condT rfl ?_ | refine DW.condF rfl ?_))
      exact DW.ret ⟨.inl rfl, _, rfl, Over.refl _, .same _⟩
    · rw [if_neg (of_decide_eq_false hb)]
      (repeat (first | refine RO.Sv ?_ | refine RO.Yv ?_ | refine RO.no rfl (by decide) rfl ?_ | refine RO.nil ?_ | refine DW.region ?_ | refine DW.seq ?_ | refine DW.block ?_ | refine DW.skip ?_ | refine DW.exit ?_ | refine DW.condT rfl ?_ | refine DW.condF rfl ?_))
      exact DW.ret ⟨.inl rfl, _, rfl, Over.refl _, .same _⟩

end Go.Proofs.YtcdihmhmoddppaaGreat

namespace Go.Proofs.YtcdihmhmoddppaaGreat
open Go.RowKit
set_option linter.unusedVariables false
set_option linter.unusedSimpArgs false
set_option maxHeartbeats 4000000

def xyR : Rg := ⟨7, 2, 1, 1⟩

instance instRing1 : BuildT Tryz.prog 23 [I 0, I 0, I 0, I 0] #[(0, 1), (1, 1), (2, 1), (3, 1)] := .of (by kernel_rfl) Tryz.underlying23 (by kernel_rfl) rfl
instance instRing2 : SizeT Tryz.prog 23 4 := .of (by kernel_rfl)

theorem xy_pure : Pure Tryz.prog 28 [] (rgD xyR) := by
  intro H
  refine PureH.of_bodyCell (r := 0) (t := 23) (T0 := 23) (cells := [I 7, I 2, I 1, I 1]) Tryz.func28 rfl (by decide) (Nat.le_of_ble_eq_true rfl) rfl fun w0 => ?_
  (repeat (first | refine RO.S ?_ | refine RO.Y ?_ | refine RO.no rfl (by decide) rfl ?_ | refine RO.nil ?_ | refine DW.region ?_ | refine DW.seq ?_ | refine DW.block ?_ | refine DW.skip ?_ | refine DW.exit ?_ | refine DW.condT rfl ?_ | refine DW.condF rfl ?_))
  refine RO.dyn rfl (d_alloc fun b hb => ?_)
  (repeat (first | refine RO.S ?_ | refine RO.Y ?_ | refine RO.no rfl (by decide) rfl ?_ | refine RO.nil ?_ | refine DW.region ?_ | refine DW.seq ?_ | refine DW.block ?_ | refine DW.skip ?_ | refine DW.exit ?_ | refine DW.condT rfl ?_ | refine DW.condF rfl ?_))
  refine RO.sta (s_buildT (out := [I 7, I 2, I 1, I 1]) rfl rfl) rfl ?_
  refine RO.dyn rfl (d_store (k := 4) rfl rfl rfl (Heap.set_self _ _ _) (by decide) (by simp [cellsOf, D.isCell]) ?_)
  rw [Heap.set_set]
  (repeat (first | refine RO.S ?_ | refine RO.Y ?_ | refine RO.no rfl (by decide) rfl ?_ | refine RO.nil ?_ | refine DW.region ?_ | refine DW.seq ?_ | refine DW.block ?_ | refine DW.skip ?_ | refine DW.exit ?_ | refine DW.condT rfl ?_ | refine DW.condF rfl ?_))
  exact DW.ret ⟨.inl rfl, b, rfl, Heap.set_self _ _ _, (Over.refl _).set hb, hb⟩

end Go.Proofs.YtcdihmhmoddppaaGreat

namespace Go.Proofs.YtcdihmhmoddppaaGreat
open Go.RowKit
set_option linter.unusedVariables false
set_option linter.unusedSimpArgs false
set_option maxHeartbeats 8000000

/-- What must come. -/
def visT (w : Int) (want : Vc) : Vc × Int := if w = 0 then vdoneT want else ([], w)

theorem term_pure (c : Int) (e : List Int) : Pure Tryz.prog 29 [I c, intsD e] (tmD ⟨c, e⟩) := by
  intro H
  refine PureH.of_bodyCell (r := 4) (t := 50) (T0 := 50) (cells := [I c, intsD e]) Tryz.func29 rfl (by decide) (Nat.le_of_ble_eq_true rfl) rfl fun w0 => ?_
  (repeat (first | refine RO.Sv ?_ | refine RO.Yv ?_ | refine RO.no rfl (by decide) rfl ?_ | refine RO.nil ?_ | refine DW.region ?_ | refine DW.seq ?_ | refine DW.block ?_ | refine DW.skip ?_ | refine DW.exit ?_ | refine DW.condT rfl ?_ | refine DW.condF rfl ?_))
  refine RO.dyn rfl (d_alloc fun b hb => ?_)
  (repeat (first | refine RO.Sv ?_ | refine RO.Yv ?_ | refine RO.no rfl (by decide) rfl ?_ | refine RO.nil ?_ | refine DW.region ?_ | refine DW.seq ?_ | refine DW.block ?_ | refine DW.skip ?_ | refine DW.exit ?_ | refine DW.condT rfl ?_ | refine DW.condF rfl ?_))
  refine RO.sta (s_buildT (out := [I c, intsD e]) rfl rfl) rfl ?_
  refine RO.dyn rfl (d_store (k := 2) rfl rfl rfl (Heap.set_self _ _ _) (by show 0 + 2 ≤ 2; omega) (by simp [cellsOf, D.isCell, intsD]) ?_)
  rw [Heap.set_set]
  (repeat (first | refine RO.Sv ?_ | refine RO.Yv ?_ | refine RO.no rfl (by decide) rfl ?_ | refine RO.nil ?_ | refine DW.region ?_ | refine DW.seq ?_ | refine DW.block ?_ | refine DW.skip ?_ | refine DW.exit ?_ | refine DW.condT rfl ?_ | refine DW.condF rfl ?_))
  exact DW.ret ⟨.inl rfl, b, rfl, Heap.set_self _ _ _, (Over.refl _).set hb, hb⟩

end Go.Proofs.YtcdihmhmoddppaaGreat
