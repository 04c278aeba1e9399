/-
  Package vector: Lead, Add, Scale. No condition.
-/
import Derived.Test.YtblileclefbklaaKDh17
import Derived.Test.YtblileclefbklaaKDh8
import Derived.Test.YtblileclefbklaaKDh11

namespace Go.Proofs.Ytblileclefbklaa
open Go.RowKit
set_option linter.unusedVariables false
set_option linter.unusedSimpArgs false
set_option maxHeartbeats 8000000

theorem LeadOf_pure (r : Rg) (v : Vc) {n : Nat} {B : Int} {L : Nat} (hn : n ≤ 3) (hB : B ≤ 1000000) (hl : v.length ≤ 1000000) (hL : L ≤ 4000000000000) (hv : VB r n B L v) : Pure Try.prog 22 [rgD r, vcD v] (leadD (topV r v)) := by
  intro H
  refine PureH.of_bodyR Try.func22 rfl (by decide) (Nat.le_of_ble_eq_true rfl) fun w0 => ?_
  have hok := fun (i j : Nat) (hi : i < v.length) (h0 : j < v[i].length) => (hv _ (List.getElem_mem hi)).1.all _ (List.getElem_mem h0)
  (repeat (first | refine RO.Sv ?_ | refine RO.Yv ?_ | refine RO.no rfl (by decide) rfl ?_ | refine RO.nil ?_ | refine DW.region ?_ | refine DW.seq ?_ | refine DW.block ?_ | refine DW.skip ?_ | refine DW.exit ?_ | refine DW.condT rfl ?_ | refine DW.condF rfl ?_))
  refine RO.dyn rfl (d_alloc fun b5 hb5 => ?_)
  (repeat (first | refine RO.Sv ?_ | refine RO.Yv ?_ | refine RO.no rfl (by decide) rfl ?_ | refine RO.nil ?_ | refine DW.region ?_ | refine DW.seq ?_ | refine DW.block ?_ | refine DW.skip ?_ | refine DW.exit ?_ | refine DW.condT rfl ?_ | refine DW.condF rfl ?_))
  refine RO.dyn rfl (d_alloc fun b7 hb7 => ?_)
  have hne : b5 ≠ b7 := fun e => by rw [← e, Heap.set_self] at hb7; cases hb7
  (repeat (first | refine RO.Sv ?_ | refine RO.Yv ?_ | refine RO.no rfl (by decide) rfl ?_ | refine RO.nil ?_ | refine DW.region ?_ | refine DW.seq ?_ | refine DW.block ?_ | refine DW.skip ?_ | refine DW.exit ?_ | refine DW.condT rfl ?_ | refine DW.condF rfl ?_))
  refine DW.loopI (fun k : Nat => k ≤ v.length) (fun k => [(1, vcD v), (2, .ipt 4 [rgD r] 0 0), (5, .ptr b5 0), (6, I (atOf (topAt r v k))), (7, .ptr b7 0), (8, I k)]) (fun k => (H.set b5 (47, [I 0, .nil])).set b7 (47, tmCells (topAt r v k))) (fun k => v.length - k) 0 (Nat.zero_le _) rfl ⟨rfl, rfl, rfl, rfl, rfl, rfl, trivial⟩ fun k hk => ?_
  (repeat (first | refine RO.Sv ?_ | refine RO.Yv ?_ | refine RO.no rfl (by decide) rfl ?_ | refine RO.nil ?_ | refine DW.region ?_ | refine DW.seq ?_ | refine DW.block ?_ | refine DW.skip ?_ | refine DW.exit ?_ | refine DW.condT rfl ?_ | refine DW.condF rfl ?_))
  refine DW.cond rfl (fun hb => ?_) (fun hb => ?_)
  · have hlt : k < v.length := by have := of_decide_eq_true hb; omega
    clear hb
    have hsucc := topAt_succ (r := r) hlt
    have hvk := (hv _ (List.getElem_mem hlt)).2
    (repeat (first | refine RO.Sv ?_ | refine RO.Yv ?_ | refine RO.no rfl (by decide) rfl ?_ | refine RO.nil ?_ | refine DW.region ?_ | refine DW.seq ?_ | refine DW.block ?_ | refine DW.skip ?_ | refine DW.exit ?_ | refine DW.condT rfl ?_ | refine DW.condF rfl ?_))
    refine DW.loopI (fun j : Nat => j ≤ v[k].length) (fun j => [(1, vcD v), (2, .ipt 4 [rgD r] 0 0), (5, .ptr b5 0), (6, I (atOf (topAt r v (if j = 0 then k else k + 1)))), (7, .ptr b7 0), (8, I k), (9, I j)]) (fun j => (H.set b5 (47, [I 0, .nil])).set b7 (47, tmCells (topAt r v (if j = 0 then k else k + 1)))) (fun j => v[k].length - j) 0 (Nat.zero_le _) rfl ⟨rfl, rfl, rfl, rfl, rfl, rfl, rfl, trivial⟩ fun j hj => ?_
    (repeat (first | refine RO.Sv ?_ | refine RO.Yv ?_ | refine RO.no rfl (by decide) rfl ?_ | refine RO.nil ?_ | refine DW.region ?_ | refine DW.seq ?_ | refine DW.block ?_ | refine DW.skip ?_ | refine DW.exit ?_ | refine DW.condT rfl ?_ | refine DW.condF rfl ?_))
    refine DW.cond rfl (fun hb => ?_) (fun hb => ?_)
    · have hjl : j < v[k].length := by have := of_decide_eq_true hb; omega
      clear hb
      have ht := hok k j hlt hjl
      have hstay : ∀ {x : Option (Nat × Tm)}, topAt r v (if j = 0 then k else k + 1) = x → topAt r v (k + 1) = x → topAt r v (if j + 1 = 0 then k else k + 1) = topAt r v (if j = 0 then k else k + 1) := fun h1 h2 => by
        rw [if_neg (by omega), h1, h2]
      (repeat (first | refine RO.Sv ?_ | refine RO.Yv ?_ | refine RO.no rfl (by decide) rfl ?_ | refine RO.nil ?_ | refine DW.region ?_ | refine DW.seq ?_ | refine DW.block ?_ | refine DW.skip ?_ | refine DW.exit ?_ | refine DW.condT rfl ?_ | refine DW.condF rfl ?_))
      refine DW.drawS 18 Try.mixed (by kernel_rfl) (by decide) ?_
      dsimp only [List.take, List.drop]
      cases hx : topAt r v (if j = 0 then k else k + 1) with
      | none =>
        have hj0 : j = 0 := Classical.byContradiction fun hj0 => by
          obtain ⟨a, u, h1, _⟩ := ahead_no hv hlt (by omega) hjl
          rw [if_neg hj0, h1] at hx
          cases hx
        subst hj0
        rw [if_pos rfl] at hx
        have hnew : topAt r v (k + 1) = some (k, v[k][0]) := by
          rw [hsucc, hx, topStep_none hjl]
        (repeat (first | refine RS.Sv ?_ | refine RS.Yv ?_ | refine RS.no rfl (by decide) rfl ?_ | refine RS.nil ?_))
        (repeat (first | refine RO.Sv ?_ | refine RO.Yv ?_ | refine RO.no rfl (by decide) rfl ?_ | refine RO.nil ?_ | refine DW.region ?_ | refine DW.seq ?_ | refine DW.block ?_ | refine DW.skip ?_ | refine DW.exit ?_ | refine DW.condT rfl ?_ | refine DW.condF rfl ?_))
        refine DW.drawS 9 Try.mixed (by kernel_rfl) (by decide) ?_
        dsimp only [List.take, List.drop]
        (repeat (first | refine RS.Sv ?_ | refine RS.Yv ?_ | refine RS.no rfl (by decide) rfl ?_ | refine RS.nil ?_))
        refine RO.dyn rfl (d_storeTm rfl rfl (Heap.set_self _ _ _) rfl ?_)
        (repeat (first | refine RO.Sv ?_ | refine RO.Yv ?_ | refine RO.no rfl (by decide) rfl ?_ | refine RO.nil ?_ | refine DW.region ?_ | refine DW.seq ?_ | refine DW.block ?_ | refine DW.skip ?_ | refine DW.exit ?_ | refine DW.condT rfl ?_ | refine DW.condF rfl ?_))
        rw [Heap.set_set]
        exact ⟨1, hjl, by dsimp only; omega, by first | (dsimp only; rw [if_neg (by omega), hnew]; rfl) | (rw [if_neg (by omega), hnew]; rfl), rfl, rfl, rfl, by first | (dsimp only; rw [if_neg (by omega), hnew]; rfl) | (rw [if_neg (by omega), hnew]; rfl), rfl, rfl, rfl, trivial⟩
      | some x =>
        obtain ⟨a, u⟩ := x
        have hat : atOf (some (a, u)) = (a : Int) := rfl
        have hneg : decide ((a : Int) < 0) = false := decide_eq_false (by omega)
        obtain ⟨hak, ha, ha2, hau⟩ := topAt_ok (by split <;> omega) hx
        have hu := hok a 0 ha ha2
        rw [hau] at hu
        have hcl : tmCells (some (a, u)) = [I u.c, intsD u.e] := rfl
        rw [hat, hcl]
        (repeat (first | refine RS.Sv ?_ | refine RS.Yv ?_ | refine RS.no rfl (by decide) rfl ?_ | refine RS.nil ?_))
        rw [hneg]
        (repeat (first | refine RS.Sv ?_ | refine RS.Yv ?_ | refine RS.no rfl (by decide) rfl ?_ | refine RS.nil ?_))
        refine RS.yes rfl (fun H' hov => sta_call rfl rfl (Ahead_pure r k a (ht.mok hn hB) (hu.mok hn hB) (by rw [ht.len, hu.len]) _)) rfl ?_
        (repeat (first | refine RS.Sv ?_ | refine RS.Yv ?_ | refine RS.no rfl (by decide) rfl ?_ | refine RS.nil ?_))
        cases h2 : firstT r k v[k][j].e a u.e
        · have hnew : topAt r v (k + 1) = some (a, u) := by
            by_cases hj0 : j = 0
            · subst hj0
              rw [if_pos rfl] at hx
              rw [hsucc, hx, topStep_some hjl, h2, if_neg (by simp)]
            · rw [if_neg hj0] at hx
              exact hx
          (repeat (first | refine RO.Sv ?_ | refine RO.Yv ?_ | refine RO.no rfl (by decide) rfl ?_ | refine RO.nil ?_ | refine DW.region ?_ | refine DW.seq ?_ | refine DW.block ?_ | refine DW.skip ?_ | refine DW.exit ?_ | refine DW.condT rfl ?_ | refine DW.condF rfl ?_))
          exact ⟨j + 1, hjl, by dsimp only; omega, by first | (dsimp only; rw [if_neg (by omega), hnew]; rfl) | (rw [if_neg (by omega), hnew]; rfl), rfl, rfl, rfl, by first | (dsimp only; rw [if_neg (by omega), hnew]; rfl) | (rw [if_neg (by omega), hnew]; rfl), rfl, rfl, rfl, trivial⟩
        · have hj0 : j = 0 := Classical.byContradiction fun hj0 => by
            obtain ⟨a', u', h1, h3⟩ := ahead_no hv hlt (by omega) hjl
            rw [if_neg hj0, h1] at hx
            cases hx
            rw [h3] at h2
            cases h2
          subst hj0
          rw [if_pos rfl] at hx
          have hnew : topAt r v (k + 1) = some (k, v[k][0]) := by
            rw [hsucc, hx, topStep_some hjl, h2, if_pos rfl]
          (repeat (first | refine RO.Sv ?_ | refine RO.Yv ?_ | refine RO.no rfl (by decide) rfl ?_ | refine RO.nil ?_ | refine DW.region ?_ | refine DW.seq ?_ | refine DW.block ?_ | refine DW.skip ?_ | refine DW.exit ?_ | refine DW.condT rfl ?_ | refine DW.condF rfl ?_))
          refine DW.drawS 9 Try.mixed (by kernel_rfl) (by decide) ?_
          dsimp only [List.take, List.drop]
          (repeat (first | refine RS.Sv ?_ | refine RS.Yv ?_ | refine RS.no rfl (by decide) rfl ?_ | refine RS.nil ?_))
          refine RO.dyn rfl (d_storeTm rfl rfl (Heap.set_self _ _ _) rfl ?_)
          (repeat (first | refine RO.Sv ?_ | refine RO.Yv ?_ | refine RO.no rfl (by decide) rfl ?_ | refine RO.nil ?_ | refine DW.region ?_ | refine DW.seq ?_ | refine DW.block ?_ | refine DW.skip ?_ | refine DW.exit ?_ | refine DW.condT rfl ?_ | refine DW.condF rfl ?_))
          rw [Heap.set_set]
          exact ⟨1, hjl, by dsimp only; omega, by first | (dsimp only; rw [if_neg (by omega), hnew]; rfl) | (rw [if_neg (by omega), hnew]; rfl), rfl, rfl, rfl, by first | (dsimp only; rw [if_neg (by omega), hnew]; rfl) | (rw [if_neg (by omega), hnew]; rfl), rfl, rfl, rfl, trivial⟩
    · have hje : j = v[k].length := by have := of_decide_eq_false hb; omega
      clear hb
      have hnew : topAt r v (if j = 0 then k else k + 1) = topAt r v (k + 1) := by
        by_cases hj0 : j = 0
        · rw [if_pos hj0, hsucc, show v[k] = [] from List.length_eq_zero_iff.1 (by omega)]
          rfl
        · rw [if_neg hj0]
      rw [hnew]
      (repeat (first | refine RO.Sv ?_ | refine RO.Yv ?_ | refine RO.no rfl (by decide) rfl ?_ | refine RO.nil ?_ | refine DW.region ?_ | refine DW.seq ?_ | refine DW.block ?_ | refine DW.skip ?_ | refine DW.exit ?_ | refine DW.condT rfl ?_ | refine DW.condF rfl ?_))
      exact ⟨k + 1, hlt, by dsimp only; omega, rfl, rfl, rfl, rfl, rfl, rfl, rfl, trivial⟩
  · have hke : k = v.length := by have := of_decide_eq_false hb; omega
    subst hke
    clear hb
    unfold topV
    (repeat (first | refine RO.Sv ?_ | refine RO.Yv ?_ | refine RO.no rfl (by decide) rfl ?_ | refine RO.nil ?_ | refine DW.region ?_ | refine DW.seq ?_ | refine DW.block ?_ | refine DW.skip ?_ | refine DW.exit ?_ | refine DW.condT rfl ?_ | refine DW.condF rfl ?_))
    refine DW.drawS 3 Try.mixed (by kernel_rfl) (by decide) ?_
    dsimp only [List.take, List.drop]
    refine RS.sta (fun H' hov => by (first | exact sta_move rfl | exact sta_assign rfl | exact s_cmp rfl rfl rfl | (refine s_arith rfl rfl rfl ?_ ?_ <;> omega) | (refine sta_rem rfl rfl ?_ ?_ <;> omega) | exact s_lenM rfl | exact s_len rfl rfl | exact s_field rfl | (refine s_indexM rfl rfl ?_; omega) | (refine s_indexM0 rfl rfl ?_; omega) | (refine s_loadM (fun _ => rfl) rfl ?_; omega) | (refine s_loadTm rfl ?_; omega) | (refine s_loadC rfl ?_; omega) | (refine s_loadE rfl ?_; omega) | exact s_load rfl rfl | exact s_loadAgg rfl rfl rfl | exact sta_not rfl | exact sta_extract rfl rfl | exact s_pickT rfl rfl | exact s_pickF rfl rfl | exact sta_box (k := 1) rfl rfl | exact sta_box (k := 4) rfl rfl | exact sta_box (k := 2) rfl rfl | exact s_fn rfl | exact s_lit1 (k := 1) (by decide) rfl rfl | exact s_lit1 (k := 2) (by decide) rfl rfl | exact s_litEmpty | exact s_fieldMut rfl | exact s_loadMut rfl (Heap.set_self _ _ _) rfl | exact s_loadMutAgg rfl (Heap.set_self _ _ _) rfl rfl)) rfl ?_
    have hfin : ∀ (cs : List D), cs.length = 2 → Over H ((((H.set b5 (47, [I 0, .nil])).set b7 (47, cs))).set b5 (47, cs)) := fun cs _ => by
      refine Over.set (Over.set (Over.set (Over.refl _) hb5) ?_) hb5
      rw [Heap.set_other _ _ hne.symm] at hb7
      exact hb7
    cases hx : topAt r v v.length with
    | none =>
      refine RS.sta (r_loadMutAgg (ds := [I 0, .nil]) rfl (Heap.set_self _ _ _) rfl rfl) rfl ?_
      (repeat (first | refine RS.Sv ?_ | refine RS.Yv ?_ | refine RS.no rfl (by decide) rfl ?_ | refine RS.nil ?_))
      refine RO.dyn rfl (d_store (k := 2) rfl rfl rfl (by rw [Heap.set_other _ _ hne, Heap.set_self]) (by decide) (by simp [cellsOf, D.isCell]) ?_)
      (repeat (first | refine RO.Sv ?_ | refine RO.Yv ?_ | refine RO.no rfl (by decide) rfl ?_ | refine RO.nil ?_ | refine DW.region ?_ | refine DW.seq ?_ | refine DW.block ?_ | refine DW.skip ?_ | refine DW.exit ?_ | refine DW.condT rfl ?_ | refine DW.condF rfl ?_))
      exact DW.ret ⟨.inl rfl, _, .tmp rfl (.cell (cells := [I 0, .nil]) inferInstance rfl (Heap.set_self _ _ _) .nil), hfin [I 0, .nil] rfl, .tup2 (.same _) frz_tm0⟩
    | some x =>
      obtain ⟨a, u⟩ := x
      refine RS.sta (r_loadMutAgg rfl (Heap.set_self _ _ _) rfl rfl) rfl ?_
      (repeat (first | refine RS.Sv ?_ | refine RS.Yv ?_ | refine RS.no rfl (by decide) rfl ?_ | refine RS.nil ?_))
      refine RO.dyn rfl (d_storeTm (tm := u) rfl rfl (by rw [Heap.set_other _ _ hne, Heap.set_self]) rfl ?_)
      (repeat (first | refine RO.Sv ?_ | refine RO.Yv ?_ | refine RO.no rfl (by decide) rfl ?_ | refine RO.nil ?_ | refine DW.region ?_ | refine DW.seq ?_ | refine DW.block ?_ | refine DW.skip ?_ | refine DW.exit ?_ | refine DW.condT rfl ?_ | refine DW.condF rfl ?_))
      exact DW.ret ⟨.inl rfl, _, .tmp rfl (.cell (cells := [I u.c, intsD u.e]) inferInstance rfl (Heap.set_self _ _ _) .nil), hfin [I u.c, intsD u.e] rfl, .tup2 (.same _) (.same _)⟩

end Go.Proofs.Ytblileclefbklaa

namespace Go.Proofs.Ytblileclefbklaa
set_option linter.unusedVariables false

theorem turn_all' : ((List.range 102).all fun p => ckP (p : Int) != 0 || ((List.range p).all fun a => a == 0 || ((a : Int) * turnP p a % p == 1))) = true := by decide +kernel

theorem turnP_inv' {p : Int} (hp : ckP p = 0) : InvOk (turnP p) p := by
  intro a h0 h1
  have h2 := ckP_ok hp
  obtain ⟨q, rfl⟩ := Int.eq_ofNat_of_zero_le (show 0 ≤ p by omega)
  obtain ⟨b, rfl⟩ := Int.eq_ofNat_of_zero_le (show 0 ≤ a by omega)
  have h3 := List.all_eq_true.1 turn_all' q (List.mem_range.2 (by omega))
  rw [hp] at h3
  have h4 : ((List.range q).all fun a => a == 0 || ((a : Int) * turnP q a % q == 1)) = true := h3
  have h5 := List.all_eq_true.1 h4 b (List.mem_range.2 (by omega))
  simp only [Bool.or_eq_true, beq_iff_eq] at h5
  exact h5.resolve_left (by omega)

theorem turnGo_in {p : Int} (hp : 0 < p) : ∀ (f : Nat) (n a out : Int), 0 ≤ out → out < p → 0 ≤ turnGo p f n a out ∧ turnGo p f n a out < p
  | 0, _, _, out, h0, h1 => ⟨h0, h1⟩
  | f + 1, n, a, out, h0, h1 => by
    simp only [turnGo]
    split
    · exact ⟨h0, h1⟩
    · refine turnGo_in hp f _ _ _ ?_ ?_
      · split
        · exact Int.emod_nonneg _ (by omega)
        · exact h0
      · split
        · exact Int.emod_lt_of_pos _ hp
        · exact h1

theorem turnP_in {p : Int} (hp : 2 ≤ p) (a : Int) : 0 ≤ turnP p a ∧ turnP p a < p := turnGo_in (by omega) _ _ _ _ (by omega) (by omega)

theorem ckP_prm {p : Int} (hp : ckP p = 0) : Prm p := Prm.of (by have := ckP_ok hp; omega) (turnP_inv' hp)

end Go.Proofs.Ytblileclefbklaa

namespace Go.Proofs.Ytblileclefbklaa
open Go.RowKit
set_option linter.unusedVariables false
set_option linter.unusedSimpArgs false
set_option maxHeartbeats 8000000

theorem Heap.none_of_set {H : Heap} {b c : Nat} {x : TypeId × List D} (hne : b ≠ c) (h : H.set b x c = none) : H c = none := by
  rw [Heap.set_other _ _ hne.symm] at h; exact h

theorem two_le {l : List Vc} {v : Vc} {K : Nat} (hl : v.length ≤ K ∧ ∀ f ∈ v, f.length ≤ K) : ∀ u ∈ [v], u.length ≤ K ∧ ∀ f ∈ u, f.length ≤ K := fun u hu => by
  rw [List.mem_singleton.1 hu]; exact hl

theorem two_le2 {v w : Vc} {K : Nat} (hl : v.length ≤ K ∧ ∀ f ∈ v, f.length ≤ K) (hw : w.length ≤ K ∧ ∀ f ∈ w, f.length ≤ K) : ∀ u ∈ [v, w], u.length ≤ K ∧ ∀ f ∈ u, f.length ≤ K := fun u hu => by
  rcases List.mem_cons.1 hu with rfl | hu
  · exact hl
  · rw [List.mem_singleton.1 hu]; exact hw

def leadED (x : Int × Tm × Int) : D := .tup [I x.1, tmD x.2.1, I x.2.2]

theorem vLead_pure (r : Rg) (v : Vc) (hl : v.length ≤ 4611686018427387904 ∧ ∀ f ∈ v, f.length ≤ 4611686018427387904) : Pure Try.prog 17 [rgD r, vcD v] (leadED (leadT r v)) := by
  intro H
  refine PureH.of_bodyR Try.func17 rfl (by decide) (Nat.le_of_ble_eq_true rfl) fun w0 => ?_
  (repeat (first | refine RO.Sv ?_ | refine RO.Yv ?_ | refine RO.no rfl (by decide) rfl ?_ | refine RO.nil ?_ | refine DW.region ?_ | refine DW.seq ?_ | refine DW.block ?_ | refine DW.skip ?_ | refine DW.exit ?_ | refine DW.condT rfl ?_ | refine DW.condF rfl ?_))
  refine RO.dyn rfl (d_alloc fun b5 hb5 => ?_)
  (repeat (first | refine RO.Sv ?_ | refine RO.Yv ?_ | refine RO.no rfl (by decide) rfl ?_ | refine RO.nil ?_ | refine DW.region ?_ | refine DW.seq ?_ | refine DW.block ?_ | refine DW.skip ?_ | refine DW.exit ?_ | refine DW.condT rfl ?_ | refine DW.condF rfl ?_))
  refine RO.sta (sta_call rfl rfl (alike_pure r [v] (by simp) (two_le (l := []) hl) _)) rfl ?_
  (repeat (first | refine RO.Sv ?_ | refine RO.Yv ?_ | refine RO.no rfl (by decide) rfl ?_ | refine RO.nil ?_ | refine DW.region ?_ | refine DW.seq ?_ | refine DW.block ?_ | refine DW.skip ?_ | refine DW.exit ?_ | refine DW.condT rfl ?_ | refine DW.condF rfl ?_))
  unfold leadT
  by_cases hck : alikeCk r [v] = 0
  case neg =>
    rw [if_pos (by simpa using hck), show (alikeCk r [v] != 0) = true by simpa using hck]
    (repeat (first | refine RO.Sv ?_ | refine RO.Yv ?_ | refine RO.no rfl (by decide) rfl ?_ | refine RO.nil ?_ | refine DW.region ?_ | refine DW.seq ?_ | refine DW.block ?_ | refine DW.skip ?_ | refine DW.exit ?_ | refine DW.condT rfl ?_ | refine DW.condF rfl ?_))
    refine RO.sta (s_buildT (out := [I 0, .nil]) rfl rfl) rfl ?_
    (repeat (first | refine RO.Sv ?_ | refine RO.Yv ?_ | refine RO.no rfl (by decide) rfl ?_ | refine RO.nil ?_ | refine DW.region ?_ | refine DW.seq ?_ | refine DW.block ?_ | refine DW.skip ?_ | refine DW.exit ?_ | refine DW.condT rfl ?_ | refine DW.condF rfl ?_))
    refine RO.dyn rfl (d_store (k := 2) rfl rfl rfl (Heap.set_self _ _ _) (by decide) (by simp [cellsOf, D.isCell]) ?_)
    (repeat (first | refine RO.Sv ?_ | refine RO.Yv ?_ | refine RO.no rfl (by decide) rfl ?_ | refine RO.nil ?_ | refine DW.region ?_ | refine DW.seq ?_ | refine DW.block ?_ | refine DW.skip ?_ | refine DW.exit ?_ | refine DW.condT rfl ?_ | refine DW.condF rfl ?_))
    rw [Heap.set_set]
    exact DW.ret ⟨.inl rfl, _, .tmp rfl (.cell (cells := [I 0, .nil]) inferInstance rfl (Heap.set_self _ _ _) (.tmp rfl .nil)), (Over.refl _).set hb5, .tup3 (.same _) frz_tm0 (.same _)⟩
  obtain ⟨hr, hal⟩ := alikeCk_ok hck
  obtain ⟨hv1, hv2, hv3⟩ := hal v (by simp)
  have hr2 := ringCk_ok hr
  have hvb := hv3.vb
  rw [if_neg (by simpa using hck), show (alikeCk r [v] != 0) = false by simpa using hck]
  (repeat (first | refine RO.Sv ?_ | refine RO.Yv ?_ | refine RO.no rfl (by decide) rfl ?_ | refine RO.nil ?_ | refine DW.region ?_ | refine DW.seq ?_ | refine DW.block ?_ | refine DW.skip ?_ | refine DW.exit ?_ | refine DW.condT rfl ?_ | refine DW.condF rfl ?_))
  refine RO.sta (sta_call rfl rfl (vTop_pure r v (by omega) (by omega) (by omega) hvb _)) rfl ?_
  (repeat (first | refine RO.Sv ?_ | refine RO.Yv ?_ | refine RO.no rfl (by decide) rfl ?_ | refine RO.nil ?_ | refine DW.region ?_ | refine DW.seq ?_ | refine DW.block ?_ | refine DW.skip ?_ | refine DW.exit ?_ | refine DW.condT rfl ?_ | refine DW.condF rfl ?_))
  refine RO.dyn rfl (d_alloc fun b9 hb9 => ?_)
  have hne : b5 ≠ b9 := fun e => by rw [← e, Heap.set_self] at hb9; cases hb9
  (repeat (first | refine RO.Sv ?_ | refine RO.Yv ?_ | refine RO.no rfl (by decide) rfl ?_ | refine RO.nil ?_ | refine DW.region ?_ | refine DW.seq ?_ | refine DW.block ?_ | refine DW.skip ?_ | refine DW.exit ?_ | refine DW.condT rfl ?_ | refine DW.condF rfl ?_))
  refine RO.dyn rfl (d_storeTm rfl rfl (Heap.set_self _ _ _) rfl ?_)
  rw [Heap.set_set]
  cases hx : topV r v with
  | none =>
    (repeat (first | refine RO.Sv ?_ | refine RO.Yv ?_ | refine RO.no rfl (by decide) rfl ?_ | refine RO.nil ?_ | refine DW.region ?_ | refine DW.seq ?_ | refine DW.block ?_ | refine DW.skip ?_ | refine DW.exit ?_ | refine DW.condT rfl ?_ | refine DW.condF rfl ?_))
    refine RO.sta (s_buildT (out := [I 0, .nil]) rfl rfl) rfl ?_
    (repeat (first | refine RO.Sv ?_ | refine RO.Yv ?_ | refine RO.no rfl (by decide) rfl ?_ | refine RO.nil ?_ | refine DW.region ?_ | refine DW.seq ?_ | refine DW.block ?_ | refine DW.skip ?_ | refine DW.exit ?_ | refine DW.condT rfl ?_ | refine DW.condF rfl ?_))
    refine RO.dyn rfl (d_store (k := 2) rfl rfl rfl (by rw [Heap.set_other _ _ hne, Heap.set_self]) (by decide) (by simp [cellsOf, D.isCell]) ?_)
    (repeat (first | refine RO.Sv ?_ | refine RO.Yv ?_ | refine RO.no rfl (by decide) rfl ?_ | refine RO.nil ?_ | refine DW.region ?_ | refine DW.seq ?_ | refine DW.block ?_ | refine DW.skip ?_ | refine DW.exit ?_ | refine DW.condT rfl ?_ | refine DW.condF rfl ?_))
    refine DW.ret ⟨.inl rfl, _, .tmp rfl (.cell (cells := [I 0, .nil]) inferInstance rfl (Heap.set_self _ _ _) (.tmp rfl .nil)), ?_, .tup3 (.same _) frz_tm0 (.same _)⟩
    exact ((Over.refl H).set hb5 |>.set (Heap.none_of_set hne hb9)).set hb5
  | some x =>
    obtain ⟨a, t⟩ := x
    obtain ⟨hak, ha, ha2, hau⟩ := topAt_ok (Nat.le_refl _) hx
    have ht := (hvb _ (List.getElem_mem ha)).1.all _ (List.getElem_mem ha2)
    rw [hau] at ht
    have htl := ht.len
    have hat : atOf (some (a, t)) = (a : Int) := rfl
    have htm : tmOf (some (a, t)) = t := rfl
    have hneg : decide ((a : Int) < 0) = false := decide_eq_false (by omega)
    rw [hat, htm]
    (repeat (first | refine RO.Sv ?_ | refine RO.Yv ?_ | refine RO.no rfl (by decide) rfl ?_ | refine RO.nil ?_ | refine DW.region ?_ | refine DW.seq ?_ | refine DW.block ?_ | refine DW.skip ?_ | refine DW.exit ?_ | refine DW.condT rfl ?_ | refine DW.condF rfl ?_))
    rw [hneg]
    (repeat (first | refine RO.Sv ?_ | refine RO.Yv ?_ | refine RO.no rfl (by decide) rfl ?_ | refine RO.nil ?_ | refine DW.region ?_ | refine DW.seq ?_ | refine DW.block ?_ | refine DW.skip ?_ | refine DW.exit ?_ | refine DW.condT rfl ?_ | refine DW.condF rfl ?_))
    refine DW.drawS 7 Try.mixed (by kernel_rfl) (by decide) ?_
    dsimp only [List.take, List.drop]
    refine RS.sta (fun H' hov => by (first | exact sta_move rfl | exact sta_assign rfl | exact s_cmp rfl rfl rfl | (refine s_arith rfl rfl rfl ?_ ?_ <;> omega) | (refine sta_rem rfl rfl ?_ ?_ <;> omega) | exact s_lenM rfl | exact s_len rfl rfl | exact s_field rfl | (refine s_indexM rfl rfl ?_; omega) | (refine s_indexM0 rfl rfl ?_; omega) | (refine s_loadM (fun _ => rfl) rfl ?_; omega) | (refine s_loadTm rfl ?_; omega) | (refine s_loadC rfl ?_; omega) | (refine s_loadE rfl ?_; omega) | exact s_load rfl rfl | exact s_loadAgg rfl rfl rfl | exact sta_not rfl | exact sta_extract rfl rfl | exact s_pickT rfl rfl | exact s_pickF rfl rfl | exact sta_box (k := 1) rfl rfl | exact sta_box (k := 4) rfl rfl | exact sta_box (k := 2) rfl rfl | exact s_fn rfl | exact s_lit1 (k := 1) (by decide) rfl rfl | exact s_lit1 (k := 2) (by decide) rfl rfl | exact s_litEmpty | exact s_fieldMut rfl | exact s_loadMut rfl (Heap.set_self _ _ _) rfl | exact s_loadMutAgg rfl (Heap.set_self _ _ _) rfl rfl)) rfl ?_
    refine RS.sta (r_loadMutAgg (ds := [I t.c, intsD t.e]) rfl (Heap.set_self _ _ _) rfl rfl) rfl ?_
    (repeat (first | refine RS.Sv ?_ | refine RS.Yv ?_ | refine RS.no rfl (by decide) rfl ?_ | refine RS.nil ?_))
    have h1t : 0 < ([t] : Pl).length := by simp
    refine RS.sta (fun H' hov => sta_call rfl rfl (copied_pure [t] (by simp) (fun u hu => by rw [List.mem_singleton.1 hu]; omega) _)) rfl ?_
    (repeat (first | refine RS.Sv ?_ | refine RS.Yv ?_ | refine RS.no rfl (by decide) rfl ?_ | refine RS.nil ?_))
    refine RO.dyn rfl (d_storeTm (tm := t) rfl rfl (by rw [Heap.set_other _ _ hne, Heap.set_self]) rfl ?_)
    (repeat (first | refine RO.Sv ?_ | refine RO.Yv ?_ | refine RO.no rfl (by decide) rfl ?_ | refine RO.nil ?_ | refine DW.region ?_ | refine DW.seq ?_ | refine DW.block ?_ | refine DW.skip ?_ | refine DW.exit ?_ | refine DW.condT rfl ?_ | refine DW.condF rfl ?_))
    refine DW.ret ⟨.inl rfl, _, .tmp rfl (.cell (cells := [I t.c, intsD t.e]) inferInstance rfl (Heap.set_self _ _ _) (.tmp rfl .nil)), ?_, .tup3 (.same _) (.same _) (.same _)⟩
    exact ((Over.refl H).set hb5 |>.set (Heap.none_of_set hne hb9)).set hb5

/-- What Add answers. -/
def vaddT (r : Rg) (v w : Vc) : Vc × Int := if alikeCk r [v, w] ≠ 0 then ([], alikeCk r [v, w]) else vdoneT (vsumT r v w)

/-- Bounds make the polynomials readable. -/
theorem VB.mok {r : Rg} {n : Nat} {B : Int} {L : Nat} {v : Vc} (h : VB r n B L v) (hn : n ≤ 3) (hB : B ≤ 1000000) (hL : L ≤ 4000000000000) : ∀ f ∈ v, f.length ≤ 4000000000000 ∧ ∀ t ∈ f, MOk t.e :=
  fun f hf => ⟨by have := (h f hf).2; omega, fun t ht => ((h f hf).1.all t ht).mok hn hB⟩

theorem VB.mok3 {r : Rg} {n : Nat} {B : Int} {L : Nat} {v : Vc} (h : VB r n B L v) (hn : n ≤ 3) (hB : B ≤ 1000000) (hL : L ≤ 4000000000000) : ∀ f ∈ v, f.length ≤ 4000000000000 ∧ (∀ t ∈ f, MOk t.e) ∧ ∀ t ∈ f, t.e.sum ≤ topT f :=
  fun f hf => ⟨by have := (h f hf).2; omega, fun t ht => ((h f hf).1.all t ht).mok hn hB, topT_ge (h f hf).1⟩

theorem VB.len3 {r : Rg} {n : Nat} {B : Int} {L : Nat} {v : Vc} (h : VB r n B L v) (hn : n ≤ 3) (hL : L ≤ 4000000000000) : ∀ f ∈ v, f.length ≤ 4000000000000 ∧ ∀ t ∈ f, t.e.length ≤ 3 :=
  fun f hf => ⟨by have := (h f hf).2; omega, fun t ht => by have := ((h f hf).1.all t ht).len; omega⟩

theorem VB.sum {r : Rg} {n : Nat} {B : Int} {L M : Nat} {v w : Vc} (hp : 0 < r.p) (hv : VB r n B L v) (hw : VB r n B M w) : VB r n B (L + M) (vsumT r v w) := fun f hf => by
  unfold vsumT at hf
  obtain ⟨i, hi, rfl⟩ := List.getElem_of_mem hf
  rw [List.length_zipWith] at hi
  have h1 := hv _ (List.getElem_mem (show i < v.length by omega))
  have h2 := hw _ (List.getElem_mem (show i < w.length by omega))
  rw [List.getElem_zipWith]
  exact ⟨sumT_ok hp _ _ h1.1 h2.1, by have := sumT_length (p := r.p) (o := r.order) (v[i]'(by omega)) (w[i]'(by omega)); omega⟩

theorem VB.nil {r : Rg} {n : Nat} {B : Int} {L k : Nat} : VB r n B L (List.replicate k []) := fun f hf => by
  rw [List.eq_of_mem_replicate hf]; exact ⟨PB.nil _ _ _ _ _, Nat.zero_le _⟩

theorem VB.mono {r : Rg} {n : Nat} {B C : Int} {L M : Nat} {v : Vc} (h : VB r n B L v) (hB : B ≤ C) (hL : L ≤ M) : VB r n C M v := fun f hf => ⟨(h f hf).1.mono (by omega) hB, by have := (h f hf).2; omega⟩

theorem vAdd_pure (r : Rg) (v w : Vc) (hl : v.length ≤ 4611686018427387904 ∧ ∀ f ∈ v, f.length ≤ 4611686018427387904) (hlw : w.length ≤ 4611686018427387904 ∧ ∀ f ∈ w, f.length ≤ 4611686018427387904) : Pure Try.prog 15 [rgD r, vcD v, vcD w] (vecE (vaddT r v w)) := by
  intro H
  refine PureH.of_body Try.func15 rfl (by decide) (Nat.le_of_ble_eq_true rfl) fun w0 => ?_
  (repeat (first | refine RO.Sv ?_ | refine RO.Yv ?_ | refine RO.no rfl (by decide) rfl ?_ | refine RO.nil ?_ | refine DW.region ?_ | refine DW.seq ?_ | refine DW.block ?_ | refine DW.skip ?_ | refine DW.exit ?_ | refine DW.condT rfl ?_ | refine DW.condF rfl ?_))
  refine RO.sta (s_lit (pd := [(0, vcD v), (1, vcD w)]) (ds := [vcD v, vcD w]) (by decide) (by decide) rfl rfl (fun d hd => by simp at hd; rcases hd with rfl | rfl <;> rfl) rfl) rfl ?_
  refine RO.sta (sta_call rfl rfl (alike_pure r [v, w] (by simp) (two_le2 hl hlw) _)) rfl ?_
  (repeat (first | refine RO.Sv ?_ | refine RO.Yv ?_ | refine RO.no rfl (by decide) rfl ?_ | refine RO.nil ?_ | refine DW.region ?_ | refine DW.seq ?_ | refine DW.block ?_ | refine DW.skip ?_ | refine DW.exit ?_ | refine DW.condT rfl ?_ | refine DW.condF rfl ?_))
  unfold vaddT
  by_cases hck : alikeCk r [v, w] = 0
  case neg =>
    rw [if_pos (by simpa using hck), show (alikeCk r [v, w] != 0) = true by simpa using hck]
    (repeat (first | refine RO.Sv ?_ | refine RO.Yv ?_ | refine RO.no rfl (by decide) rfl ?_ | refine RO.nil ?_ | refine DW.region ?_ | refine DW.seq ?_ | refine DW.block ?_ | refine DW.skip ?_ | refine DW.exit ?_ | refine DW.condT rfl ?_ | refine DW.condF rfl ?_))
    exact DW.ret ⟨.inl rfl, _, rfl, Over.refl _, .tup2 (.nil _) (.same _)⟩
  obtain ⟨hr, hal⟩ := alikeCk_ok hck
  obtain ⟨hv1, hv2, hv3⟩ := hal v (by simp)
  obtain ⟨hw1, hw2, hw3⟩ := hal w (by simp)
  have hr2 := ringCk_ok hr
  have hp := ckP_ok hr2.1
  have e1 := hv3.len
  have e2 := hw3.len
  rw [if_neg (by simpa using hck), show (alikeCk r [v, w] != 0) = false by simpa using hck]
  (repeat (first | refine RO.Sv ?_ | refine RO.Yv ?_ | refine RO.no rfl (by decide) rfl ?_ | refine RO.nil ?_ | refine DW.region ?_ | refine DW.seq ?_ | refine DW.block ?_ | refine DW.skip ?_ | refine DW.exit ?_ | refine DW.condT rfl ?_ | refine DW.condF rfl ?_))
  refine RO.sta (sta_call rfl rfl (vSum_pure r v w (L := 2000) (M := 2000) (by omega) (B := 200) (by omega) hp (by omega) (by omega) (by omega) hv3.vb hw3.vb _)) rfl ?_
  refine RO.sta (sta_call rfl rfl (vDone_pure (vsumT r v w) (by rw [vsumT_len (by omega)]; omega) (VB.mok (VB.sum (by omega) hv3.vb hw3.vb) (by omega) (by omega) (by omega)) _)) rfl ?_
  (repeat (first | refine RO.Sv ?_ | refine RO.Yv ?_ | refine RO.no rfl (by decide) rfl ?_ | refine RO.nil ?_ | refine DW.region ?_ | refine DW.seq ?_ | refine DW.block ?_ | refine DW.skip ?_ | refine DW.exit ?_ | refine DW.condT rfl ?_ | refine DW.condF rfl ?_))
  exact DW.ret ⟨.inl rfl, _, rfl, Over.refl _, .same _⟩

/-- What Scale answers. -/
def vscaleT (r : Rg) (f : Pl) (v : Vc) : Vc × Int := if polysCk r [f] ≠ 0 then ([], polysCk r [f]) else if alikeCk r [v] ≠ 0 then ([], alikeCk r [v]) else if v.any (bigT f) = true then ([], 2) else vdoneT (vtimesT r f v)

theorem vScale_pure (r : Rg) (f : Pl) (v : Vc) (hf : f.length ≤ 4611686018427387904) (hl : v.length ≤ 4611686018427387904 ∧ ∀ f ∈ v, f.length ≤ 4611686018427387904) : Pure Try.prog 16 [rgD r, plD f, vcD v] (vecE (vscaleT r f v)) := by
  intro H
  refine PureH.of_body Try.func16 rfl (by decide) (Nat.le_of_ble_eq_true rfl) fun w0 => ?_
  (repeat (first | refine RO.Sv ?_ | refine RO.Yv ?_ | refine RO.no rfl (by decide) rfl ?_ | refine RO.nil ?_ | refine DW.region ?_ | refine DW.seq ?_ | refine DW.block ?_ | refine DW.skip ?_ | refine DW.exit ?_ | refine DW.condT rfl ?_ | refine DW.condF rfl ?_))
  refine RO.sta (sta_call rfl rfl (pCheck_pure r f hf _)) rfl ?_
  (repeat (first | refine RO.Sv ?_ | refine RO.Yv ?_ | refine RO.no rfl (by decide) rfl ?_ | refine RO.nil ?_ | refine DW.region ?_ | refine DW.seq ?_ | refine DW.block ?_ | refine DW.skip ?_ | refine DW.exit ?_ | refine DW.condT rfl ?_ | refine DW.condF rfl ?_))
  unfold vscaleT
  by_cases hpk : polysCk r [f] = 0
  case neg =>
    rw [if_pos (by simpa using hpk), show (polysCk r [f] == 0) = false by simpa using hpk]
    (repeat (first | refine RO.Sv ?_ | refine RO.Yv ?_ | refine RO.no rfl (by decide) rfl ?_ | refine RO.nil ?_ | refine DW.region ?_ | refine DW.seq ?_ | refine DW.block ?_ | refine DW.skip ?_ | refine DW.exit ?_ | refine DW.condT rfl ?_ | refine DW.condF rfl ?_))
    rw [show (polysCk r [f] != 0) = true by simpa using hpk]
    (repeat (first | refine RO.Sv ?_ | refine RO.Yv ?_ | refine RO.no rfl (by decide) rfl ?_ | refine RO.nil ?_ | refine DW.region ?_ | refine DW.seq ?_ | refine DW.block ?_ | refine DW.skip ?_ | refine DW.exit ?_ | refine DW.condT rfl ?_ | refine DW.condF rfl ?_))
    exact DW.ret ⟨.inl rfl, _, rfl, Over.refl _, .tup2 (.nil _) (.same _)⟩
  rw [if_neg (by simpa using hpk), show (polysCk r [f] == 0) = true by simpa using hpk]
  (repeat (first | refine RO.Sv ?_ | refine RO.Yv ?_ | refine RO.no rfl (by decide) rfl ?_ | refine RO.nil ?_ | refine DW.region ?_ | refine DW.seq ?_ | refine DW.block ?_ | refine DW.skip ?_ | refine DW.exit ?_ | refine DW.condT rfl ?_ | refine DW.condF rfl ?_))
  refine RO.sta (sta_call rfl rfl (alike_pure r [v] (by simp) (two_le (l := []) hl) _)) rfl ?_
  (repeat (first | refine RO.Sv ?_ | refine RO.Yv ?_ | refine RO.no rfl (by decide) rfl ?_ | refine RO.nil ?_ | refine DW.region ?_ | refine DW.seq ?_ | refine DW.block ?_ | refine DW.skip ?_ | refine DW.exit ?_ | refine DW.condT rfl ?_ | refine DW.condF rfl ?_))
  by_cases hck : alikeCk r [v] = 0
  case neg =>
    rw [if_pos (by simpa using hck), show (alikeCk r [v] != 0) = true by simpa using hck]
    (repeat (first | refine RO.Sv ?_ | refine RO.Yv ?_ | refine RO.no rfl (by decide) rfl ?_ | refine RO.nil ?_ | refine DW.region ?_ | refine DW.seq ?_ | refine DW.block ?_ | refine DW.skip ?_ | refine DW.exit ?_ | refine DW.condT rfl ?_ | refine DW.condF rfl ?_))
    exact DW.ret ⟨.inl rfl, _, rfl, Over.refl _, .tup2 (.nil _) (.same _)⟩
  obtain ⟨hr, hal⟩ := alikeCk_ok hck
  obtain ⟨hv1, hv2, hv3⟩ := hal v (by simp)
  have hfo := (polysCk_ok hpk).2 f (by simp)
  have hr2 := ringCk_ok hr
  have hp := ckP_ok hr2.1
  have hpr : Prm r.p := ckP_prm hr2.1
  have hvb := hv3.vb
  have hfm : ∀ t ∈ f, MOk t.e := fun t ht => (hfo.ok.all t ht).mok (by omega) (by omega)
  rw [if_neg (by simpa using hck), show (alikeCk r [v] != 0) = false by simpa using hck]
  (repeat (first | refine RO.Sv ?_ | refine RO.Yv ?_ | refine RO.no rfl (by decide) rfl ?_ | refine RO.nil ?_ | refine DW.region ?_ | refine DW.seq ?_ | refine DW.block ?_ | refine DW.skip ?_ | refine DW.exit ?_ | refine DW.condT rfl ?_ | refine DW.condF rfl ?_))
  refine RO.dyn rfl ((opD_call rfl rfl (nought_call v.length (by omega))).mono fun d H1 ⟨b, hbn, hd, hH⟩ => ?_)
  subst hd; subst hH
  (repeat (first | refine RO.Sv ?_ | refine RO.Yv ?_ | refine RO.no rfl (by decide) rfl ?_ | refine RO.nil ?_ | refine DW.region ?_ | refine DW.seq ?_ | refine DW.block ?_ | refine DW.skip ?_ | refine DW.exit ?_ | refine DW.condT rfl ?_ | refine DW.condF rfl ?_))
  have hlen : (vtimesT r f v).length = v.length := by simp [vtimesT]
  have hov : ∀ y, Over H (H.set b y) := fun y => (Over.refl _).set hbn
  refine DW.loopI (fun k : Nat => k ≤ v.length ∧ (v.drop k).any (bigT f) = v.any (bigT f)) (fun k => [(1, plD f), (3, .ipt 4 [rgD r] 0 0), (9, .ref b 0 v.length 1), (27, vcD v), (28, I v.length), (29, I k)]) (fun k => H.set b (41, rowTo ((vtimesT r f v).map plD) .nil k)) (fun k => v.length - k) 0 ⟨Nat.zero_le _, rfl⟩
    (by rw [rowTo_zero, List.length_map, hlen]) ⟨rfl, rfl, rfl, rfl, rfl, rfl, trivial⟩ fun k ⟨hk, hg⟩ => ?_
  (repeat (first | refine RO.Sv ?_ | refine RO.Yv ?_ | refine RO.no rfl (by decide) rfl ?_ | refine RO.nil ?_ | refine DW.region ?_ | refine DW.seq ?_ | refine DW.block ?_ | refine DW.skip ?_ | refine DW.exit ?_ | refine DW.condT rfl ?_ | refine DW.condF rfl ?_))
  refine DW.cond rfl (fun hb => ?_) (fun hb => ?_)
  · have hlt : k < v.length := by have := of_decide_eq_true hb; omega
    have hlt2 : k < (vtimesT r f v).length := by omega
    obtain ⟨a1, a2⟩ := hvb _ (List.getElem_mem hlt)
    have hfl := hfo.len
    have hmul : f.length * v[k].length ≤ 2000 * 2000 := Nat.mul_le_mul hfl a2
    rw [any_drop hlt] at hg
    clear hb
    (repeat (first | refine RO.Sv ?_ | refine RO.Yv ?_ | refine RO.no rfl (by decide) rfl ?_ | refine RO.nil ?_ | refine DW.region ?_ | refine DW.seq ?_ | refine DW.block ?_ | refine DW.skip ?_ | refine DW.exit ?_ | refine DW.condT rfl ?_ | refine DW.condF rfl ?_))
    refine RO.sta (sta_call rfl rfl (great_pure f v[k] (by omega) (by omega) hfm (fun t ht => (a1.all t ht).mok (by omega) (by omega)) _)) rfl ?_
    (repeat (first | refine RO.Sv ?_ | refine RO.Yv ?_ | refine RO.no rfl (by decide) rfl ?_ | refine RO.nil ?_ | refine DW.region ?_ | refine DW.seq ?_ | refine DW.block ?_ | refine DW.skip ?_ | refine DW.exit ?_ | refine DW.condT rfl ?_ | refine DW.condF rfl ?_))
    cases hbig : bigT f v[k]
    case true =>
      rw [hbig, Bool.true_or] at hg
      rw [if_pos hg.symm]
      (repeat (first | refine RO.Sv ?_ | refine RO.Yv ?_ | refine RO.no rfl (by decide) rfl ?_ | refine RO.nil ?_ | refine DW.region ?_ | refine DW.seq ?_ | refine DW.block ?_ | refine DW.skip ?_ | refine DW.exit ?_ | refine DW.condT rfl ?_ | refine DW.condF rfl ?_))
      exact DW.ret ⟨.inl rfl, _, rfl, hov _, .tup2 (.nil _) (.same _)⟩
    rw [hbig, Bool.false_or] at hg
    (repeat (first | refine RO.Sv ?_ | refine RO.Yv ?_ | refine RO.no rfl (by decide) rfl ?_ | refine RO.nil ?_ | refine DW.region ?_ | refine DW.seq ?_ | refine DW.block ?_ | refine DW.skip ?_ | refine DW.exit ?_ | refine DW.condT rfl ?_ | refine DW.condF rfl ?_))
    refine RO.sta (sta_call rfl rfl (product_pure r f v[k] (by omega) (B := 200) (C := 200) (by omega) (by omega) (by omega) hr2.1 hpr (by omega) hfo.ok a1 (by omega) _)) rfl ?_
    refine RO.sta (s_indexRef rfl rfl hlt) rfl ?_
    refine RO.dyn rfl (d_store (k := 1) rfl rfl rfl (Heap.set_self _ _ _) (by rw [rowTo_len _ _ (by simp; omega)]; simp [cellsOf, plD]; omega) (by simp [cellsOf, D.isCell, plD]) ?_)
    (repeat (first | refine RO.Sv ?_ | refine RO.Yv ?_ | refine RO.no rfl (by decide) rfl ?_ | refine RO.nil ?_ | refine DW.region ?_ | refine DW.seq ?_ | refine DW.block ?_ | refine DW.skip ?_ | refine DW.exit ?_ | refine DW.condT rfl ?_ | refine DW.condF rfl ?_))
    refine ⟨k + 1, ⟨hlt, hg⟩, by dsimp only; omega, ?_, rfl, rfl, rfl, rfl, rfl, rfl, trivial⟩
    rw [Heap.set_set]
    dsimp only
    have h1 := rowTo_set (l := (vtimesT r f v).map plD) (z := .nil) (k := k) (by simp; omega)
    rw [← h1]
    have he : (vtimesT r f v)[k] = prodT r.p r.order f v[k] := by simp [vtimesT]
    simp only [List.getElem_map, cellsOf, plD, Nat.zero_add, Nat.mul_one, he]
  · have hge : k = v.length := by have := of_decide_eq_false hb; omega
    subst hge
    rw [List.drop_length] at hg
    rw [if_neg (by rw [← hg]; simp)]
    have hall : rowTo ((vtimesT r f v).map plD) .nil v.length = ((vtimesT r f v).map plD).flatMap cellsOf := by
      rw [flat_cells1 (fun _ => rfl)]
      have := rowTo_all ((vtimesT r f v).map plD) .nil
      rwa [List.length_map, hlen] at this
    have hout : VB r r.n.toNat 400 4000000 (vtimesT r f v) := fun g hg => by
      obtain ⟨u, hu, rfl⟩ := List.mem_map.1 hg
      obtain ⟨a1, a2⟩ := hvb u hu
      have hfl := hfo.len
      have hmul : f.length * u.length ≤ 2000 * 2000 := Nat.mul_le_mul hfl a2
      have h0 : ∀ t ∈ f, TB 0 r.p r.n.toNat 200 t := fun t ht => (hfo.ok.all t ht).mono (by omega) (by omega)
      exact ⟨prodT_ok (by omega) hpr a1 (by omega) h0, Nat.le_trans (prodT_length (by omega) hpr a1 (by omega) h0) hmul⟩
    (repeat (first | refine RO.Sv ?_ | refine RO.Yv ?_ | refine RO.no rfl (by decide) rfl ?_ | refine RO.nil ?_ | refine DW.region ?_ | refine DW.seq ?_ | refine DW.block ?_ | refine DW.skip ?_ | refine DW.exit ?_ | refine DW.condT rfl ?_ | refine DW.condF rfl ?_))
    refine RO.dyn rfl (opD_callF (ds' := [vcD (vtimesT r f v)]) (H' := H) rfl rfl (hov _) (.cons (Frz.list (T := 41) (by rw [Heap.set_self, hall]) hbn (uni_pl _) (by simp [hlen])) .nil) (vDone_pure (vtimesT r f v) (by omega) (VB.mok hout (by omega) (by omega) (by omega)) _) ?_)
    (repeat (first | refine RO.Sv ?_ | refine RO.Yv ?_ | refine RO.no rfl (by decide) rfl ?_ | refine RO.nil ?_ | refine DW.region ?_ | refine DW.seq ?_ | refine DW.block ?_ | refine DW.skip ?_ | refine DW.exit ?_ | refine DW.condT rfl ?_ | refine DW.condF rfl ?_))
    exact DW.ret ⟨.inl rfl, _, rfl, Over.refl _, .same _⟩

end Go.Proofs.Ytblileclefbklaa
