/-
  The document's order. No condition.
-/
import Derived.Test.YtcdihmhmoddppaaGreatKRc16

namespace Go.Proofs.YtcdihmhmoddppaaGreat
open Go.RowKit
set_option linter.unusedVariables false
set_option linter.unusedSimpArgs false
set_option maxHeartbeats 4000000

theorem monosGo_drop {r : Rg} {l : List (List Int)} {k : Nat} (h : k < l.length) : monosGo r (l.drop k) = if monoCk r l[k] = 0 then monosGo r (l.drop (k + 1)) else monoCk r l[k] := by
  rw [List.drop_eq_getElem_cons h]
  rfl

/-- Each exponent of two. -/
theorem each_pure {f : FuncId} {caps : List D} (g : Int → Int → Int) (a b : List Int) (hab : a.length = b.length) (hl : a.length ≤ 3) (hg : ∀ (i : Nat) (h1 : i < a.length) (h2 : i < b.length), Pure Tryz.prog f (I a[i] :: I b[i] :: caps) (I (g a[i] b[i]))) :
    Pure Tryz.prog 80 [intsD a, intsD b, .fn f caps] (intsD (zipE g a b)) := by
  intro H
  refine PureH.of_body Tryz.func80 rfl (by decide) (Nat.le_of_ble_eq_true rfl) fun w0 => ?_
  have hz := zipE_len (g := g) hab
  (repeat (first | refine RO.S ?_ | refine RO.Y ?_ | refine RO.no rfl (by decide) rfl ?_ | refine RO.nil ?_ | refine DW.region ?_ | refine DW.seq ?_ | refine DW.block ?_ | refine DW.skip ?_ | refine DW.exit ?_ | refine DW.condT rfl ?_ | refine DW.condF rfl ?_))
  refine RO.dyn rfl (d_make rfl rfl (Nat.le_refl _) (by omega) (by omega) fun x hx => ?_)
  (repeat (first | refine RO.S ?_ | refine RO.Y ?_ | refine RO.no rfl (by decide) rfl ?_ | refine RO.nil ?_ | refine DW.region ?_ | refine DW.seq ?_ | refine DW.block ?_ | refine DW.skip ?_ | refine DW.exit ?_ | refine DW.condT rfl ?_ | refine DW.condF rfl ?_))
  rw [flatten_replicate1]
  refine DW.loopI (fun k : Nat => k ≤ a.length) (fun k => [(0, intsD a), (1, intsD b), (2, .fn f caps), (12, intsD a), (13, I a.length), (14, I k), (7, .ref x 0 a.length 1)]) (fun k => H.set x (3, rowTo ((zipE g a b).map I) (I 0) k)) (fun k => a.length - k) 0 (Nat.zero_le _)
    (by rw [rowTo_zero, List.length_map, hz]) ⟨rfl, rfl, rfl, rfl, rfl, rfl, rfl, trivial⟩ fun k hk => ?_
  (repeat (first | refine RO.S ?_ | refine RO.Y ?_ | refine RO.no rfl (by decide) rfl ?_ | refine RO.nil ?_ | refine DW.region ?_ | refine DW.seq ?_ | refine DW.block ?_ | refine DW.skip ?_ | refine DW.exit ?_ | refine DW.condT rfl ?_ | refine DW.condF rfl ?_))
  refine DW.cond rfl (fun hb => ?_) (fun hb => ?_)
  · have hlt : k < a.length := by have := of_decide_eq_true hb; omega
    have hlt2 : k < b.length := by omega
    have hlt3 : k < (zipE g a b).length := by omega
    (repeat (first | refine RO.S ?_ | refine RO.Y ?_ | refine RO.no rfl (by decide) rfl ?_ | refine RO.nil ?_ | refine DW.region ?_ | refine DW.seq ?_ | refine DW.block ?_ | refine DW.skip ?_ | refine DW.exit ?_ | refine DW.condT rfl ?_ | refine DW.condF rfl ?_))
    refine DW.drawS 13 Tryz.mixed (by kernel_rfl) (by decide) ?_
    dsimp only [List.take, List.drop]
    (repeat (first | refine RS.S ?_ | refine RS.Y ?_ | refine RS.no rfl (by decide) rfl ?_ | refine RS.nil ?_))
    refine RS.sta (fun H' hov => sta_call rfl rfl (hg k hlt hlt2 H')) rfl ?_
    refine RS.sta (fun H' hov => s_indexRef rfl rfl hlt) rfl ?_
    (repeat (first | refine RS.S ?_ | refine RS.Y ?_ | refine RS.no rfl (by decide) rfl ?_ | refine RS.nil ?_))
    refine RO.dyn rfl (d_store (k := 1) rfl rfl rfl (Heap.set_self _ _ _) (by rw [rowTo_len _ _ (by simp; omega)]; simp [cellsOf]; omega) (by simp [cellsOf, D.isCell]) ?_)
    (repeat (first | refine RO.S ?_ | refine RO.Y ?_ | refine RO.no rfl (by decide) rfl ?_ | refine RO.nil ?_ | refine DW.region ?_ | refine DW.seq ?_ | refine DW.block ?_ | refine DW.skip ?_ | refine DW.exit ?_ | refine DW.condT rfl ?_ | refine DW.condF rfl ?_))
    refine ⟨k + 1, hlt, by dsimp only; omega, ?_, rfl, rfl, rfl, rfl, rfl, rfl, rfl, trivial⟩
    rw [Heap.set_set]
    dsimp only
    have h1 := rowTo_set (l := (zipE g a b).map I) (z := I 0) (k := k) (by simp; omega)
    rw [← h1]
    simp only [List.getElem_map, zipE_get, cellsOf, Nat.zero_add, Nat.mul_one]
  · have hge : k = a.length := by have := of_decide_eq_false hb; omega
    subst hge
    (repeat (first | refine RO.S ?_ | refine RO.Y ?_ | refine RO.no rfl (by decide) rfl ?_ | refine RO.nil ?_ | refine DW.region ?_ | refine DW.seq ?_ | refine DW.block ?_ | refine DW.skip ?_ | refine DW.exit ?_ | refine DW.condT rfl ?_ | refine DW.condF rfl ?_))
    refine DW.ret ⟨.inl rfl, _, rfl, (Over.refl _).set hx, ?_⟩
    have : rowTo ((zipE g a b).map I) (I 0) a.length = ((zipE g a b).map I).flatMap cellsOf := by
      rw [flat_cells1 (fun _ => rfl)]
      have := rowTo_all ((zipE g a b).map I) (I 0)
      rwa [List.length_map, hz] at this
    refine Frz.list (T := 3) (by rw [Heap.set_self, this]) hx (uni_I _) (by simp [hz])

theorem addE_pure (x y : Int) (hx : 0 ≤ x ∧ x ≤ 1000000) (hy : 0 ≤ y ∧ y ≤ 1000000) : Pure Tryz.prog 147 [I x, I y] (I (x + y)) := by
  intro H
  refine PureH.of_body Tryz.func147 rfl (by decide) (Nat.le_of_ble_eq_true rfl) fun w0 => ?_
  (repeat (first | refine RO.S ?_ | refine RO.Y ?_ | refine RO.no rfl (by decide) rfl ?_ | refine RO.nil ?_ | refine DW.region ?_ | refine DW.seq ?_ | refine DW.block ?_ | refine DW.skip ?_ | refine DW.exit ?_ | refine DW.condT rfl ?_ | refine DW.condF rfl ?_))
  exact DW.ret ⟨.inl rfl, _, rfl, Over.refl _, .same _⟩

theorem subE_pure (x y : Int) (hx : 0 ≤ x ∧ x ≤ 1000000) (hy : 0 ≤ y ∧ y ≤ 1000000) : Pure Tryz.prog 112 [I x, I y] (I (x - y)) := by
  intro H
  refine PureH.of_body Tryz.func112 rfl (by decide) (Nat.le_of_ble_eq_true rfl) fun w0 => ?_
  (repeat (first | refine RO.S ?_ | refine RO.Y ?_ | refine RO.no rfl (by decide) rfl ?_ | refine RO.nil ?_ | refine DW.region ?_ | refine DW.seq ?_ | refine DW.block ?_ | refine DW.skip ?_ | refine DW.exit ?_ | refine DW.condT rfl ?_ | refine DW.condF rfl ?_))
  exact DW.ret ⟨.inl rfl, _, rfl, Over.refl _, .same _⟩

theorem maxE_pure (x y : Int) : Pure Tryz.prog 81 [I x, I y] (I (max x y)) := by
  intro H
  refine PureH.of_body Tryz.func81 rfl (by decide) (Nat.le_of_ble_eq_true rfl) fun w0 => ?_
  (repeat (first | refine RO.S ?_ | refine RO.Y ?_ | refine RO.no rfl (by decide) rfl ?_ | refine RO.nil ?_ | refine DW.region ?_ | refine DW.seq ?_ | refine DW.block ?_ | refine DW.skip ?_ | refine DW.exit ?_ | refine DW.condT rfl ?_ | refine DW.condF rfl ?_))
  refine RO.sta (sta_max rfl rfl) rfl ?_
  (repeat (first | refine RO.S ?_ | refine RO.Y ?_ | refine RO.no rfl (by decide) rfl ?_ | refine RO.nil ?_ | refine DW.region ?_ | refine DW.seq ?_ | refine DW.block ?_ | refine DW.skip ?_ | refine DW.exit ?_ | refine DW.condT rfl ?_ | refine DW.condF rfl ?_))
  have : max x y = if y > x then y else x := by split <;> omega
  rw [this]
  exact DW.ret ⟨.inl rfl, _, rfl, Over.refl _, .same _⟩

theorem Product_pure {a b : List Int} (ha : MOk a) (hb : MOk b) (hab : a.length = b.length) : Pure Tryz.prog 132 [intsD a, intsD b] (intsD (zipE (· + ·) a b)) := by
  intro H
  refine PureH.of_body Tryz.func132 rfl (by decide) (Nat.le_of_ble_eq_true rfl) fun w0 => ?_
  (repeat (first | refine RO.S ?_ | refine RO.Y ?_ | refine RO.no rfl (by decide) rfl ?_ | refine RO.nil ?_ | refine DW.region ?_ | refine DW.seq ?_ | refine DW.block ?_ | refine DW.skip ?_ | refine DW.exit ?_ | refine DW.condT rfl ?_ | refine DW.condF rfl ?_))
  refine RO.sta (sta_call rfl rfl (each_pure (· + ·) a b hab ha.len (fun i h1 h2 => addE_pure _ _ (ha.at h1) (hb.at h2)) _)) rfl ?_
  (repeat (first | refine RO.S ?_ | refine RO.Y ?_ | refine RO.no rfl (by decide) rfl ?_ | refine RO.nil ?_ | refine DW.region ?_ | refine DW.seq ?_ | refine DW.block ?_ | refine DW.skip ?_ | refine DW.exit ?_ | refine DW.condT rfl ?_ | refine DW.condF rfl ?_))
  exact DW.ret ⟨.inl rfl, _, rfl, Over.refl _, .same _⟩

theorem Quotient_pure {a b : List Int} (ha : MOk a) (hb : MOk b) (hab : a.length = b.length) : Pure Tryz.prog 84 [intsD a, intsD b] (intsD (zipE (· - ·) a b)) := by
  intro H
  refine PureH.of_body Tryz.func84 rfl (by decide) (Nat.le_of_ble_eq_true rfl) fun w0 => ?_
  (repeat (first | refine RO.S ?_ | refine RO.Y ?_ | refine RO.no rfl (by decide) rfl ?_ | refine RO.nil ?_ | refine DW.region ?_ | refine DW.seq ?_ | refine DW.block ?_ | refine DW.skip ?_ | refine DW.exit ?_ | refine DW.condT rfl ?_ | refine DW.condF rfl ?_))
  refine RO.sta (sta_call rfl rfl (each_pure (· - ·) a b hab ha.len (fun i h1 h2 => subE_pure _ _ (ha.at h1) (hb.at h2)) _)) rfl ?_
  (repeat (first | refine RO.S ?_ | refine RO.Y ?_ | refine RO.no rfl (by decide) rfl ?_ | refine RO.nil ?_ | refine DW.region ?_ | refine DW.seq ?_ | refine DW.block ?_ | refine DW.skip ?_ | refine DW.exit ?_ | refine DW.condT rfl ?_ | refine DW.condF rfl ?_))
  exact DW.ret ⟨.inl rfl, _, rfl, Over.refl _, .same _⟩

theorem Common_pure {a b : List Int} (ha : MOk a) (hab : a.length = b.length) : Pure Tryz.prog 49 [intsD a, intsD b] (intsD (zipE max a b)) := by
  intro H
  refine PureH.of_body Tryz.func49 rfl (by decide) (Nat.le_of_ble_eq_true rfl) fun w0 => ?_
  (repeat (first | refine RO.S ?_ | refine RO.Y ?_ | refine RO.no rfl (by decide) rfl ?_ | refine RO.nil ?_ | refine DW.region ?_ | refine DW.seq ?_ | refine DW.block ?_ | refine DW.skip ?_ | refine DW.exit ?_ | refine DW.condT rfl ?_ | refine DW.condF rfl ?_))
  refine RO.sta (sta_call rfl rfl (each_pure max a b hab ha.len (fun i h1 h2 => maxE_pure _ _) _)) rfl ?_
  (repeat (first | refine RO.S ?_ | refine RO.Y ?_ | refine RO.no rfl (by decide) rfl ?_ | refine RO.nil ?_ | refine DW.region ?_ | refine DW.seq ?_ | refine DW.block ?_ | refine DW.skip ?_ | refine DW.exit ?_ | refine DW.condT rfl ?_ | refine DW.condF rfl ?_))
  exact DW.ret ⟨.inl rfl, _, rfl, Over.refl _, .same _⟩

theorem Goes_pure {a b : List Int} (hab : a.length = b.length) (hl : a.length ≤ 1000000) : Pure Tryz.prog 114 [intsD a, intsD b] (.bool (goesM a b)) := by
  intro H
  refine PureH.of_body Tryz.func114 rfl (by decide) (Nat.le_of_ble_eq_true rfl) fun w0 => ?_
  (repeat (first | refine RO.S ?_ | refine RO.Y ?_ | refine RO.no rfl (by decide) rfl ?_ | refine RO.nil ?_ | refine DW.region ?_ | refine DW.seq ?_ | refine DW.block ?_ | refine DW.skip ?_ | refine DW.exit ?_ | refine DW.condT rfl ?_ | refine DW.condF rfl ?_))
  refine DW.loopI (fun k : Nat => k ≤ a.length ∧ goesM (a.drop k) (b.drop k) = goesM a b) (fun k => [(0, intsD a), (1, intsD b), (6, intsD a), (7, I a.length), (8, I k)]) (fun _ => H) (fun k => a.length - k) 0 ⟨Nat.zero_le _, rfl⟩ rfl ⟨rfl, rfl, rfl, rfl, rfl, trivial⟩ fun k ⟨hk, hg⟩ => ?_
  (repeat (first | refine RO.S ?_ | refine RO.Y ?_ | refine RO.no rfl (by decide) rfl ?_ | refine RO.nil ?_ | refine DW.region ?_ | refine DW.seq ?_ | refine DW.block ?_ | refine DW.skip ?_ | refine DW.exit ?_ | refine DW.condT rfl ?_ | refine DW.condF rfl ?_))
  refine DW.cond rfl (fun hb => ?_) (fun hb => ?_)
  · have hlt : k < a.length := by have := of_decide_eq_true hb; omega
    have hlt2 : k < b.length := by omega
    rw [goesM_drop hlt hlt2] at hg
    (repeat (first | refine RO.S ?_ | refine RO.Y ?_ | refine RO.no rfl (by decide) rfl ?_ | refine RO.nil ?_ | refine DW.region ?_ | refine DW.seq ?_ | refine DW.block ?_ | refine DW.skip ?_ | refine DW.exit ?_ | refine DW.condT rfl ?_ | refine DW.condF rfl ?_))
    refine DW.drawS 9 Tryz.mixed (by kernel_rfl) (by decide) ?_
    dsimp only [List.take, List.drop]
    (repeat (first | refine RS.S ?_ | refine RS.Y ?_ | refine RS.no rfl (by decide) rfl ?_ | refine RS.nil ?_))
    (repeat (first | refine RO.S ?_ | refine RO.Y ?_ | refine RO.no rfl (by decide) rfl ?_ | refine RO.nil ?_ | refine DW.region ?_ | refine DW.seq ?_ | refine DW.block ?_ | refine DW.skip ?_ | refine DW.exit ?_ | refine DW.condT rfl ?_ | refine DW.condF rfl ?_))
    refine DW.cond rfl (fun hb => ?_) (fun hb => ?_)
    · have hc : b[k] > a[k] := of_decide_eq_true hb
      rw [if_pos hc] at hg
      rw [← hg]
      (repeat (first | refine RO.S ?_ | refine RO.Y ?_ | refine RO.no rfl (by decide) rfl ?_ | refine RO.nil ?_ | refine DW.region ?_ | refine DW.seq ?_ | refine DW.block ?_ | refine DW.skip ?_ | refine DW.exit ?_ | refine DW.condT rfl ?_ | refine DW.condF rfl ?_))
      exact DW.ret ⟨.inl rfl, _, rfl, Over.refl _, .same _⟩
    · have hc : ¬ b[k] > a[k] := of_decide_eq_false hb
      rw [if_neg hc] at hg
      (repeat (first | refine RO.S ?_ | refine RO.Y ?_ | refine RO.no rfl (by decide) rfl ?_ | refine RO.nil ?_ | refine DW.region ?_ | refine DW.seq ?_ | refine DW.block ?_ | refine DW.skip ?_ | refine DW.exit ?_ | refine DW.condT rfl ?_ | refine DW.condF rfl ?_))
      exact ⟨k + 1, ⟨hlt, hg⟩, by dsimp only; omega, rfl, rfl, rfl, rfl, rfl, rfl, trivial⟩
  · have hge : k = a.length := by have := of_decide_eq_false hb; omega
    subst hge
    have : goesM a b = true := by rw [← hg]; simp [goesM]
    rw [this]
    (repeat (first | refine RO.S ?_ | refine RO.Y ?_ | refine RO.no rfl (by decide) rfl ?_ | refine RO.nil ?_ | refine DW.region ?_ | refine DW.seq ?_ | refine DW.block ?_ | refine DW.skip ?_ | refine DW.exit ?_ | refine DW.condT rfl ?_ | refine DW.condF rfl ?_))
    exact DW.ret ⟨.inl rfl, _, rfl, Over.refl _, .same _⟩

/-- What comes of two, and what is wrong. -/
def liD (x : List Int × Int) : D := .tup [intsD x.1, I x.2]

def madeR (r : Rg) (a b out : List Int) : List Int × Int := if monosCk r [a, b] = 0 then (if 200 < out.sum then ([], 2) else (out, 0)) else ([], monosCk r [a, b])

theorem two_ok {r : Rg} {a b : List Int} (h : monosCk r [a, b] = 0) : ringCk r = 0 ∧ MOk a ∧ MOk b ∧ a.length = b.length ∧ (a.length : Int) = r.n := by
  obtain ⟨h1, h2⟩ := monosCk_ok h
  have h3 := ringCk_ok h1
  obtain ⟨ha, ha2, _⟩ := MOk.of h3.2.1.2 (h2 a (by simp))
  obtain ⟨hb, hb2, _⟩ := MOk.of h3.2.1.2 (h2 b (by simp))
  exact ⟨h1, ha, hb, by omega, ha2⟩

theorem prod_mok {a b : List Int} (ha : ∀ x ∈ a, 0 ≤ x ∧ x ≤ 200) (hb : ∀ x ∈ b, 0 ≤ x ∧ x ≤ 200) (hab : a.length = b.length) (hl : a.length ≤ 3) : MOk (zipE (· + ·) a b) ∧ MOk (zipE max a b) :=
  ⟨zipE_mok hab hl fun i h1 h2 => by have := ha _ (List.getElem_mem h1); have := hb _ (List.getElem_mem h2); (try dsimp only); omega, zipE_mok hab hl fun i h1 h2 => by have := ha _ (List.getElem_mem h1); have := hb _ (List.getElem_mem h2); omega⟩

theorem two_in {r : Rg} {a b : List Int} (h : monosCk r [a, b] = 0) : (∀ x ∈ a, 0 ≤ x ∧ x ≤ 200) ∧ (∀ x ∈ b, 0 ≤ x ∧ x ≤ 200) := by
  obtain ⟨h1, h2⟩ := monosCk_ok h
  have h3 := ringCk_ok h1
  obtain ⟨_, _, ha, _⟩ := MOk.of h3.2.1.2 (h2 a (by simp))
  obtain ⟨_, _, hb, _⟩ := MOk.of h3.2.1.2 (h2 b (by simp))
  exact ⟨fun x hx => inE_iff.1 (List.all_eq_true.1 ha x hx), fun x hx => inE_iff.1 (List.all_eq_true.1 hb x hx)⟩

def overR (r : Rg) (a b : List Int) : List Int × Int := if monosCk r [a, b] = 0 then (if goesM a b then (zipE (· - ·) a b, 0) else ([], 5)) else ([], monosCk r [a, b])

end Go.Proofs.YtcdihmhmoddppaaGreat

namespace Go.Proofs.YtcdihmhmoddppaaGreat
open Go.RowKit
set_option linter.unusedVariables false
set_option linter.unusedSimpArgs false
set_option maxHeartbeats 4000000

/-- How two exponents are put together. -/
def putE (how x y : Int) : Int := if how = 1 then x + y else if how = 2 then x - y else if how = 3 then max x y else x

theorem Put_pure {a b : List Int} (how : Int) (ha : MOk a) (hb : MOk b) (hab : a.length = b.length) : Pure Tryz.prog 59 [intsD a, intsD b, I how] (intsD (zipE (putE how) a b)) := by
  intro H
  have hl := ha.len
  have hz := zipE_len (g := putE how) hab
  refine PureH.of_body Tryz.func59 rfl (by decide) (Nat.le_of_ble_eq_true rfl) fun w0 => ?_
  (repeat (first | refine RO.S ?_ | refine RO.Y ?_ | refine RO.no rfl (by decide) rfl ?_ | refine RO.nil ?_ | refine DW.region ?_ | refine DW.seq ?_ | refine DW.block ?_ | refine DW.skip ?_ | refine DW.exit ?_ | refine DW.condT rfl ?_ | refine DW.condF rfl ?_))
  refine DW.loopI (fun x : Nat × D × Heap => x.1 ≤ a.length ∧ Acc H x.2.2 x.2.1 1 3 (((zipE (putE how) a b).take x.1).map I) ∧ Over H x.2.2) (fun x => [(0, intsD a), (1, intsD b), (2, I how), (7, x.2.1), (8, I x.1)]) (fun x => x.2.2) (fun x => a.length - x.1) (0, .nil, H)
    ⟨Nat.zero_le _, Acc.nil _ _ _ _, Over.refl _⟩ rfl ⟨rfl, rfl, rfl, rfl, rfl, trivial⟩ fun ⟨k, d, H1⟩ ⟨hk, hacc, hov⟩ => ?_
  dsimp only at hk hacc hov
  dsimp only
  (repeat (first | refine RO.S ?_ | refine RO.Y ?_ | refine RO.no rfl (by decide) rfl ?_ | refine RO.nil ?_ | refine DW.region ?_ | refine DW.seq ?_ | refine DW.block ?_ | refine DW.skip ?_ | refine DW.exit ?_ | refine DW.condT rfl ?_ | refine DW.condF rfl ?_))
  refine DW.cond rfl (fun hc => ?_) (fun hc => ?_)
  · have hlt : k < a.length := by have := of_decide_eq_true hc; omega
    have hlt2 : k < b.length := by omega
    have hxa := ha.at hlt
    have hxb := hb.at hlt2
    have hlt3 : k < (zipE (putE how) a b).length := by omega
    have hget : (zipE (putE how) a b)[k] = putE how a[k] b[k] := zipE_get hlt3
    have htk : ((zipE (putE how) a b).take (k + 1)).map I = ((zipE (putE how) a b).take k).map I ++ [I (putE how a[k] b[k])] := by
      rw [List.take_succ_eq_append_getElem hlt3, List.map_append, hget]; rfl
    have hl2 : (((zipE (putE how) a b).take k).map I).length ≤ 3 := by simp; omega
    clear hlt3 hget
    have fin : ∀ (P : Heap → D → Prop), (∀ d' H', Acc H H' d' 1 3 (((zipE (putE how) a b).take (k + 1)).map I) → Over H H' → P H' d') → ∀ d' H', Acc H H' d' 1 3 (((zipE (putE how) a b).take k).map I ++ [I (putE how a[k] b[k])]) → Over H H' → P H' d' := by
      intro P h d' H'
      rw [← htk]
      exact h d' H'
    (repeat (first | refine RO.S ?_ | refine RO.Y ?_ | refine RO.no rfl (by decide) rfl ?_ | refine RO.nil ?_ | refine DW.region ?_ | refine DW.seq ?_ | refine DW.block ?_ | refine DW.skip ?_ | refine DW.exit ?_ | refine DW.condT rfl ?_ | refine DW.condF rfl ?_))
    refine DW.cond rfl (fun hc1 => ?_) (fun hc1 => ?_)
    · have h1 : how = 1 := by simpa using hc1
      have hp : putE how a[k] b[k] = a[k] + b[k] := by unfold putE; rw [if_pos h1]
      (repeat (first | refine RO.S ?_ | refine RO.Y ?_ | refine RO.no rfl (by decide) rfl ?_ | refine RO.nil ?_ | refine DW.region ?_ | refine DW.seq ?_ | refine DW.block ?_ | refine DW.skip ?_ | refine DW.exit ?_ | refine DW.condT rfl ?_ | refine DW.condF rfl ?_))
      rw [← hp]
      refine RO.dyn rfl (d_append (H0 := H) rfl hacc hov rfl (.inl rfl) (uni_I [_]) (by simp; omega) (by simp; omega) fun d' H' hacc' hov' _ => ?_)
      rw [← htk] at hacc'
      (repeat (first | refine RO.S ?_ | refine RO.Y ?_ | refine RO.no rfl (by decide) rfl ?_ | refine RO.nil ?_ | refine DW.region ?_ | refine DW.seq ?_ | refine DW.block ?_ | refine DW.skip ?_ | refine DW.exit ?_ | refine DW.condT rfl ?_ | refine DW.condF rfl ?_))
      exact ⟨(k + 1, d', H'), ⟨hlt, hacc', hov'⟩, by dsimp only; omega, rfl, rfl, rfl, rfl, rfl, rfl, trivial⟩
    · have h1 : ¬ how = 1 := by simpa using hc1
      (repeat (first | refine RO.S ?_ | refine RO.Y ?_ | refine RO.no rfl (by decide) rfl ?_ | refine RO.nil ?_ | refine DW.region ?_ | refine DW.seq ?_ | refine DW.block ?_ | refine DW.skip ?_ | refine DW.exit ?_ | refine DW.condT rfl ?_ | refine DW.condF rfl ?_))
      refine DW.cond rfl (fun hc2 => ?_) (fun hc2 => ?_)
      · have h2 : how = 2 := by simpa using hc2
        have hp : putE how a[k] b[k] = a[k] - b[k] := by unfold putE; rw [if_neg h1, if_pos h2]
        (repeat (first | refine RO.S ?_ | refine RO.Y ?_ | refine RO.no rfl (by decide) rfl ?_ | refine RO.nil ?_ | refine DW.region ?_ | refine DW.seq ?_ | refine DW.block ?_ | refine DW.skip ?_ | refine DW.exit ?_ | refine DW.condT rfl ?_ | refine DW.condF rfl ?_))
        rw [← hp]
        refine RO.dyn rfl (d_append (H0 := H) rfl hacc hov rfl (.inl rfl) (uni_I [_]) (by simp; omega) (by simp; omega) fun d' H' hacc' hov' _ => ?_)
        rw [← htk] at hacc'
        (repeat (first | refine RO.S ?_ | refine RO.Y ?_ | refine RO.no rfl (by decide) rfl ?_ | refine RO.nil ?_ | refine DW.region ?_ | refine DW.seq ?_ | refine DW.block ?_ | refine DW.skip ?_ | refine DW.exit ?_ | refine DW.condT rfl ?_ | refine DW.condF rfl ?_))
        exact ⟨(k + 1, d', H'), ⟨hlt, hacc', hov'⟩, by dsimp only; omega, rfl, rfl, rfl, rfl, rfl, rfl, trivial⟩
      · have h2 : ¬ how = 2 := by simpa using hc2
        (repeat (first | refine RO.S ?_ | refine RO.Y ?_ | refine RO.no rfl (by decide) rfl ?_ | refine RO.nil ?_ | refine DW.region ?_ | refine DW.seq ?_ | refine DW.block ?_ | refine DW.skip ?_ | refine DW.exit ?_ | refine DW.condT rfl ?_ | refine DW.condF rfl ?_))
        refine DW.cond rfl (fun hc3 => ?_) (fun hc3 => ?_)
        · have h3 : how = 3 := by simpa using hc3
          (repeat (first | refine RO.S ?_ | refine RO.Y ?_ | refine RO.no rfl (by decide) rfl ?_ | refine RO.nil ?_ | refine DW.region ?_ | refine DW.seq ?_ | refine DW.block ?_ | refine DW.skip ?_ | refine DW.exit ?_ | refine DW.condT rfl ?_ | refine DW.condF rfl ?_))
          refine DW.cond rfl (fun hc4 => ?_) (fun hc4 => ?_)
          · have hp : putE how a[k] b[k] = b[k] := by have := of_decide_eq_true hc4; unfold putE; rw [if_neg h1, if_neg h2, if_pos h3]; omega
            (repeat (first | refine RO.S ?_ | refine RO.Y ?_ | refine RO.no rfl (by decide) rfl ?_ | refine RO.nil ?_ | refine DW.region ?_ | refine DW.seq ?_ | refine DW.block ?_ | refine DW.skip ?_ | refine DW.exit ?_ | refine DW.condT rfl ?_ | refine DW.condF rfl ?_))
            rw [← hp]
            refine RO.dyn rfl (d_append (H0 := H) rfl hacc hov rfl (.inl rfl) (uni_I [_]) (by simp; omega) (by simp; omega) fun d' H' hacc' hov' _ => ?_)
            rw [← htk] at hacc'
            (repeat (first | refine RO.S ?_ | refine RO.Y ?_ | refine RO.no rfl (by decide) rfl ?_ | refine RO.nil ?_ | refine DW.region ?_ | refine DW.seq ?_ | refine DW.block ?_ | refine DW.skip ?_ | refine DW.exit ?_ | refine DW.condT rfl ?_ | refine DW.condF rfl ?_))
            exact ⟨(k + 1, d', H'), ⟨hlt, hacc', hov'⟩, by dsimp only; omega, rfl, rfl, rfl, rfl, rfl, rfl, trivial⟩
          · have hp : putE how a[k] b[k] = a[k] := by have := of_decide_eq_false hc4; unfold putE; rw [if_neg h1, if_neg h2, if_pos h3]; omega
            (repeat (first | refine RO.S ?_ | refine RO.Y ?_ | refine RO.no rfl (by decide) rfl ?_ | refine RO.nil ?_ | refine DW.region ?_ | refine DW.seq ?_ | refine DW.block ?_ | refine DW.skip ?_ | refine DW.exit ?_ | refine DW.condT rfl ?_ | refine DW.condF rfl ?_))
            rw [← hp]
            refine RO.dyn rfl (d_append (H0 := H) rfl hacc hov rfl (.inl rfl) (uni_I [_]) (by simp; omega) (by simp; omega) fun d' H' hacc' hov' _ => ?_)
            rw [← htk] at hacc'
            (repeat (first | refine RO.S ?_ | refine RO.Y ?_ | refine RO.no rfl (by decide) rfl ?_ | refine RO.nil ?_ | refine DW.region ?_ | refine DW.seq ?_ | refine DW.block ?_ | refine DW.skip ?_ | refine DW.exit ?_ | refine DW.condT rfl ?_ | refine DW.condF rfl ?_))
            exact ⟨(k + 1, d', H'), ⟨hlt, hacc', hov'⟩, by dsimp only; omega, rfl, rfl, rfl, rfl, rfl, rfl, trivial⟩
        · have h3 : ¬ how = 3 := by simpa using hc3
          have hp : putE how a[k] b[k] = a[k] := by unfold putE; rw [if_neg h1, if_neg h2, if_neg h3]
          (repeat (first | refine RO.S ?_ | refine RO.Y ?_ | refine RO.no rfl (by decide) rfl ?_ | refine RO.nil ?_ | refine DW.region ?_ | refine DW.seq ?_ | refine DW.block ?_ | refine DW.skip ?_ | refine DW.exit ?_ | refine DW.condT rfl ?_ | refine DW.condF rfl ?_))
          rw [← hp]
          refine RO.dyn rfl (d_append (H0 := H) rfl hacc hov rfl (.inl rfl) (uni_I [_]) (by simp; omega) (by simp; omega) fun d' H' hacc' hov' _ => ?_)
          rw [← htk] at hacc'
          (repeat (first | refine RO.S ?_ | refine RO.Y ?_ | refine RO.no rfl (by decide) rfl ?_ | refine RO.nil ?_ | refine DW.region ?_ | refine DW.seq ?_ | refine DW.block ?_ | refine DW.skip ?_ | refine DW.exit ?_ | refine DW.condT rfl ?_ | refine DW.condF rfl ?_))
          exact ⟨(k + 1, d', H'), ⟨hlt, hacc', hov'⟩, by dsimp only; omega, rfl, rfl, rfl, rfl, rfl, rfl, trivial⟩
  · have hge : k = a.length := by have := of_decide_eq_false hc; omega
    subst hge
    rw [← hz, List.take_length] at hacc
    (repeat (first | refine RO.S ?_ | refine RO.Y ?_ | refine RO.no rfl (by decide) rfl ?_ | refine RO.nil ?_ | refine DW.region ?_ | refine DW.seq ?_ | refine DW.block ?_ | refine DW.skip ?_ | refine DW.exit ?_ | refine DW.condT rfl ?_ | refine DW.condF rfl ?_))
    refine DW.ret ⟨.inl rfl, _, rfl, hov, hacc.frz ?_⟩
    intro x hx
    rcases hacc.is with ⟨h, _⟩ | ⟨b', h1, h2, h3⟩
    · rw [h] at hx; cases hx
    · rw [h2] at hx; cases hx; exact h1

end Go.Proofs.YtcdihmhmoddppaaGreat

namespace Go.Proofs.YtcdihmhmoddppaaGreat
open Go.RowKit
set_option linter.unusedVariables false
set_option linter.unusedSimpArgs false
set_option maxHeartbeats 4000000

theorem isNaN_pure (x : Int) : Pure Tryz.prog 141 [I x] (.bool false) := by
  intro H
  refine PureH.of_body Tryz.func141 rfl (by decide) (Nat.le_of_ble_eq_true rfl) fun w0 => ?_
  (repeat (first | refine RO.S ?_ | refine RO.Y ?_ | refine RO.no rfl (by decide) rfl ?_ | refine RO.nil ?_ | refine DW.region ?_ | refine DW.seq ?_ | refine DW.block ?_ | refine DW.skip ?_ | refine DW.exit ?_ | refine DW.condT rfl ?_ | refine DW.condF rfl ?_))
  have : (x != x) = false := by simp
  rw [this]
  exact DW.ret ⟨.inl rfl, _, rfl, Over.refl _, .same _⟩

/-- The sign of a difference. -/
def cmpI (x y : Int) : Int := if x < y then -1 else if y < x then 1 else 0

theorem cmpI_pure (x y : Int) : Pure Tryz.prog 125 [I x, I y] (I (cmpI x y)) := by
  intro H
  refine PureH.of_body Tryz.func125 rfl (by decide) (Nat.le_of_ble_eq_true rfl) fun w0 => ?_
  (repeat (first | refine RO.S ?_ | refine RO.Y ?_ | refine RO.no rfl (by decide) rfl ?_ | refine RO.nil ?_ | refine DW.region ?_ | refine DW.seq ?_ | refine DW.block ?_ | refine DW.skip ?_ | refine DW.exit ?_ | refine DW.condT rfl ?_ | refine DW.condF rfl ?_))
  refine RO.sta (sta_call rfl rfl (isNaN_pure _ _)) rfl ?_
  (repeat (first | refine RO.S ?_ | refine RO.Y ?_ | refine RO.no rfl (by decide) rfl ?_ | refine RO.nil ?_ | refine DW.region ?_ | refine DW.seq ?_ | refine DW.block ?_ | refine DW.skip ?_ | refine DW.exit ?_ | refine DW.condT rfl ?_ | refine DW.condF rfl ?_))
  refine RO.sta (sta_call rfl rfl (isNaN_pure _ _)) rfl ?_
  (repeat (first | refine RO.S ?_ | refine RO.Y ?_ | refine RO.no rfl (by decide) rfl ?_ | refine RO.nil ?_ | refine DW.region ?_ | refine DW.seq ?_ | refine DW.block ?_ | refine DW.skip ?_ | refine DW.exit ?_ | refine DW.condT rfl ?_ | refine DW.condF rfl ?_))
  refine DW.cond rfl (fun hb => ?_) (fun hb => ?_)
  · have h : x < y := of_decide_eq_true hb
    have : cmpI x y = -1 := by unfold cmpI; rw [if_pos h]
    rw [this]
    (repeat (first | refine RO.S ?_ | refine RO.Y ?_ | refine RO.no rfl (by decide) rfl ?_ | refine RO.nil ?_ | refine DW.region ?_ | refine DW.seq ?_ | refine DW.block ?_ | refine DW.skip ?_ | refine DW.exit ?_ | refine DW.condT rfl ?_ | refine DW.condF rfl ?_))
    exact DW.ret ⟨.inl rfl, _, rfl, Over.refl _, .same _⟩
  · have h : ¬ x < y := of_decide_eq_false hb
    (repeat (first | refine RO.S ?_ | refine RO.Y ?_ | refine RO.no rfl (by decide) rfl ?_ | refine RO.nil ?_ | refine DW.region ?_ | refine DW.seq ?_ | refine DW.block ?_ | refine DW.skip ?_ | refine DW.exit ?_ | refine DW.condT rfl ?_ | refine DW.condF rfl ?_))
    refine DW.cond rfl (fun hb => ?_) (fun hb => ?_)
    · have h2 : y < x := of_decide_eq_true hb
      have : cmpI x y = 1 := by unfold cmpI; rw [if_neg h, if_pos h2]
      rw [this]
      (repeat (first | refine RO.S ?_ | refine RO.Y ?_ | refine RO.no rfl (by decide) rfl ?_ | refine RO.nil ?_ | refine DW.region ?_ | refine DW.seq ?_ | refine DW.block ?_ | refine DW.skip ?_ | refine DW.exit ?_ | refine DW.condT rfl ?_ | refine DW.condF rfl ?_))
      exact DW.ret ⟨.inl rfl, _, rfl, Over.refl _, .same _⟩
    · have h2 : ¬ y < x := of_decide_eq_false hb
      have : cmpI x y = 0 := by unfold cmpI; rw [if_neg h, if_neg h2]
      rw [this]
      (repeat (first | refine RO.S ?_ | refine RO.Y ?_ | refine RO.no rfl (by decide) rfl ?_ | refine RO.nil ?_ | refine DW.region ?_ | refine DW.seq ?_ | refine DW.block ?_ | refine DW.skip ?_ | refine DW.exit ?_ | refine DW.condT rfl ?_ | refine DW.condF rfl ?_))
      exact DW.ret ⟨.inl rfl, _, rfl, Over.refl _, .same _⟩

theorem lexC_drop' {a b : List Int} {k : Nat} (h1 : k < a.length) (h2 : k < b.length) : lexC (a.drop k) (b.drop k) = if cmpI a[k] b[k] = 0 then lexC (a.drop (k + 1)) (b.drop (k + 1)) else cmpI a[k] b[k] := by
  rw [lexC_drop h1 h2]
  unfold cmpI
  split
  · rfl
  · split
    · rfl
    · rfl

theorem sCompare_pure {a b : List Int} (hab : a.length = b.length) (hl : a.length ≤ 1000000) : Pure Tryz.prog 146 [intsD a, intsD b] (I (lexC a b)) := by
  intro H
  refine PureH.of_body Tryz.func146 rfl (by decide) (Nat.le_of_ble_eq_true rfl) fun w0 => ?_
  (repeat (first | refine RO.S ?_ | refine RO.Y ?_ | refine RO.no rfl (by decide) rfl ?_ | refine RO.nil ?_ | refine DW.region ?_ | refine DW.seq ?_ | refine DW.block ?_ | refine DW.skip ?_ | refine DW.exit ?_ | refine DW.condT rfl ?_ | refine DW.condF rfl ?_))
  refine DW.loopI (fun k : Nat => k ≤ a.length ∧ lexC (a.drop k) (b.drop k) = lexC a b) (fun k => [(0, intsD a), (1, intsD b), (9, intsD a), (10, I a.length), (11, I k)]) (fun _ => H) (fun k => a.length - k) 0 ⟨Nat.zero_le _, rfl⟩ rfl ⟨rfl, rfl, rfl, rfl, rfl, trivial⟩ fun k ⟨hk, hg⟩ => ?_
  (repeat (first | refine RO.S ?_ | refine RO.Y ?_ | refine RO.no rfl (by decide) rfl ?_ | refine RO.nil ?_ | refine DW.region ?_ | refine DW.seq ?_ | refine DW.block ?_ | refine DW.skip ?_ | refine DW.exit ?_ | refine DW.condT rfl ?_ | refine DW.condF rfl ?_))
  refine DW.cond rfl (fun hb => ?_) (fun hb => ?_)
  · have hlt : k < a.length := by have := of_decide_eq_true hb; omega
    have hlt2 : k < b.length := by omega
    rw [lexC_drop' hlt hlt2] at hg
    (repeat (first | refine RO.S ?_ | refine RO.Y ?_ | refine RO.no rfl (by decide) rfl ?_ | refine RO.nil ?_ | refine DW.region ?_ | refine DW.seq ?_ | refine DW.block ?_ | refine DW.skip ?_ | refine DW.exit ?_ | refine DW.condT rfl ?_ | refine DW.condF rfl ?_))
    refine DW.cond rfl (fun hb => ?_) (fun hb => ?_)
    · exfalso
      have := of_decide_eq_true hb
      omega
    · (repeat (first | refine RO.S ?_ | refine RO.Y ?_ | refine RO.no rfl (by decide) rfl ?_ | refine RO.nil ?_ | refine DW.region ?_ | refine DW.seq ?_ | refine DW.block ?_ | refine DW.skip ?_ | refine DW.exit ?_ | refine DW.condT rfl ?_ | refine DW.condF rfl ?_))
      refine RO.sta (sta_call rfl rfl (cmpI_pure _ _ _)) rfl ?_
      (repeat (first | refine RO.S ?_ | refine RO.Y ?_ | refine RO.no rfl (by decide) rfl ?_ | refine RO.nil ?_ | refine DW.region ?_ | refine DW.seq ?_ | refine DW.block ?_ | refine DW.skip ?_ | refine DW.exit ?_ | refine DW.condT rfl ?_ | refine DW.condF rfl ?_))
      refine DW.cond rfl (fun hb => ?_) (fun hb => ?_)
      · have hc : ¬ cmpI a[k] b[k] = 0 := by simpa using hb
        rw [if_neg hc] at hg
        rw [← hg]
        (repeat (first | refine RO.S ?_ | refine RO.Y ?_ | refine RO.no rfl (by decide) rfl ?_ | refine RO.nil ?_ | refine DW.region ?_ | refine DW.seq ?_ | refine DW.block ?_ | refine DW.skip ?_ | refine DW.exit ?_ | refine DW.condT rfl ?_ | refine DW.condF rfl ?_))
        exact DW.ret ⟨.inl rfl, _, rfl, Over.refl _, .same _⟩
      · have hc : cmpI a[k] b[k] = 0 := by simpa using hb
        rw [if_pos hc] at hg
        (repeat (first | refine RO.S ?_ | refine RO.Y ?_ | refine RO.no rfl (by decide) rfl ?_ | refine RO.nil ?_ | refine DW.region ?_ | refine DW.seq ?_ | refine DW.block ?_ | refine DW.skip ?_ | refine DW.exit ?_ | refine DW.condT rfl ?_ | refine DW.condF rfl ?_))
        exact ⟨k + 1, ⟨hlt, hg⟩, by dsimp only; omega, rfl, rfl, rfl, rfl, rfl, rfl, trivial⟩
  · have hge : k = a.length := by have := of_decide_eq_false hb; omega
    subst hge
    have : lexC a b = 0 := by rw [← hg]; simp [lexC]
    rw [this]
    (repeat (first | refine RO.S ?_ | refine RO.Y ?_ | refine RO.no rfl (by decide) rfl ?_ | refine RO.nil ?_ | refine DW.region ?_ | refine DW.seq ?_ | refine DW.block ?_ | refine DW.skip ?_ | refine DW.exit ?_ | refine DW.condT rfl ?_ | refine DW.condF rfl ?_))
    refine DW.cond rfl (fun hb => ?_) (fun hb => ?_)
    · exfalso
      have := of_decide_eq_true hb
      omega
    · (repeat (first | refine RO.S ?_ | refine RO.Y ?_ | refine RO.no rfl (by decide) rfl ?_ | refine RO.nil ?_ | refine DW.region ?_ | refine DW.seq ?_ | refine DW.block ?_ | refine DW.skip ?_ | refine DW.exit ?_ | refine DW.condT rfl ?_ | refine DW.condF rfl ?_))
      exact DW.ret ⟨.inl rfl, _, rfl, Over.refl _, .same _⟩

theorem sgn_val (x : Int) : sgn x = if (if x < 1 then x else 1) > -1 then (if x < 1 then x else 1) else -1 := by
  unfold sgn
  split <;> split <;> omega

theorem Compare_pure (r : Rg) {a b : List Int} (ha : MOk a) (hb : MOk b) (hab : a.length = b.length) : Pure Tryz.prog 131 [rgD r, intsD a, intsD b] (I (cmpM r.order a b)) := by
  intro H
  have hsa := ha.sum
  have hsb := hb.sum
  have hla := ha.len
  refine PureH.of_body Tryz.func131 rfl (by decide) (Nat.le_of_ble_eq_true rfl) fun w0 => ?_
  (repeat (first | refine RO.S ?_ | refine RO.Y ?_ | refine RO.no rfl (by decide) rfl ?_ | refine RO.nil ?_ | refine DW.region ?_ | refine DW.seq ?_ | refine DW.block ?_ | refine DW.skip ?_ | refine DW.exit ?_ | refine DW.condT rfl ?_ | refine DW.condF rfl ?_))
  refine RO.sta (sta_call rfl rfl (Degree_pure ha _)) rfl ?_
  (repeat (first | refine RO.S ?_ | refine RO.Y ?_ | refine RO.no rfl (by decide) rfl ?_ | refine RO.nil ?_ | refine DW.region ?_ | refine DW.seq ?_ | refine DW.block ?_ | refine DW.skip ?_ | refine DW.exit ?_ | refine DW.condT rfl ?_ | refine DW.condF rfl ?_))
  refine RO.sta (sta_call rfl rfl (Degree_pure hb _)) rfl ?_
  (repeat (first | refine RO.S ?_ | refine RO.Y ?_ | refine RO.no rfl (by decide) rfl ?_ | refine RO.nil ?_ | refine DW.region ?_ | refine DW.seq ?_ | refine DW.block ?_ | refine DW.skip ?_ | refine DW.exit ?_ | refine DW.condT rfl ?_ | refine DW.condF rfl ?_))
  refine DW.cond rfl (fun hc => ?_) (fun hc => ?_)
  · have h : ¬ a.sum = b.sum := by simp at hc; omega
    have : cmpM r.order a b = sgn (a.sum - b.sum) := by unfold cmpM; rw [if_neg h]
    rw [this]
    (repeat (first | refine RO.S ?_ | refine RO.Y ?_ | refine RO.no rfl (by decide) rfl ?_ | refine RO.nil ?_ | refine DW.region ?_ | refine DW.seq ?_ | refine DW.block ?_ | refine DW.skip ?_ | refine DW.exit ?_ | refine DW.condT rfl ?_ | refine DW.condF rfl ?_))
    refine RO.sta (sta_min rfl rfl) rfl ?_
    (repeat (first | refine RO.S ?_ | refine RO.Y ?_ | refine RO.no rfl (by decide) rfl ?_ | refine RO.nil ?_ | refine DW.region ?_ | refine DW.seq ?_ | refine DW.block ?_ | refine DW.skip ?_ | refine DW.exit ?_ | refine DW.condT rfl ?_ | refine DW.condF rfl ?_))
    refine RO.sta (sta_max rfl rfl) rfl ?_
    (repeat (first | refine RO.S ?_ | refine RO.Y ?_ | refine RO.no rfl (by decide) rfl ?_ | refine RO.nil ?_ | refine DW.region ?_ | refine DW.seq ?_ | refine DW.block ?_ | refine DW.skip ?_ | refine DW.exit ?_ | refine DW.condT rfl ?_ | refine DW.condF rfl ?_))
    rw [sgn_val]
    exact DW.ret ⟨.inl rfl, _, rfl, Over.refl _, .same _⟩
  · have h : a.sum = b.sum := by simp at hc; omega
    (repeat (first | refine RO.S ?_ | refine RO.Y ?_ | refine RO.no rfl (by decide) rfl ?_ | refine RO.nil ?_ | refine DW.region ?_ | refine DW.seq ?_ | refine DW.block ?_ | refine DW.skip ?_ | refine DW.exit ?_ | refine DW.condT rfl ?_ | refine DW.condF rfl ?_))
    refine DW.cond rfl (fun hc => ?_) (fun hc => ?_)
    · have h2 : r.order = 2 := by simpa using hc
      have : cmpM r.order a b = lexC a b := by unfold cmpM; rw [if_pos h, if_pos h2]
      rw [this]
      (repeat (first | refine RO.S ?_ | refine RO.Y ?_ | refine RO.no rfl (by decide) rfl ?_ | refine RO.nil ?_ | refine DW.region ?_ | refine DW.seq ?_ | refine DW.block ?_ | refine DW.skip ?_ | refine DW.exit ?_ | refine DW.condT rfl ?_ | refine DW.condF rfl ?_))
      refine RO.sta (sta_call rfl rfl (sCompare_pure hab (by omega) _)) rfl ?_
      (repeat (first | refine RO.S ?_ | refine RO.Y ?_ | refine RO.no rfl (by decide) rfl ?_ | refine RO.nil ?_ | refine DW.region ?_ | refine DW.seq ?_ | refine DW.block ?_ | refine DW.skip ?_ | refine DW.exit ?_ | refine DW.condT rfl ?_ | refine DW.condF rfl ?_))
      exact DW.ret ⟨.inl rfl, _, rfl, Over.refl _, .same _⟩
    · have h2 : ¬ r.order = 2 := by simpa using hc
      have : cmpM r.order a b = lexC b.reverse a.reverse := by unfold cmpM; rw [if_pos h, if_neg h2]
      rw [this]
      (repeat (first | refine RO.S ?_ | refine RO.Y ?_ | refine RO.no rfl (by decide) rfl ?_ | refine RO.nil ?_ | refine DW.region ?_ | refine DW.seq ?_ | refine DW.block ?_ | refine DW.skip ?_ | refine DW.exit ?_ | refine DW.condT rfl ?_ | refine DW.condF rfl ?_))
      refine DW.loopI (fun i : Int => -1 ≤ i ∧ i < a.length ∧ lexC (b.take (i + 1).toNat).reverse (a.take (i + 1).toNat).reverse = lexC b.reverse a.reverse) (fun i => [(1, intsD a), (2, intsD b), (8, I i)]) (fun _ => H) (fun i => (i + 1).toNat) ((a.length : Int) - 1)
        ⟨by omega, by omega, by
          have : ((a.length : Int) - 1 + 1).toNat = a.length := by omega
          rw [this, List.take_length, hab, List.take_length]⟩ rfl ⟨rfl, rfl, rfl, trivial⟩ fun i ⟨hi1, hi2, hg⟩ => ?_
      (repeat (first | refine RO.S ?_ | refine RO.Y ?_ | refine RO.no rfl (by decide) rfl ?_ | refine RO.nil ?_ | refine DW.region ?_ | refine DW.seq ?_ | refine DW.block ?_ | refine DW.skip ?_ | refine DW.exit ?_ | refine DW.condT rfl ?_ | refine DW.condF rfl ?_))
      refine DW.cond rfl (fun hc => ?_) (fun hc => ?_)
      · obtain ⟨k, rfl⟩ : ∃ k : Nat, i = k := ⟨i.toNat, by have := of_decide_eq_true hc; omega⟩
        have hlt : k < a.length := by omega
        have hlt2 : k < b.length := by omega
        have hk1 : ((k : Int) + 1).toNat = k + 1 := by omega
        have hxa := ha.at hlt
        have hxb := hb.at hlt2
        rw [hk1, lexC_take_rev hlt hlt2] at hg
        (repeat (first | refine RO.S ?_ | refine RO.Y ?_ | refine RO.no rfl (by decide) rfl ?_ | refine RO.nil ?_ | refine DW.region ?_ | refine DW.seq ?_ | refine DW.block ?_ | refine DW.skip ?_ | refine DW.exit ?_ | refine DW.condT rfl ?_ | refine DW.condF rfl ?_))
        refine DW.drawS 9 Tryz.mixed (by kernel_rfl) (by decide) ?_
        dsimp only [List.take, List.drop]
        (repeat (first | refine RS.S ?_ | refine RS.Y ?_ | refine RS.no rfl (by decide) rfl ?_ | refine RS.nil ?_))
        (repeat (first | refine RO.S ?_ | refine RO.Y ?_ | refine RO.no rfl (by decide) rfl ?_ | refine RO.nil ?_ | refine DW.region ?_ | refine DW.seq ?_ | refine DW.block ?_ | refine DW.skip ?_ | refine DW.exit ?_ | refine DW.condT rfl ?_ | refine DW.condF rfl ?_))
        refine DW.cond rfl (fun hc => ?_) (fun hc => ?_)
        · have hne : a[k] ≠ b[k] := by simpa using hc
          (repeat (first | refine RO.S ?_ | refine RO.Y ?_ | refine RO.no rfl (by decide) rfl ?_ | refine RO.nil ?_ | refine DW.region ?_ | refine DW.seq ?_ | refine DW.block ?_ | refine DW.skip ?_ | refine DW.exit ?_ | refine DW.condT rfl ?_ | refine DW.condF rfl ?_))
          refine DW.drawS 9 Tryz.mixed (by kernel_rfl) (by decide) ?_
          dsimp only [List.take, List.drop]
          (repeat (first | refine RS.S ?_ | refine RS.Y ?_ | refine RS.no rfl (by decide) rfl ?_ | refine RS.nil ?_))
          refine RO.sta (sta_min rfl rfl) rfl ?_
          (repeat (first | refine RO.S ?_ | refine RO.Y ?_ | refine RO.no rfl (by decide) rfl ?_ | refine RO.nil ?_ | refine DW.region ?_ | refine DW.seq ?_ | refine DW.block ?_ | refine DW.skip ?_ | refine DW.exit ?_ | refine DW.condT rfl ?_ | refine DW.condF rfl ?_))
          refine RO.sta (sta_max rfl rfl) rfl ?_
          (repeat (first | refine RO.S ?_ | refine RO.Y ?_ | refine RO.no rfl (by decide) rfl ?_ | refine RO.nil ?_ | refine DW.region ?_ | refine DW.seq ?_ | refine DW.block ?_ | refine DW.skip ?_ | refine DW.exit ?_ | refine DW.condT rfl ?_ | refine DW.condF rfl ?_))
          have hv : lexC b.reverse a.reverse = sgn (b[k] - a[k]) := by
            rw [← hg]
            unfold sgn
            split
            · omega
            · rw [if_pos (by omega)]; omega
          rw [hv, sgn_val]
          exact DW.ret ⟨.inl rfl, _, rfl, Over.refl _, .same _⟩
        · have he : a[k] = b[k] := by simpa using hc
          rw [if_neg (by omega), if_neg (by omega)] at hg
          (repeat (first | refine RO.S ?_ | refine RO.Y ?_ | refine RO.no rfl (by decide) rfl ?_ | refine RO.nil ?_ | refine DW.region ?_ | refine DW.seq ?_ | refine DW.block ?_ | refine DW.skip ?_ | refine DW.exit ?_ | refine DW.condT rfl ?_ | refine DW.condF rfl ?_))
          refine ⟨(k : Int) - 1, ⟨by omega, by omega, ?_⟩, by dsimp only; omega, rfl, rfl, rfl, rfl, trivial⟩
          have : ((k : Int) - 1 + 1).toNat = k := by omega
          rw [this]
          exact hg
      · have hge : i = -1 := by have := of_decide_eq_false hc; omega
        subst hge
        have : lexC b.reverse a.reverse = 0 := by rw [← hg]; simp [lexC]
        rw [this]
        (repeat (first | refine RO.S ?_ | refine RO.Y ?_ | refine RO.no rfl (by decide) rfl ?_ | refine RO.nil ?_ | refine DW.region ?_ | refine DW.seq ?_ | refine DW.block ?_ | refine DW.skip ?_ | refine DW.exit ?_ | refine DW.condT rfl ?_ | refine DW.condF rfl ?_))
        exact DW.ret ⟨.inl rfl, _, rfl, Over.refl _, .same _⟩

def orderR (r : Rg) (a b : List Int) : Int × Int := if monosCk r [a, b] = 0 then (cmpM r.order a b, 0) else (0, monosCk r [a, b])

end Go.Proofs.YtcdihmhmoddppaaGreat

namespace Go.Proofs.YtcdihmhmoddppaaGreat
open Go.RowKit
set_option linter.unusedVariables false
set_option linter.unusedSimpArgs false
set_option maxHeartbeats 4000000

theorem More_pure (r : Rg) {a b : List Int} (ha : MOk a) (hb : MOk b) (hab : a.length = b.length) : Pure Tryz.prog 89 [rgD r, intsD a, intsD b] (.bool (decide (0 < cmpM r.order a b))) := by
  intro H
  have hsa := ha.sum
  have hsb := hb.sum
  have hla := ha.len
  refine PureH.of_body Tryz.func89 rfl (by decide) (Nat.le_of_ble_eq_true rfl) fun w0 => ?_
  (repeat (first | refine RO.S ?_ | refine RO.Y ?_ | refine RO.no rfl (by decide) rfl ?_ | refine RO.nil ?_ | refine DW.region ?_ | refine DW.seq ?_ | refine DW.block ?_ | refine DW.skip ?_ | refine DW.exit ?_ | refine DW.condT rfl ?_ | refine DW.condF rfl ?_))
  refine RO.sta (sta_call rfl rfl (DegreeOf_pure ha _)) rfl ?_
  (repeat (first | refine RO.S ?_ | refine RO.Y ?_ | refine RO.no rfl (by decide) rfl ?_ | refine RO.nil ?_ | refine DW.region ?_ | refine DW.seq ?_ | refine DW.block ?_ | refine DW.skip ?_ | refine DW.exit ?_ | refine DW.condT rfl ?_ | refine DW.condF rfl ?_))
  refine RO.sta (sta_call rfl rfl (DegreeOf_pure hb _)) rfl ?_
  (repeat (first | refine RO.S ?_ | refine RO.Y ?_ | refine RO.no rfl (by decide) rfl ?_ | refine RO.nil ?_ | refine DW.region ?_ | refine DW.seq ?_ | refine DW.block ?_ | refine DW.skip ?_ | refine DW.exit ?_ | refine DW.condT rfl ?_ | refine DW.condF rfl ?_))
  refine DW.cond rfl (fun hc => ?_) (fun hc => ?_)
  · have h : ¬ a.sum = b.sum := by simpa using hc
    have : decide (0 < cmpM r.order a b) = decide (b.sum < a.sum) := by
      unfold cmpM
      rw [if_neg h, decide_eq_decide]
      unfold sgn
      omega
    rw [this]
    (repeat (first | refine RO.S ?_ | refine RO.Y ?_ | refine RO.no rfl (by decide) rfl ?_ | refine RO.nil ?_ | refine DW.region ?_ | refine DW.seq ?_ | refine DW.block ?_ | refine DW.skip ?_ | refine DW.exit ?_ | refine DW.condT rfl ?_ | refine DW.condF rfl ?_))
    exact DW.ret ⟨.inl rfl, _, rfl, Over.refl _, .same _⟩
  · have h : a.sum = b.sum := by simpa using hc
    (repeat (first | refine RO.S ?_ | refine RO.Y ?_ | refine RO.no rfl (by decide) rfl ?_ | refine RO.nil ?_ | refine DW.region ?_ | refine DW.seq ?_ | refine DW.block ?_ | refine DW.skip ?_ | refine DW.exit ?_ | refine DW.condT rfl ?_ | refine DW.condF rfl ?_))
    refine DW.cond rfl (fun hc => ?_) (fun hc => ?_)
    · have h2 : r.order = 2 := by simpa using hc
      have hv : cmpM r.order a b = lexC a b := by unfold cmpM; rw [if_pos h, if_pos h2]
      rw [hv]
      (repeat (first | refine RO.S ?_ | refine RO.Y ?_ | refine RO.no rfl (by decide) rfl ?_ | refine RO.nil ?_ | refine DW.region ?_ | refine DW.seq ?_ | refine DW.block ?_ | refine DW.skip ?_ | refine DW.exit ?_ | refine DW.condT rfl ?_ | refine DW.condF rfl ?_))
      refine DW.loopI (fun k : Nat => k ≤ a.length ∧ lexC (a.drop k) (b.drop k) = lexC a b) (fun k => [(1, intsD a), (2, intsD b), (9, I k)]) (fun _ => H) (fun k => a.length - k) 0 ⟨Nat.zero_le _, rfl⟩ rfl ⟨rfl, rfl, rfl, trivial⟩ fun k ⟨hk, hg⟩ => ?_
      (repeat (first | refine RO.S ?_ | refine RO.Y ?_ | refine RO.no rfl (by decide) rfl ?_ | refine RO.nil ?_ | refine DW.region ?_ | refine DW.seq ?_ | refine DW.block ?_ | refine DW.skip ?_ | refine DW.exit ?_ | refine DW.condT rfl ?_ | refine DW.condF rfl ?_))
      refine DW.cond rfl (fun hc => ?_) (fun hc => ?_)
      · have hlt : k < a.length := by have := of_decide_eq_true hc; omega
        have hlt2 : k < b.length := by omega
        rw [lexC_drop hlt hlt2] at hg
        (repeat (first | refine RO.S ?_ | refine RO.Y ?_ | refine RO.no rfl (by decide) rfl ?_ | refine RO.nil ?_ | refine DW.region ?_ | refine DW.seq ?_ | refine DW.block ?_ | refine DW.skip ?_ | refine DW.exit ?_ | refine DW.condT rfl ?_ | refine DW.condF rfl ?_))
        refine DW.drawS 9 Tryz.mixed (by kernel_rfl) (by decide) ?_
        dsimp only [List.take, List.drop]
        (repeat (first | refine RS.S ?_ | refine RS.Y ?_ | refine RS.no rfl (by decide) rfl ?_ | refine RS.nil ?_))
        (repeat (first | refine RO.S ?_ | refine RO.Y ?_ | refine RO.no rfl (by decide) rfl ?_ | refine RO.nil ?_ | refine DW.region ?_ | refine DW.seq ?_ | refine DW.block ?_ | refine DW.skip ?_ | refine DW.exit ?_ | refine DW.condT rfl ?_ | refine DW.condF rfl ?_))
        refine DW.cond rfl (fun hc => ?_) (fun hc => ?_)
        · have hne : a[k] ≠ b[k] := by simpa using hc
          have : decide (0 < lexC a b) = decide (b[k] < a[k]) := by
            rw [← hg, decide_eq_decide]
            split
            · omega
            · rw [if_pos (by omega)]; omega
          rw [this]
          (repeat (first | refine RO.S ?_ | refine RO.Y ?_ | refine RO.no rfl (by decide) rfl ?_ | refine RO.nil ?_ | refine DW.region ?_ | refine DW.seq ?_ | refine DW.block ?_ | refine DW.skip ?_ | refine DW.exit ?_ | refine DW.condT rfl ?_ | refine DW.condF rfl ?_))
          refine DW.drawS 9 Tryz.mixed (by kernel_rfl) (by decide) ?_
          dsimp only [List.take, List.drop]
          (repeat (first | refine RS.S ?_ | refine RS.Y ?_ | refine RS.no rfl (by decide) rfl ?_ | refine RS.nil ?_))
          (repeat (first | refine RO.S ?_ | refine RO.Y ?_ | refine RO.no rfl (by decide) rfl ?_ | refine RO.nil ?_ | refine DW.region ?_ | refine DW.seq ?_ | refine DW.block ?_ | refine DW.skip ?_ | refine DW.exit ?_ | refine DW.condT rfl ?_ | refine DW.condF rfl ?_))
          exact DW.ret ⟨.inl rfl, _, rfl, Over.refl _, .same _⟩
        · have he : a[k] = b[k] := by simpa using hc
          rw [if_neg (by omega), if_neg (by omega)] at hg
          (repeat (first | refine RO.S ?_ | refine RO.Y ?_ | refine RO.no rfl (by decide) rfl ?_ | refine RO.nil ?_ | refine DW.region ?_ | refine DW.seq ?_ | refine DW.block ?_ | refine DW.skip ?_ | refine DW.exit ?_ | refine DW.condT rfl ?_ | refine DW.condF rfl ?_))
          exact ⟨k + 1, ⟨hlt, hg⟩, by dsimp only; omega, rfl, rfl, rfl, rfl, trivial⟩
      · have hge : k = a.length := by have := of_decide_eq_false hc; omega
        subst hge
        have : lexC a b = 0 := by rw [← hg]; simp [lexC]
        rw [this]
        (repeat (first | refine RO.S ?_ | refine RO.Y ?_ | refine RO.no rfl (by decide) rfl ?_ | refine RO.nil ?_ | refine DW.region ?_ | refine DW.seq ?_ | refine DW.block ?_ | refine DW.skip ?_ | refine DW.exit ?_ | refine DW.condT rfl ?_ | refine DW.condF rfl ?_))
        exact DW.ret ⟨.inl rfl, _, rfl, Over.refl _, .same _⟩
    · have h2 : ¬ r.order = 2 := by simpa using hc
      have hv : cmpM r.order a b = lexC b.reverse a.reverse := by unfold cmpM; rw [if_pos h, if_neg h2]
      rw [hv]
      (repeat (first | refine RO.S ?_ | refine RO.Y ?_ | refine RO.no rfl (by decide) rfl ?_ | refine RO.nil ?_ | refine DW.region ?_ | refine DW.seq ?_ | refine DW.block ?_ | refine DW.skip ?_ | refine DW.exit ?_ | refine DW.condT rfl ?_ | refine DW.condF rfl ?_))
      refine DW.loopI (fun i : Int => -1 ≤ i ∧ i < a.length ∧ lexC (b.take (i + 1).toNat).reverse (a.take (i + 1).toNat).reverse = lexC b.reverse a.reverse) (fun i => [(1, intsD a), (2, intsD b), (10, I i)]) (fun _ => H) (fun i => (i + 1).toNat) ((a.length : Int) - 1)
        ⟨by omega, by omega, by
          have : ((a.length : Int) - 1 + 1).toNat = a.length := by omega
          rw [this, List.take_length, hab, List.take_length]⟩ rfl ⟨rfl, rfl, rfl, trivial⟩ fun i ⟨hi1, hi2, hg⟩ => ?_
      (repeat (first | refine RO.S ?_ | refine RO.Y ?_ | refine RO.no rfl (by decide) rfl ?_ | refine RO.nil ?_ | refine DW.region ?_ | refine DW.seq ?_ | refine DW.block ?_ | refine DW.skip ?_ | refine DW.exit ?_ | refine DW.condT rfl ?_ | refine DW.condF rfl ?_))
      refine DW.cond rfl (fun hc => ?_) (fun hc => ?_)
      · obtain ⟨k, rfl⟩ : ∃ k : Nat, i = k := ⟨i.toNat, by have := of_decide_eq_true hc; omega⟩
        have hlt : k < a.length := by omega
        have hlt2 : k < b.length := by omega
        have hk1 : ((k : Int) + 1).toNat = k + 1 := by omega
        rw [hk1, lexC_take_rev hlt hlt2] at hg
        (repeat (first | refine RO.S ?_ | refine RO.Y ?_ | refine RO.no rfl (by decide) rfl ?_ | refine RO.nil ?_ | refine DW.region ?_ | refine DW.seq ?_ | refine DW.block ?_ | refine DW.skip ?_ | refine DW.exit ?_ | refine DW.condT rfl ?_ | refine DW.condF rfl ?_))
        refine DW.drawS 9 Tryz.mixed (by kernel_rfl) (by decide) ?_
        dsimp only [List.take, List.drop]
        (repeat (first | refine RS.S ?_ | refine RS.Y ?_ | refine RS.no rfl (by decide) rfl ?_ | refine RS.nil ?_))
        (repeat (first | refine RO.S ?_ | refine RO.Y ?_ | refine RO.no rfl (by decide) rfl ?_ | refine RO.nil ?_ | refine DW.region ?_ | refine DW.seq ?_ | refine DW.block ?_ | refine DW.skip ?_ | refine DW.exit ?_ | refine DW.condT rfl ?_ | refine DW.condF rfl ?_))
        refine DW.cond rfl (fun hc => ?_) (fun hc => ?_)
        · have hne : a[k] ≠ b[k] := by simpa using hc
          have : decide (0 < lexC b.reverse a.reverse) = decide (a[k] < b[k]) := by
            rw [← hg, decide_eq_decide]
            split
            · omega
            · rw [if_pos (by omega)]; omega
          rw [this]
          (repeat (first | refine RO.S ?_ | refine RO.Y ?_ | refine RO.no rfl (by decide) rfl ?_ | refine RO.nil ?_ | refine DW.region ?_ | refine DW.seq ?_ | refine DW.block ?_ | refine DW.skip ?_ | refine DW.exit ?_ | refine DW.condT rfl ?_ | refine DW.condF rfl ?_))
          refine DW.drawS 9 Tryz.mixed (by kernel_rfl) (by decide) ?_
          dsimp only [List.take, List.drop]
          (repeat (first | refine RS.S ?_ | refine RS.Y ?_ | refine RS.no rfl (by decide) rfl ?_ | refine RS.nil ?_))
          (repeat (first | refine RO.S ?_ | refine RO.Y ?_ | refine RO.no rfl (by decide) rfl ?_ | refine RO.nil ?_ | refine DW.region ?_ | refine DW.seq ?_ | refine DW.block ?_ | refine DW.skip ?_ | refine DW.exit ?_ | refine DW.condT rfl ?_ | refine DW.condF rfl ?_))
          exact DW.ret ⟨.inl rfl, _, rfl, Over.refl _, .same _⟩
        · have he : a[k] = b[k] := by simpa using hc
          rw [if_neg (by omega), if_neg (by omega)] at hg
          (repeat (first | refine RO.S ?_ | refine RO.Y ?_ | refine RO.no rfl (by decide) rfl ?_ | refine RO.nil ?_ | refine DW.region ?_ | refine DW.seq ?_ | refine DW.block ?_ | refine DW.skip ?_ | refine DW.exit ?_ | refine DW.condT rfl ?_ | refine DW.condF rfl ?_))
          refine ⟨(k : Int) - 1, ⟨by omega, by omega, ?_⟩, by dsimp only; omega, rfl, rfl, rfl, rfl, trivial⟩
          have : ((k : Int) - 1 + 1).toNat = k := by omega
          rw [this]
          exact hg
      · have hge : i = -1 := by have := of_decide_eq_false hc; omega
        subst hge
        have : lexC b.reverse a.reverse = 0 := by rw [← hg]; simp [lexC]
        rw [this]
        (repeat (first | refine RO.S ?_ | refine RO.Y ?_ | refine RO.no rfl (by decide) rfl ?_ | refine RO.nil ?_ | refine DW.region ?_ | refine DW.seq ?_ | refine DW.block ?_ | refine DW.skip ?_ | refine DW.exit ?_ | refine DW.condT rfl ?_ | refine DW.condF rfl ?_))
        exact DW.ret ⟨.inl rfl, _, rfl, Over.refl _, .same _⟩

end Go.Proofs.YtcdihmhmoddppaaGreat
