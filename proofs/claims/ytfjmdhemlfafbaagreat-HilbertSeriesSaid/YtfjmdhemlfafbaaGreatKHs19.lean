/-
  Package divide: IsNormal, Normal; the document's NormalOf. No condition.
-/
import Derived.Test.YtfjmdhemlfafbaaGreatKHs18
import Derived.Test.YtfjmdhemlfafbaaGreatKHs11
import Derived.Test.YtfjmdhemlfafbaaGreatKHs17
import Derived.Test.YtfjmdhemlfafbaaGreatKHs5
import Derived.Test.YtfjmdhemlfafbaaGreatKHs9
import Derived.Test.YtfjmdhemlfafbaaGreatKHs13
set_option linter.unusedVariables false
set_option linter.unusedSimpArgs false

namespace Go.Proofs.YtfjmdhemlfafbaaGreat
open Go.RowKit
set_option maxHeartbeats 8000000

theorem First_pure (r : Rg) (i k : Int) {a b : List Int} (ha : MOk a) (hb : MOk b) (hab : a.length = b.length) : Pure Tryz.prog 77 [rgD r, I i, intsD a, I k, intsD b] (.bool (firstT r i a k b)) := by
  intro H
  refine PureH.of_body Tryz.func77 rfl (by decide) (Nat.le_of_ble_eq_true rfl) fun w0 => ?_
  (repeat (first | refine RO.Sv ?_ | refine RO.Yv ?_ | refine RO.no rfl (by decide) rfl ?_ | refine RO.nil ?_ | refine DW.region ?_ | refine DW.seq ?_ | refine DW.block ?_ | refine DW.skip ?_ | refine DW.exit ?_ | refine DW.condT rfl ?_ | refine DW.condF rfl ?_))
  refine RO.sta (sta_call rfl rfl (Compare_pure r ha hb hab _)) rfl ?_
  (repeat (first | refine RO.Sv ?_ | refine RO.Yv ?_ | refine RO.no rfl (by decide) rfl ?_ | refine RO.nil ?_ | refine DW.region ?_ | refine DW.seq ?_ | refine DW.block ?_ | refine DW.skip ?_ | refine DW.exit ?_ | refine DW.condT rfl ?_ | refine DW.condF rfl ?_))
  unfold firstT
  cases h1 : (r.over == 2)
  case true =>
    (repeat (first | refine RO.Sv ?_ | refine RO.Yv ?_ | refine RO.no rfl (by decide) rfl ?_ | refine RO.nil ?_ | refine DW.region ?_ | refine DW.seq ?_ | refine DW.block ?_ | refine DW.skip ?_ | refine DW.exit ?_ | refine DW.condT rfl ?_ | refine DW.condF rfl ?_))
    cases h2 : (i != k)
    case true =>
      rw [if_pos (.inl ⟨by simpa using h1, by simpa using h2⟩)]
      (repeat (first | refine RO.Sv ?_ | refine RO.Yv ?_ | refine RO.no rfl (by decide) rfl ?_ | refine RO.nil ?_ | refine DW.region ?_ | refine DW.seq ?_ | refine DW.block ?_ | refine DW.skip ?_ | refine DW.exit ?_ | refine DW.condT rfl ?_ | refine DW.condF rfl ?_))
      exact DW.ret ⟨.inl rfl, _, rfl, Over.refl _, .same _⟩
    (repeat (first | refine RO.Sv ?_ | refine RO.Yv ?_ | refine RO.no rfl (by decide) rfl ?_ | refine RO.nil ?_ | refine DW.region ?_ | refine DW.seq ?_ | refine DW.block ?_ | refine DW.skip ?_ | refine DW.exit ?_ | refine DW.condT rfl ?_ | refine DW.condF rfl ?_))
    cases h3 : (cmpM r.order a b == 0)
    case true =>
      rw [if_pos (.inr (by simpa using h3))]
      (repeat (first | refine RO.Sv ?_ | refine RO.Yv ?_ | refine RO.no rfl (by decide) rfl ?_ | refine RO.nil ?_ | refine DW.region ?_ | refine DW.seq ?_ | refine DW.block ?_ | refine DW.skip ?_ | refine DW.exit ?_ | refine DW.condT rfl ?_ | refine DW.condF rfl ?_))
      exact DW.ret ⟨.inl rfl, _, rfl, Over.refl _, .same _⟩
    rw [if_neg (by simp at h2 h3; simp [h2, h3])]
    (repeat (first | refine RO.Sv ?_ | refine RO.Yv ?_ | refine RO.no rfl (by decide) rfl ?_ | refine RO.nil ?_ | refine DW.region ?_ | refine DW.seq ?_ | refine DW.block ?_ | refine DW.skip ?_ | refine DW.exit ?_ | refine DW.condT rfl ?_ | refine DW.condF rfl ?_))
    exact DW.ret ⟨.inl rfl, _, rfl, Over.refl _, .same _⟩
  (repeat (first | refine RO.Sv ?_ | refine RO.Yv ?_ | refine RO.no rfl (by decide) rfl ?_ | refine RO.nil ?_ | refine DW.region ?_ | refine DW.seq ?_ | refine DW.block ?_ | refine DW.skip ?_ | refine DW.exit ?_ | refine DW.condT rfl ?_ | refine DW.condF rfl ?_))
  cases h3 : (cmpM r.order a b == 0)
  case true =>
    rw [if_pos (.inr (by simpa using h3))]
    (repeat (first | refine RO.Sv ?_ | refine RO.Yv ?_ | refine RO.no rfl (by decide) rfl ?_ | refine RO.nil ?_ | refine DW.region ?_ | refine DW.seq ?_ | refine DW.block ?_ | refine DW.skip ?_ | refine DW.exit ?_ | refine DW.condT rfl ?_ | refine DW.condF rfl ?_))
    exact DW.ret ⟨.inl rfl, _, rfl, Over.refl _, .same _⟩
  rw [if_neg (by simp at h1 h3; simp [h1, h3])]
  (repeat (first | refine RO.Sv ?_ | refine RO.Yv ?_ | refine RO.no rfl (by decide) rfl ?_ | refine RO.nil ?_ | refine DW.region ?_ | refine DW.seq ?_ | refine DW.block ?_ | refine DW.skip ?_ | refine DW.exit ?_ | refine DW.condT rfl ?_ | refine DW.condF rfl ?_))
  exact DW.ret ⟨.inl rfl, _, rfl, Over.refl _, .same _⟩

def leadD (x : Option (Nat × Tm)) : D := .tup [I (atOf x), tmD (tmOf x)]

theorem frz_tm0 {H H' : Heap} : Frz H H' (.agg [I 0, .nil]) (tmD ⟨0, []⟩) := .agg rfl fun j x y hx hy => by
  match j, hx, hy with
  | 0, hx, hy => cases hx; cases hy; exact .same _
  | 1, hx, hy => cases hx; cases hy; exact .nil 1
  | j + 2, hx, hy => simp at hx

theorem vTop_pure (r : Rg) (v : Vc) {n : Nat} {B : Int} {L : Nat} (hn : n ≤ 3) (hB : B ≤ 1000000) (hl : v.length ≤ 1000000) (hv : VB r n B L v) : Pure Tryz.prog 83 [rgD r, vcD v] (leadD (topV r v)) := by
  intro H
  refine PureH.of_bodyR Tryz.func83 rfl (by decide) (Nat.le_of_ble_eq_true rfl) fun w0 => ?_
  (repeat (first | refine RO.Sv ?_ | refine RO.Yv ?_ | refine RO.no rfl (by decide) rfl ?_ | refine RO.nil ?_ | refine DW.region ?_ | refine DW.seq ?_ | refine DW.block ?_ | refine DW.skip ?_ | refine DW.exit ?_ | refine DW.condT rfl ?_ | refine DW.condF rfl ?_))
  refine RO.dyn rfl (d_alloc fun b5 hb5 => ?_)
  (repeat (first | refine RO.Sv ?_ | refine RO.Yv ?_ | refine RO.no rfl (by decide) rfl ?_ | refine RO.nil ?_ | refine DW.region ?_ | refine DW.seq ?_ | refine DW.block ?_ | refine DW.skip ?_ | refine DW.exit ?_ | refine DW.condT rfl ?_ | refine DW.condF rfl ?_))
  refine DW.loopI (fun k : Nat => k ≤ v.length) (fun k => [(1, vcD v), (2, .ipt 4 [rgD r] 0 0), (5, .ptr b5 0), (6, I (atOf (topAt r v k))), (9, vcD v), (10, I v.length), (11, I k)]) (fun _ => H.set b5 (55, [I 0, .nil])) (fun k => v.length - k) 0 (Nat.zero_le _) rfl ⟨rfl, rfl, rfl, rfl, rfl, rfl, rfl, trivial⟩ fun k hk => ?_
  have hok := fun (i : Nat) (hi : i < v.length) (h0 : 0 < v[i].length) => (hv _ (List.getElem_mem hi)).1.all _ (List.getElem_mem h0)
  (repeat (first | refine RO.Sv ?_ | refine RO.Yv ?_ | refine RO.no rfl (by decide) rfl ?_ | refine RO.nil ?_ | refine DW.region ?_ | refine DW.seq ?_ | refine DW.block ?_ | refine DW.skip ?_ | refine DW.exit ?_ | refine DW.condT rfl ?_ | refine DW.condF rfl ?_))
  refine DW.cond rfl (fun hb => ?_) (fun hb => ?_)
  · have hlt : k < v.length := by have := of_decide_eq_true hb; omega
    clear hb
    have hsucc := topAt_succ (r := r) hlt
    (repeat (first | refine RO.Sv ?_ | refine RO.Yv ?_ | refine RO.no rfl (by decide) rfl ?_ | refine RO.nil ?_ | refine DW.region ?_ | refine DW.seq ?_ | refine DW.block ?_ | refine DW.skip ?_ | refine DW.exit ?_ | refine DW.condT rfl ?_ | refine DW.condF rfl ?_))
    refine DW.drawS 24 Tryz.mixed (by kernel_rfl) (by decide) ?_
    dsimp only [List.take, List.drop]
    (repeat (first | refine RS.Sv ?_ | refine RS.Yv ?_ | refine RS.no rfl (by decide) rfl ?_ | refine RS.nil ?_))
    cases h1 : decide ((0 : Int) < (v[k].length : Int))
    case false =>
      have hnil : v[k] = [] := List.length_eq_zero_iff.1 (by have := of_decide_eq_false h1; omega)
      rw [hnil] at hsucc
      (repeat (first | refine RS.Sv ?_ | refine RS.Yv ?_ | refine RS.no rfl (by decide) rfl ?_ | refine RS.nil ?_))
      (repeat (first | refine RO.Sv ?_ | refine RO.Yv ?_ | refine RO.no rfl (by decide) rfl ?_ | refine RO.nil ?_ | refine DW.region ?_ | refine DW.seq ?_ | refine DW.block ?_ | refine DW.skip ?_ | refine DW.exit ?_ | refine DW.condT rfl ?_ | refine DW.condF rfl ?_))
      exact ⟨k + 1, hlt, by dsimp only; omega, rfl, rfl, rfl, rfl, by rw [hsucc]; rfl, rfl, rfl, rfl, trivial⟩
    have hlk : 0 < v[k].length := by have := of_decide_eq_true h1; omega
    have ht := hok k hlt hlk
    obtain ⟨t, g, hvk⟩ : ∃ t g, v[k] = t :: g := by
      cases hc : v[k] with
      | nil => rw [hc] at hlk; simp at hlk
      | cons t g => exact ⟨t, g, rfl⟩
    have hvk0 : v[k][0] = t := by simp [hvk]
    cases hx : topAt r v k with
    | none =>
      rw [hx, hvk] at hsucc
      (repeat (first | refine RS.Sv ?_ | refine RS.Yv ?_ | refine RS.no rfl (by decide) rfl ?_ | refine RS.nil ?_))
      (repeat (first | refine RO.Sv ?_ | refine RO.Yv ?_ | refine RO.no rfl (by decide) rfl ?_ | refine RO.nil ?_ | refine DW.region ?_ | refine DW.seq ?_ | refine DW.block ?_ | refine DW.skip ?_ | refine DW.exit ?_ | refine DW.condT rfl ?_ | refine DW.condF rfl ?_))
      exact ⟨k + 1, hlt, by dsimp only; omega, rfl, rfl, rfl, rfl, by rw [hsucc]; rfl, rfl, rfl, rfl, trivial⟩
    | some x =>
      obtain ⟨a, u⟩ := x
      obtain ⟨hak, ha, ha2, hau⟩ := topAt_ok hk hx
      have hu := hok a ha ha2
      have hat : atOf (some (a, u)) = (a : Int) := rfl
      have hneg : decide ((a : Int) < 0) = false := decide_eq_false (by omega)
      rw [hx, hvk] at hsucc
      rw [hat]
      (repeat (first | refine RS.Sv ?_ | refine RS.Yv ?_ | refine RS.no rfl (by decide) rfl ?_ | refine RS.nil ?_))
      rw [hneg]
      (repeat (first | refine RS.Sv ?_ | refine RS.Yv ?_ | refine RS.no rfl (by decide) rfl ?_ | refine RS.nil ?_))
      refine RS.yes rfl (fun H' hov => sta_call rfl rfl (First_pure r k a (ht.mok hn hB) (hu.mok hn hB) (by rw [ht.len, hu.len]) _)) rfl ?_
      (repeat (first | refine RS.Sv ?_ | refine RS.Yv ?_ | refine RS.no rfl (by decide) rfl ?_ | refine RS.nil ?_))
      have hst : topStep r (some (a, u)) k (t :: g) = if firstT r k v[k][0].e a v[a][0].e = true then some (k, t) else some (a, u) := by rw [hvk0, hau]; rfl
      rw [hst] at hsucc
      cases h2 : firstT r k v[k][0].e a v[a][0].e
      · rw [h2, if_neg (by simp)] at hsucc
        (repeat (first | refine RO.Sv ?_ | refine RO.Yv ?_ | refine RO.no rfl (by decide) rfl ?_ | refine RO.nil ?_ | refine DW.region ?_ | refine DW.seq ?_ | refine DW.block ?_ | refine DW.skip ?_ | refine DW.exit ?_ | refine DW.condT rfl ?_ | refine DW.condF rfl ?_))
        exact ⟨k + 1, hlt, by dsimp only; omega, rfl, rfl, rfl, rfl, by rw [hsucc]; rfl, rfl, rfl, rfl, trivial⟩
      · rw [h2, if_pos rfl] at hsucc
        (repeat (first | refine RO.Sv ?_ | refine RO.Yv ?_ | refine RO.no rfl (by decide) rfl ?_ | refine RO.nil ?_ | refine DW.region ?_ | refine DW.seq ?_ | refine DW.block ?_ | refine DW.skip ?_ | refine DW.exit ?_ | refine DW.condT rfl ?_ | refine DW.condF rfl ?_))
        exact ⟨k + 1, hlt, by dsimp only; omega, rfl, rfl, rfl, rfl, by rw [hsucc]; rfl, rfl, rfl, rfl, trivial⟩
  · have hke : k = v.length := by have := of_decide_eq_false hb; omega
    subst hke
    clear hb
    show DW _ _ _ _ _
    have hov := (Over.refl H).set (x := (55, [I 0, .nil])) hb5
    unfold topV
    cases hx : topAt r v v.length with
    | none =>
      (repeat (first | refine RO.Sv ?_ | refine RO.Yv ?_ | refine RO.no rfl (by decide) rfl ?_ | refine RO.nil ?_ | refine DW.region ?_ | refine DW.seq ?_ | refine DW.block ?_ | refine DW.skip ?_ | refine DW.exit ?_ | refine DW.condT rfl ?_ | refine DW.condF rfl ?_))
      refine RO.sta (s_buildT (out := [I 0, .nil]) rfl rfl) rfl ?_
      (repeat (first | refine RO.Sv ?_ | refine RO.Yv ?_ | refine RO.no rfl (by decide) rfl ?_ | refine RO.nil ?_ | refine DW.region ?_ | refine DW.seq ?_ | refine DW.block ?_ | refine DW.skip ?_ | refine DW.exit ?_ | refine DW.condT rfl ?_ | refine DW.condF rfl ?_))
      refine RO.dyn rfl (d_store (k := 2) rfl rfl rfl (Heap.set_self _ _ _) (by decide) (by simp [cellsOf, D.isCell]) ?_)
      (repeat (first | refine RO.Sv ?_ | refine RO.Yv ?_ | refine RO.no rfl (by decide) rfl ?_ | refine RO.nil ?_ | refine DW.region ?_ | refine DW.seq ?_ | refine DW.block ?_ | refine DW.skip ?_ | refine DW.exit ?_ | refine DW.condT rfl ?_ | refine DW.condF rfl ?_))
      rw [Heap.set_set]
      exact DW.ret ⟨.inl rfl, _, .tmp rfl (.cell (cells := [I 0, .nil]) inferInstance rfl (Heap.set_self _ _ _) .nil), (Over.refl _).set hb5, .tup2 (.same _) frz_tm0⟩
    | some x =>
      obtain ⟨a, u⟩ := x
      obtain ⟨hak, ha, ha2, hau⟩ := topAt_ok hk hx
      have hat : atOf (some (a, u)) = (a : Int) := rfl
      have hneg : decide ((a : Int) < 0) = false := decide_eq_false (by omega)
      rw [hat]
      (repeat (first | refine RO.Sv ?_ | refine RO.Yv ?_ | refine RO.no rfl (by decide) rfl ?_ | refine RO.nil ?_ | refine DW.region ?_ | refine DW.seq ?_ | refine DW.block ?_ | refine DW.skip ?_ | refine DW.exit ?_ | refine DW.condT rfl ?_ | refine DW.condF rfl ?_))
      rw [hneg]
      (repeat (first | refine RO.Sv ?_ | refine RO.Yv ?_ | refine RO.no rfl (by decide) rfl ?_ | refine RO.nil ?_ | refine DW.region ?_ | refine DW.seq ?_ | refine DW.block ?_ | refine DW.skip ?_ | refine DW.exit ?_ | refine DW.condT rfl ?_ | refine DW.condF rfl ?_))
      refine DW.drawS 8 Tryz.mixed (by kernel_rfl) (by decide) ?_
      dsimp only [List.take, List.drop]
      (repeat (first | refine RS.Sv ?_ | refine RS.Yv ?_ | refine RS.no rfl (by decide) rfl ?_ | refine RS.nil ?_))
      refine RO.dyn rfl (d_storeTm rfl rfl (Heap.set_self _ _ _) rfl ?_)
      (repeat (first | refine RO.Sv ?_ | refine RO.Yv ?_ | refine RO.no rfl (by decide) rfl ?_ | refine RO.nil ?_ | refine DW.region ?_ | refine DW.seq ?_ | refine DW.block ?_ | refine DW.skip ?_ | refine DW.exit ?_ | refine DW.condT rfl ?_ | refine DW.condF rfl ?_))
      rw [Heap.set_set]
      refine DW.ret ⟨.inl rfl, _, .tmp rfl (.cell (cells := [I v[a][0].c, intsD v[a][0].e]) inferInstance rfl (Heap.set_self _ _ _) .nil), (Over.refl _).set hb5, .tup2 (.same _) ?_⟩
      rw [hau]
      exact .same _

end Go.Proofs.YtfjmdhemlfafbaaGreat

namespace Go.Proofs.YtfjmdhemlfafbaaGreat
open Go.RowKit
set_option maxHeartbeats 8000000

end Go.Proofs.YtfjmdhemlfafbaaGreat

namespace Go.Proofs.YtfjmdhemlfafbaaGreat
open Go.RowKit
set_option maxHeartbeats 8000000

theorem Heap.none_of_set {H : Heap} {b c : Nat} {x : TypeId × List D} (hne : b ≠ c) (h : H.set b x c = none) : H c = none := by
  rw [Heap.set_other _ _ hne.symm] at h; exact h

theorem VB.mok {r : Rg} {n : Nat} {B : Int} {L : Nat} {v : Vc} (h : VB r n B L v) (hn : n ≤ 3) (hB : B ≤ 1000000) (hL : L ≤ 4000000000000) : ∀ f ∈ v, f.length ≤ 4000000000000 ∧ ∀ t ∈ f, MOk t.e :=
  fun f hf => ⟨by have := (h f hf).2; omega, fun t ht => ((h f hf).1.all t ht).mok hn hB⟩

theorem VB.sum {r : Rg} {n : Nat} {B : Int} {L M : Nat} {v w : Vc} (hp : 0 < r.p) (hv : VB r n B L v) (hw : VB r n B M w) : VB r n B (L + M) (vsumT r v w) := fun f hf => by
  unfold vsumT at hf
  obtain ⟨i, hi, rfl⟩ := List.getElem_of_mem hf
  rw [List.length_zipWith] at hi
  have h1 := hv _ (List.getElem_mem (show i < v.length by omega))
  have h2 := hw _ (List.getElem_mem (show i < w.length by omega))
  rw [List.getElem_zipWith]
  exact ⟨sumT_ok hp _ _ h1.1 h2.1, by have := sumT_length (p := r.p) (o := r.order) (v[i]'(by omega)) (w[i]'(by omega)); omega⟩

theorem VB.nil {r : Rg} {n : Nat} {B : Int} {L k : Nat} : VB r n B L (List.replicate k []) := fun f hf => by
  rw [List.eq_of_mem_replicate hf]; exact ⟨PB.nil _ _ _ _ _, Nat.zero_le _⟩

theorem VB.mono {r : Rg} {n : Nat} {B C : Int} {L M : Nat} {v : Vc} (h : VB r n B L v) (hB : B ≤ C) (hL : L ≤ M) : VB r n C M v := fun f hf => ⟨(h f hf).1.mono (by omega) hB, by have := (h f hf).2; omega⟩

end Go.Proofs.YtfjmdhemlfafbaaGreat

namespace Go.Proofs.YtfjmdhemlfafbaaGreat
open Go.RowKit
set_option maxHeartbeats 8000000

def rowDeg (g : Int) : Int → Pl → Option Int
  | d, [] => some d
  | d, t :: f => if 0 ≤ d ∧ g + t.e.sum ≠ d then none else rowDeg g (g + t.e.sum) f

def degGo : List Int → Int → Vc → Option Int
  | g :: gs, d, f :: v => (rowDeg g d f).bind fun d => degGo gs d v
  | _, d, _ => some d

def sameT (gs : List Int) (v : Vc) : Int × Int := match degGo gs (-1) v with
  | none => (0, 4)
  | some d => if d < 0 then (0, 5) else (d, 0)

theorem degGo_drop {gs : List Int} {v : Vc} {d : Int} {k : Nat} (h1 : k < gs.length) (h2 : k < v.length) : degGo (gs.drop k) d (v.drop k) = (rowDeg gs[k] d v[k]).bind fun d => degGo (gs.drop (k + 1)) d (v.drop (k + 1)) := by
  rw [List.drop_eq_getElem_cons h1, List.drop_eq_getElem_cons h2]
  rfl

theorem rowDeg_drop {g d : Int} {f : Pl} {j : Nat} (h : j < f.length) : rowDeg g d (f.drop j) = if 0 ≤ d ∧ g + f[j].e.sum ≠ d then none else rowDeg g (g + f[j].e.sum) (f.drop (j + 1)) := by
  rw [List.drop_eq_getElem_cons h]
  rfl

theorem degGo_end {gs : List Int} {d : Int} : degGo gs d [] = some d := by cases gs <;> rfl

theorem vSame_pure (gs : List Int) (v : Vc) (hl : v.length ≤ 1000000) (hlen : gs.length = v.length) (hg : ∀ g ∈ gs, -1000000 ≤ g ∧ g ≤ 1000000) (hv : ∀ f ∈ v, f.length ≤ 4000000000000 ∧ ∀ t ∈ f, MOk t.e) : Pure Tryz.prog 24 [intsD gs, vcD v] (pairD (sameT gs v)) := by
  intro H
  refine PureH.of_body Tryz.func24 rfl (by decide) (Nat.le_of_ble_eq_true rfl) fun w0 => ?_
  (repeat (first | refine RO.Sv ?_ | refine RO.Yv ?_ | refine RO.no rfl (by decide) rfl ?_ | refine RO.nil ?_ | refine DW.region ?_ | refine DW.seq ?_ | refine DW.block ?_ | refine DW.skip ?_ | refine DW.exit ?_ | refine DW.condT rfl ?_ | refine DW.condF rfl ?_))
  refine DW.loopG (fun x : Nat × Int => x.1 ≤ v.length ∧ degGo (gs.drop x.1) x.2 (v.drop x.1) = degGo gs (-1) v) (fun x => [(0, intsD gs), (6, I x.2), (12, vcD v), (13, I v.length), (14, I x.1)]) (fun _ => H) (fun x => v.length - x.1) (0, -1)
    ⟨Nat.zero_le _, rfl⟩ (Heap.sub_refl _) (.one rfl (.one rfl (.one rfl (.one rfl (.one rfl trivial))))) fun ⟨k, d⟩ ⟨hk, hgo⟩ => ?_
  dsimp only at hk hgo
  dsimp only
  (repeat (first | refine RO.Sv ?_ | refine RO.Yv ?_ | refine RO.no rfl (by decide) rfl ?_ | refine RO.nil ?_ | refine DW.region ?_ | refine DW.seq ?_ | refine DW.block ?_ | refine DW.skip ?_ | refine DW.exit ?_ | refine DW.condT rfl ?_ | refine DW.condF rfl ?_))
  refine DW.cond rfl (fun hb => ?_) (fun hb => ?_)
  · have hlt : k < v.length := by have := of_decide_eq_true hb; omega
    have hlt2 : k < gs.length := by omega
    obtain ⟨hv1, hv2⟩ := hv _ (List.getElem_mem hlt)
    have hgk := hg _ (List.getElem_mem hlt2)
    rw [degGo_drop hlt2 hlt] at hgo
    clear hb
    (repeat (first | refine RO.Sv ?_ | refine RO.Yv ?_ | refine RO.no rfl (by decide) rfl ?_ | refine RO.nil ?_ | refine DW.region ?_ | refine DW.seq ?_ | refine DW.block ?_ | refine DW.skip ?_ | refine DW.exit ?_ | refine DW.condT rfl ?_ | refine DW.condF rfl ?_))
    refine DW.loopG (fun x : Nat × Int => x.1 ≤ v[k].length ∧ rowDeg gs[k] x.2 (v[k].drop x.1) = rowDeg gs[k] d v[k]) (fun x => [(0, intsD gs), (6, I x.2), (7, I k), (12, vcD v), (13, I v.length), (14, I k), (19, plD v[k]), (20, I v[k].length), (21, I x.1)]) (fun _ => H) (fun x => v[k].length - x.1) (0, d)
      ⟨Nat.zero_le _, rfl⟩ (Heap.sub_refl _) (.one rfl (.one rfl (.one rfl (.one rfl (.one rfl (.one rfl (.one rfl (.one rfl (.one rfl trivial))))))))) fun ⟨j, c⟩ ⟨hj, hrow⟩ => ?_
    dsimp only at hj hrow
    dsimp only
    (repeat (first | refine RO.Sv ?_ | refine RO.Yv ?_ | refine RO.no rfl (by decide) rfl ?_ | refine RO.nil ?_ | refine DW.region ?_ | refine DW.seq ?_ | refine DW.block ?_ | refine DW.skip ?_ | refine DW.exit ?_ | refine DW.condT rfl ?_ | refine DW.condF rfl ?_))
    refine DW.cond rfl (fun hb => ?_) (fun hb => ?_)
    · have hjl : j < v[k].length := by have := of_decide_eq_true hb; omega
      have hm := hv2 _ (List.getElem_mem hjl)
      have hs := hm.sum
      rw [rowDeg_drop hjl] at hrow
      clear hb
      (repeat (first | refine RO.Sv ?_ | refine RO.Yv ?_ | refine RO.no rfl (by decide) rfl ?_ | refine RO.nil ?_ | refine DW.region ?_ | refine DW.seq ?_ | refine DW.block ?_ | refine DW.skip ?_ | refine DW.exit ?_ | refine DW.condT rfl ?_ | refine DW.condF rfl ?_))
      (refine RO.dyn rfl (d_alloc fun bv hbv => ?_); (repeat (first | refine RO.Sv ?_ | refine RO.Yv ?_ | refine RO.no rfl (by decide) rfl ?_)); refine RO.dyn rfl (d_storeTm rfl rfl (Heap.set_self _ _ _) rfl ?_); rw [Heap.set_set])
      (repeat (first | refine RO.Sv ?_ | refine RO.Yv ?_ | refine RO.no rfl (by decide) rfl ?_ | refine RO.nil ?_ | refine DW.region ?_ | refine DW.seq ?_ | refine DW.block ?_ | refine DW.skip ?_ | refine DW.exit ?_ | refine DW.condT rfl ?_ | refine DW.condF rfl ?_))
      refine DW.drawS 9 Tryz.mixed (by kernel_rfl) (by decide) ?_
      dsimp only [List.take, List.drop]
      (repeat (first | refine RS.Sv ?_ | refine RS.Yv ?_ | refine RS.no rfl (by decide) rfl ?_ | refine RS.nil ?_))
      refine RS.sta (fun H' hov => sta_call rfl rfl (Degree_pure hm _)) rfl ?_
      (repeat (first | refine RS.Sv ?_ | refine RS.Yv ?_ | refine RS.no rfl (by decide) rfl ?_ | refine RS.nil ?_))
      (repeat (first | refine RO.Sv ?_ | refine RO.Yv ?_ | refine RO.no rfl (by decide) rfl ?_ | refine RO.nil ?_ | refine DW.region ?_ | refine DW.seq ?_ | refine DW.block ?_ | refine DW.skip ?_ | refine DW.exit ?_ | refine DW.condT rfl ?_ | refine DW.condF rfl ?_))
      have next : ¬ (0 ≤ c ∧ gs[k] + v[k][j].e.sum ≠ c) → rowDeg gs[k] (gs[k] + v[k][j].e.sum) (v[k].drop (j + 1)) = rowDeg gs[k] d v[k] := fun h => by rwa [if_neg h] at hrow
      cases h1 : decide (0 ≤ c)
      · (repeat (first | refine RO.Sv ?_ | refine RO.Yv ?_ | refine RO.no rfl (by decide) rfl ?_ | refine RO.nil ?_ | refine DW.region ?_ | refine DW.seq ?_ | refine DW.block ?_ | refine DW.skip ?_ | refine DW.exit ?_ | refine DW.condT rfl ?_ | refine DW.condF rfl ?_))
        exact ⟨(j + 1, gs[k] + v[k][j].e.sum), ⟨hjl, next (by simp at h1; omega)⟩, by dsimp only; omega, Heap.sub_set _ hbv, (.one rfl (.one rfl (.one rfl (.one rfl (.one rfl (.one rfl (.one rfl (.one rfl (.one rfl trivial)))))))))⟩
      · (repeat (first | refine RO.Sv ?_ | refine RO.Yv ?_ | refine RO.no rfl (by decide) rfl ?_ | refine RO.nil ?_ | refine DW.region ?_ | refine DW.seq ?_ | refine DW.block ?_ | refine DW.skip ?_ | refine DW.exit ?_ | refine DW.condT rfl ?_ | refine DW.condF rfl ?_))
        cases h2 : (gs[k] + v[k][j].e.sum != c)
        · (repeat (first | refine RO.Sv ?_ | refine RO.Yv ?_ | refine RO.no rfl (by decide) rfl ?_ | refine RO.nil ?_ | refine DW.region ?_ | refine DW.seq ?_ | refine DW.block ?_ | refine DW.skip ?_ | refine DW.exit ?_ | refine DW.condT rfl ?_ | refine DW.condF rfl ?_))
          exact ⟨(j + 1, gs[k] + v[k][j].e.sum), ⟨hjl, next (by simp at h2; simp [h2])⟩, by dsimp only; omega, Heap.sub_set _ hbv, (.one rfl (.one rfl (.one rfl (.one rfl (.one rfl (.one rfl (.one rfl (.one rfl (.one rfl trivial)))))))))⟩
        · rw [if_pos ⟨of_decide_eq_true h1, by simpa using h2⟩] at hrow
          rw [← hrow] at hgo
          have : sameT gs v = (0, 4) := by unfold sameT; rw [← hgo]; rfl
          rw [this]
          (repeat (first | refine RO.Sv ?_ | refine RO.Yv ?_ | refine RO.no rfl (by decide) rfl ?_ | refine RO.nil ?_ | refine DW.region ?_ | refine DW.seq ?_ | refine DW.block ?_ | refine DW.skip ?_ | refine DW.exit ?_ | refine DW.condT rfl ?_ | refine DW.condF rfl ?_))
          exact DW.ret ⟨.inl rfl, _, rfl, (Over.refl _).set hbv, .same _⟩
    · have hje : j = v[k].length := by have := of_decide_eq_false hb; omega
      rw [hje, List.drop_length] at hrow
      rw [← hrow] at hgo
      (repeat (first | refine RO.Sv ?_ | refine RO.Yv ?_ | refine RO.no rfl (by decide) rfl ?_ | refine RO.nil ?_ | refine DW.region ?_ | refine DW.seq ?_ | refine DW.block ?_ | refine DW.skip ?_ | refine DW.exit ?_ | refine DW.condT rfl ?_ | refine DW.condF rfl ?_))
      exact ⟨(k + 1, c), ⟨hlt, hgo⟩, by dsimp only; omega, Heap.sub_refl _, (.one rfl (.one rfl (.one rfl (.one rfl (.one rfl trivial)))))⟩
  · have hke : k = v.length := by have := of_decide_eq_false hb; omega
    rw [hke, List.drop_length, degGo_end] at hgo
    clear hb
    unfold sameT
    rw [← hgo]
    dsimp only
    (repeat (first | refine RO.Sv ?_ | refine RO.Yv ?_ | refine RO.no rfl (by decide) rfl ?_ | refine RO.nil ?_ | refine DW.region ?_ | refine DW.seq ?_ | refine DW.block ?_ | refine DW.skip ?_ | refine DW.exit ?_ | refine DW.condT rfl ?_ | refine DW.condF rfl ?_))
    refine DW.cond rfl (fun hb => ?_) (fun hb => ?_)
    · rw [if_pos (of_decide_eq_true hb)]
      (repeat (first | refine RO.Sv ?_ | refine RO.Yv ?_ | refine RO.no rfl (by decide) rfl ?_ | refine RO.nil ?_ | refine DW.region ?_ | refine DW.seq ?_ | refine DW.block ?_ | refine DW.skip ?_ | refine DW.exit ?_ | refine DW.condT rfl ?_ | refine DW.condF rfl ?_))
      exact DW.ret ⟨.inl rfl, _, rfl, Over.refl _, .same _⟩
    · rw [if_neg (of_decide_eq_false hb)]
      (repeat (first | refine RO.Sv ?_ | refine RO.Yv ?_ | refine RO.no rfl (by decide) rfl ?_ | refine RO.nil ?_ | refine DW.region ?_ | refine DW.seq ?_ | refine DW.block ?_ | refine DW.skip ?_ | refine DW.exit ?_ | refine DW.condT rfl ?_ | refine DW.condF rfl ?_))
      exact DW.ret ⟨.inl rfl, _, rfl, Over.refl _, .same _⟩

theorem VDegree_pure (gs : List Int) (v : Vc) (hl : v.length ≤ 1000000) (hlen : gs.length = v.length) (hg : ∀ g ∈ gs, -1000000 ≤ g ∧ g ≤ 1000000) (hv : ∀ f ∈ v, f.length ≤ 4000000000000 ∧ ∀ t ∈ f, MOk t.e) : Pure Tryz.prog 20 [intsD gs, vcD v] (pairD (sameT gs v)) := by
  intro H
  refine PureH.of_body Tryz.func20 rfl (by decide) (Nat.le_of_ble_eq_true rfl) fun w0 => ?_
  (repeat (first | refine RO.Sv ?_ | refine RO.Yv ?_ | refine RO.no rfl (by decide) rfl ?_ | refine RO.nil ?_ | refine DW.region ?_ | refine DW.seq ?_ | refine DW.block ?_ | refine DW.skip ?_ | refine DW.exit ?_ | refine DW.condT rfl ?_ | refine DW.condF rfl ?_))
  refine DW.loopI (fun x : Nat × Int => x.1 ≤ v.length ∧ degGo (gs.drop x.1) x.2 (v.drop x.1) = degGo gs (-1) v) (fun x => [(0, intsD gs), (1, vcD v), (6, I x.2), (7, I x.1)]) (fun _ => H) (fun x => v.length - x.1) (0, -1)
    ⟨Nat.zero_le _, rfl⟩ rfl ⟨rfl, rfl, rfl, rfl, trivial⟩ fun ⟨k, d⟩ ⟨hk, hgo⟩ => ?_
  dsimp only at hk hgo
  dsimp only
  (repeat (first | refine RO.Sv ?_ | refine RO.Yv ?_ | refine RO.no rfl (by decide) rfl ?_ | refine RO.nil ?_ | refine DW.region ?_ | refine DW.seq ?_ | refine DW.block ?_ | refine DW.skip ?_ | refine DW.exit ?_ | refine DW.condT rfl ?_ | refine DW.condF rfl ?_))
  refine DW.cond rfl (fun hb => ?_) (fun hb => ?_)
  · have hlt : k < v.length := by have := of_decide_eq_true hb; omega
    have hlt2 : k < gs.length := by omega
    obtain ⟨hv1, hv2⟩ := hv _ (List.getElem_mem hlt)
    have hgk := hg _ (List.getElem_mem hlt2)
    rw [degGo_drop hlt2 hlt] at hgo
    clear hb
    (repeat (first | refine RO.Sv ?_ | refine RO.Yv ?_ | refine RO.no rfl (by decide) rfl ?_ | refine RO.nil ?_ | refine DW.region ?_ | refine DW.seq ?_ | refine DW.block ?_ | refine DW.skip ?_ | refine DW.exit ?_ | refine DW.condT rfl ?_ | refine DW.condF rfl ?_))
    refine DW.loopI (fun x : Nat × Int => x.1 ≤ v[k].length ∧ rowDeg gs[k] x.2 (v[k].drop x.1) = rowDeg gs[k] d v[k]) (fun x => [(0, intsD gs), (1, vcD v), (6, I x.2), (7, I k), (8, I x.1)]) (fun _ => H) (fun x => v[k].length - x.1) (0, d)
      ⟨Nat.zero_le _, rfl⟩ rfl ⟨rfl, rfl, rfl, rfl, rfl, trivial⟩ fun ⟨j, c⟩ ⟨hj, hrow⟩ => ?_
    dsimp only at hj hrow
    dsimp only
    (repeat (first | refine RO.Sv ?_ | refine RO.Yv ?_ | refine RO.no rfl (by decide) rfl ?_ | refine RO.nil ?_ | refine DW.region ?_ | refine DW.seq ?_ | refine DW.block ?_ | refine DW.skip ?_ | refine DW.exit ?_ | refine DW.condT rfl ?_ | refine DW.condF rfl ?_))
    refine DW.cond rfl (fun hb => ?_) (fun hb => ?_)
    · have hjl : j < v[k].length := by have := of_decide_eq_true hb; omega
      have hm := hv2 _ (List.getElem_mem hjl)
      have hs := hm.sum
      rw [rowDeg_drop hjl] at hrow
      clear hb
      (repeat (first | refine RO.Sv ?_ | refine RO.Yv ?_ | refine RO.no rfl (by decide) rfl ?_ | refine RO.nil ?_ | refine DW.region ?_ | refine DW.seq ?_ | refine DW.block ?_ | refine DW.skip ?_ | refine DW.exit ?_ | refine DW.condT rfl ?_ | refine DW.condF rfl ?_))
      refine DW.drawS 15 Tryz.mixed (by kernel_rfl) (by decide) ?_
      dsimp only [List.take, List.drop]
      (repeat (first | refine RS.Sv ?_ | refine RS.Yv ?_ | refine RS.no rfl (by decide) rfl ?_ | refine RS.nil ?_))
      refine RS.sta (fun H' hov => sta_call rfl rfl (DegreeOf_pure hm _)) rfl ?_
      (repeat (first | refine RS.Sv ?_ | refine RS.Yv ?_ | refine RS.no rfl (by decide) rfl ?_ | refine RS.nil ?_))
      (repeat (first | refine RO.Sv ?_ | refine RO.Yv ?_ | refine RO.no rfl (by decide) rfl ?_ | refine RO.nil ?_ | refine DW.region ?_ | refine DW.seq ?_ | refine DW.block ?_ | refine DW.skip ?_ | refine DW.exit ?_ | refine DW.condT rfl ?_ | refine DW.condF rfl ?_))
      have next : ¬ (0 ≤ c ∧ gs[k] + v[k][j].e.sum ≠ c) → rowDeg gs[k] (gs[k] + v[k][j].e.sum) (v[k].drop (j + 1)) = rowDeg gs[k] d v[k] := fun h => by rwa [if_neg h] at hrow
      cases h1 : decide (0 ≤ c)
      · (repeat (first | refine RO.Sv ?_ | refine RO.Yv ?_ | refine RO.no rfl (by decide) rfl ?_ | refine RO.nil ?_ | refine DW.region ?_ | refine DW.seq ?_ | refine DW.block ?_ | refine DW.skip ?_ | refine DW.exit ?_ | refine DW.condT rfl ?_ | refine DW.condF rfl ?_))
        exact ⟨(j + 1, gs[k] + v[k][j].e.sum), ⟨hjl, next (by simp at h1; omega)⟩, by dsimp only; omega, rfl, rfl, rfl, rfl, rfl, rfl, trivial⟩
      · (repeat (first | refine RO.Sv ?_ | refine RO.Yv ?_ | refine RO.no rfl (by decide) rfl ?_ | refine RO.nil ?_ | refine DW.region ?_ | refine DW.seq ?_ | refine DW.block ?_ | refine DW.skip ?_ | refine DW.exit ?_ | refine DW.condT rfl ?_ | refine DW.condF rfl ?_))
        cases h2 : (gs[k] + v[k][j].e.sum != c)
        · (repeat (first | refine RO.Sv ?_ | refine RO.Yv ?_ | refine RO.no rfl (by decide) rfl ?_ | refine RO.nil ?_ | refine DW.region ?_ | refine DW.seq ?_ | refine DW.block ?_ | refine DW.skip ?_ | refine DW.exit ?_ | refine DW.condT rfl ?_ | refine DW.condF rfl ?_))
          exact ⟨(j + 1, gs[k] + v[k][j].e.sum), ⟨hjl, next (by simp at h2; simp [h2])⟩, by dsimp only; omega, rfl, rfl, rfl, rfl, rfl, rfl, trivial⟩
        · rw [if_pos ⟨of_decide_eq_true h1, by simpa using h2⟩] at hrow
          rw [← hrow] at hgo
          have : sameT gs v = (0, 4) := by unfold sameT; rw [← hgo]; rfl
          rw [this]
          (repeat (first | refine RO.Sv ?_ | refine RO.Yv ?_ | refine RO.no rfl (by decide) rfl ?_ | refine RO.nil ?_ | refine DW.region ?_ | refine DW.seq ?_ | refine DW.block ?_ | refine DW.skip ?_ | refine DW.exit ?_ | refine DW.condT rfl ?_ | refine DW.condF rfl ?_))
          exact DW.ret ⟨.inl rfl, _, rfl, Over.refl _, .same _⟩
    · have hje : j = v[k].length := by have := of_decide_eq_false hb; omega
      rw [hje, List.drop_length] at hrow
      rw [← hrow] at hgo
      (repeat (first | refine RO.Sv ?_ | refine RO.Yv ?_ | refine RO.no rfl (by decide) rfl ?_ | refine RO.nil ?_ | refine DW.region ?_ | refine DW.seq ?_ | refine DW.block ?_ | refine DW.skip ?_ | refine DW.exit ?_ | refine DW.condT rfl ?_ | refine DW.condF rfl ?_))
      exact ⟨(k + 1, c), ⟨hlt, hgo⟩, by dsimp only; omega, rfl, rfl, rfl, rfl, rfl, trivial⟩
  · have hke : k = v.length := by have := of_decide_eq_false hb; omega
    rw [hke, List.drop_length, degGo_end] at hgo
    clear hb
    unfold sameT
    rw [← hgo]
    dsimp only
    (repeat (first | refine RO.Sv ?_ | refine RO.Yv ?_ | refine RO.no rfl (by decide) rfl ?_ | refine RO.nil ?_ | refine DW.region ?_ | refine DW.seq ?_ | refine DW.block ?_ | refine DW.skip ?_ | refine DW.exit ?_ | refine DW.condT rfl ?_ | refine DW.condF rfl ?_))
    refine DW.cond rfl (fun hb => ?_) (fun hb => ?_)
    · rw [if_pos (of_decide_eq_true hb)]
      (repeat (first | refine RO.Sv ?_ | refine RO.Yv ?_ | refine RO.no rfl (by decide) rfl ?_ | refine RO.nil ?_ | refine DW.region ?_ | refine DW.seq ?_ | refine DW.block ?_ | refine DW.skip ?_ | refine DW.exit ?_ | refine DW.condT rfl ?_ | refine DW.condF rfl ?_))
      exact DW.ret ⟨.inl rfl, _, rfl, Over.refl _, .same _⟩
    · rw [if_neg (of_decide_eq_false hb)]
      (repeat (first | refine RO.Sv ?_ | refine RO.Yv ?_ | refine RO.no rfl (by decide) rfl ?_ | refine RO.nil ?_ | refine DW.region ?_ | refine DW.seq ?_ | refine DW.block ?_ | refine DW.skip ?_ | refine DW.exit ?_ | refine DW.condT rfl ?_ | refine DW.condF rfl ?_))
      exact DW.ret ⟨.inl rfl, _, rfl, Over.refl _, .same _⟩

end Go.Proofs.YtfjmdhemlfafbaaGreat

namespace Go.Proofs.YtfjmdhemlfafbaaGreat
open Go.RowKit
set_option maxHeartbeats 4000000

def xyR : Rg := ⟨7, 2, 1, 1⟩

instance instRing1 : BuildT Tryz.prog 23 [I 0, I 0, I 0, I 0] #[(0, 1), (1, 1), (2, 1), (3, 1)] := .of (by kernel_rfl) Tryz.underlying23 (by kernel_rfl) rfl
instance instRing2 : SizeT Tryz.prog 23 4 := .of (by kernel_rfl)

theorem xy_pure : Pure Tryz.prog 28 [] (rgD xyR) := by
  intro H
  refine PureH.of_bodyCell (r := 0) (t := 23) (T0 := 23) (cells := [I 7, I 2, I 1, I 1]) Tryz.func28 rfl (by decide) (Nat.le_of_ble_eq_true rfl) rfl fun w0 => ?_
  (repeat (first | refine RO.S ?_ | refine RO.Y ?_ | refine RO.no rfl (by decide) rfl ?_ | refine RO.nil ?_ | refine DW.region ?_ | refine DW.seq ?_ | refine DW.block ?_ | refine DW.skip ?_ | refine DW.exit ?_ | refine DW.condT rfl ?_ | refine DW.condF rfl ?_))
  refine RO.dyn rfl (d_alloc fun b hb => ?_)
  (repeat (first | refine RO.S ?_ | refine RO.Y ?_ | refine RO.no rfl (by decide) rfl ?_ | refine RO.nil ?_ | refine DW.region ?_ | refine DW.seq ?_ | refine DW.block ?_ | refine DW.skip ?_ | refine DW.exit ?_ | refine DW.condT rfl ?_ | refine DW.condF rfl ?_))
  refine RO.sta (s_buildT (out := [I 7, I 2, I 1, I 1]) rfl rfl) rfl ?_
  refine RO.dyn rfl (d_store (k := 4) rfl rfl rfl (Heap.set_self _ _ _) (by decide) (by simp [cellsOf, D.isCell]) ?_)
  rw [Heap.set_set]
  (repeat (first | refine RO.S ?_ | refine RO.Y ?_ | refine RO.no rfl (by decide) rfl ?_ | refine RO.nil ?_ | refine DW.region ?_ | refine DW.seq ?_ | refine DW.block ?_ | refine DW.skip ?_ | refine DW.exit ?_ | refine DW.condT rfl ?_ | refine DW.condF rfl ?_))
  exact DW.ret ⟨.inl rfl, b, rfl, Heap.set_self _ _ _, (Over.refl _).set hb, hb⟩

end Go.Proofs.YtfjmdhemlfafbaaGreat

namespace Go.Proofs.YtfjmdhemlfafbaaGreat
open Go.RowKit
set_option maxHeartbeats 8000000

end Go.Proofs.YtfjmdhemlfafbaaGreat

namespace Go.Proofs.YtfjmdhemlfafbaaGreat
open Go.RowKit
set_option maxHeartbeats 8000000

theorem s_two {P : Program} {H : Heap} {e : Env} {dst : Option Tmp} {ty : TypeId} {pos : String} {af : Array Edge} {gd : Option (Nat × Bool)} {t E : TypeId} {x y : Operand} {a b : Int} {bytes : Nat} {zd : List D} [SliceT P t E] [ElT P E 1 zd bytes] (hx : e.ev x = some (I a)) (hy : e.ev y = some (I b)) :
    Sta P H e ⟨dst, .buildSlice t 2 #[(0, x), (1, y)], ty, pos, af, gd⟩ (intsD [a, b]) := by
  have hz : zd.length = 1 := (ElT.z (P := P) (E := E) (k := 1) (zd := zd) (bytes := bytes)).len
  obtain ⟨z, rfl⟩ : ∃ z, zd = [z] := by
    match zd, hz with
    | [z], _ => exact ⟨z, rfl⟩
  exact s_lit (P := P) (t := t) (E := E) (bytes := bytes) (zd := [z]) (pd := [(0, I a), (1, I b)]) (ds := [I a, I b]) (by decide) (by decide) (by simp [evParts, hx, hy]) rfl (fun d hd => by simp at hd; rcases hd with rfl | rfl <;> rfl) rfl

end Go.Proofs.YtfjmdhemlfafbaaGreat

namespace Go.Proofs.YtfjmdhemlfafbaaGreat
open Go.RowKit
set_option maxHeartbeats 8000000

def Cmp (v : Vc) : Prop := v.length ≤ 1000000 ∧ ∀ f ∈ v, f.length ≤ 4000000000000 ∧ ∀ t ∈ f, t.e.length ≤ 3

theorem Cmp.nil : Cmp [] := ⟨Nat.zero_le _, fun f h => (by cases h)⟩

theorem Cmp.done {v : Vc} (h : Cmp v) : Cmp (vdoneT v).1 := by
  unfold vdoneT
  split
  · exact .nil
  · exact h

end Go.Proofs.YtfjmdhemlfafbaaGreat

namespace Go.Proofs.YtfjmdhemlfafbaaGreat
open Go.RowKit
set_option maxHeartbeats 8000000

instance : SizeT Tryz.prog 66 4 := .of (by kernel_rfl)
instance : BuildT Tryz.prog 66 [.nil, I 0, I 0, .nil] #[(0, 1), (1, 1), (2, 2)] := .of (by kernel_rfl) Tryz.underlying66 (by kernel_rfl) rfl

def dvC (r : Rg) (v : Vc) : List D := [vcD v, I (atOf (topV r v)), I (tmOf (topV r v)).c, intsD (tmOf (topV r v)).e]
def dvD (r : Rg) (v : Vc) : D := .agg (dvC r v)
def dvsD (r : Rg) (l : List Vc) : D := .list 4 (l.map (dvD r))

theorem uni_dv (r : Rg) (l : List Vc) : Uni 4 (l.map (dvD r)) := by
  intro d hd
  obtain ⟨a, _, rfl⟩ := List.mem_map.1 hd
  exact ⟨rfl, fun x hx => by simp [dvD, dvC, cellsOf] at hx; rcases hx with rfl | rfl | rfl | rfl <;> rfl⟩

end Go.Proofs.YtfjmdhemlfafbaaGreat

namespace Go.Proofs.YtfjmdhemlfafbaaGreat
open Go.RowKit
set_option maxHeartbeats 8000000

theorem goesT_at {r : Rg} {l : List Vc} {a : Nat} {m : List Int} {k : Nat} (h : ∀ (j : Nat) (hj : j < l.length), j < k → goesIn r a m l[j] = false) (hk : k < l.length) (hg : goesIn r a m l[k] = true) : goesT r l a m = some k :=
  List.findIdx?_eq_some_iff_getElem.2 ⟨hk, hg, fun j hj => by rw [h j (by omega) hj]; simp⟩

theorem goesT_not {r : Rg} {l : List Vc} {a : Nat} {m : List Int} (h : ∀ (j : Nat) (hj : j < l.length), goesIn r a m l[j] = false) : goesT r l a m = none :=
  List.findIdx?_eq_none_iff.2 fun x hx => by
    obtain ⟨j, hj, rfl⟩ := List.getElem_of_mem hx
    exact h j hj

theorem no_succ {P : Nat → Prop} {k : Nat} (h : ∀ j, j < k → P j) (hk : P k) : ∀ j, j < k + 1 → P j := fun j hj => by
  by_cases he : j = k
  · rw [he]; exact hk
  · exact h j (by omega)

end Go.Proofs.YtfjmdhemlfafbaaGreat

namespace Go.Proofs.YtfjmdhemlfafbaaGreat
open Go.RowKit
set_option maxHeartbeats 8000000

abbrev tmCl (t : Tm) : List D := [I t.c, intsD t.e]

def tmsD (v : Vc) : List (List D) := v.map fun f => f.map tmD

theorem tmsD_vc (v : Vc) : D.list 1 ((tmsD v).map (D.list 2)) = vcD v := by
  unfold tmsD vcD
  rw [List.map_map]
  rfl

theorem leftOne_pureH {H : Heap} (b at_ k : Nat) (f : Pl) (hH : H b = some (3, [I at_])) (hf : k = at_ → 0 < f.length) : PureH Tryz.prog H 100 [I k, plD f, .ptr b 0] (plD (if k = at_ then f.tail else f)) := by
  refine PureH.of_body Tryz.func100 rfl (by decide) (Nat.le_of_ble_eq_true rfl) fun w0 => ?_
  (repeat (first | refine RO.Sv ?_ | refine RO.Yv ?_ | refine RO.no rfl (by decide) rfl ?_ | refine RO.nil ?_ | refine DW.region ?_ | refine DW.seq ?_ | refine DW.block ?_ | refine DW.skip ?_ | refine DW.exit ?_ | refine DW.condT rfl ?_ | refine DW.condF rfl ?_))
  refine RO.sta (s_loadMut rfl hH rfl) rfl ?_
  (repeat (first | refine RO.Sv ?_ | refine RO.Yv ?_ | refine RO.no rfl (by decide) rfl ?_ | refine RO.nil ?_ | refine DW.region ?_ | refine DW.seq ?_ | refine DW.block ?_ | refine DW.skip ?_ | refine DW.exit ?_ | refine DW.condT rfl ?_ | refine DW.condF rfl ?_))
  by_cases hk : k = at_
  · have hl := hf hk
    rw [if_pos hk, show ((k : Int) == (at_ : Int)) = true by simp; omega]
    (repeat (first | refine RO.Sv ?_ | refine RO.Yv ?_ | refine RO.no rfl (by decide) rfl ?_ | refine RO.nil ?_ | refine DW.region ?_ | refine DW.seq ?_ | refine DW.block ?_ | refine DW.skip ?_ | refine DW.exit ?_ | refine DW.condT rfl ?_ | refine DW.condF rfl ?_))
    refine RO.sta (s_fromM rfl rfl (by omega) (by show (1 : Nat) ≤ f.length; omega)) rfl ?_
    (repeat (first | refine RO.Sv ?_ | refine RO.Yv ?_ | refine RO.no rfl (by decide) rfl ?_ | refine RO.nil ?_ | refine DW.region ?_ | refine DW.seq ?_ | refine DW.block ?_ | refine DW.skip ?_ | refine DW.exit ?_ | refine DW.condT rfl ?_ | refine DW.condF rfl ?_))
    rw [show f.tail = f.drop (Int.toNat 1) by simp]
    exact DW.ret ⟨.inl rfl, _, rfl, Over.refl _, .same _⟩
  · rw [if_neg hk, show ((k : Int) == (at_ : Int)) = false by simp; omega]
    (repeat (first | refine RO.Sv ?_ | refine RO.Yv ?_ | refine RO.no rfl (by decide) rfl ?_ | refine RO.nil ?_ | refine DW.region ?_ | refine DW.seq ?_ | refine DW.block ?_ | refine DW.skip ?_ | refine DW.exit ?_ | refine DW.condT rfl ?_ | refine DW.condF rfl ?_))
    exact DW.ret ⟨.inl rfl, _, rfl, Over.refl _, .same _⟩

theorem cellAt_dv {r : Rg} {l : List Vc} {i j : Nat} (h : i < l.length) : cellAt (l.map (dvD r)) i j = (dvC r l[i])[j]? := by
  unfold cellAt
  rw [List.getElem?_map, List.getElem?_eq_getElem h]
  rfl

theorem VB.by {r : Rg} {n : Nat} {B C : Int} {L : Nat} {v : Vc} {t : Tm} (hp : 1 < r.p) (hpr : Prm r.p) (hv : VB r n B L v) (ht : TB 0 r.p n C t) : VB r n (B + C) L (vbyT r v t) := fun f hf => by
  unfold vbyT at hf
  obtain ⟨g, hg, rfl⟩ := List.mem_map.1 hf
  obtain ⟨g1, g2⟩ := hv g hg
  exact ⟨byT_ok hp hpr g1 ht, Nat.le_trans (byT_length _ _ _) g2⟩

theorem Over.other {H : Heap} {b : Nat} {x : TypeId × List D} (hb : H b = Option.none) : Over H (H.set b x) := (Over.refl H).set hb

end Go.Proofs.YtfjmdhemlfafbaaGreat

namespace Go.Proofs.YtfjmdhemlfafbaaGreat
open Go.RowKit
set_option maxHeartbeats 8000000

end Go.Proofs.YtfjmdhemlfafbaaGreat
