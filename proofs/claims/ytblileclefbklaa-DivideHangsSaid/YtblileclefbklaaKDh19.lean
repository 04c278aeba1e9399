/-
  VectorOps: facts on what Add and Scale answer. No condition.
-/
import Derived.Test.YtblileclefbklaaKDh18
import Derived.Test.YtblileclefbklaaKDh10
import Derived.Test.YtblileclefbklaaKDh5
import Derived.Test.YtblileclefbklaaKDh7
import Derived.Test.YtblileclefbklaaKDh16

namespace Go.Proofs.Ytblileclefbklaa
open Go.RowKit
set_option linter.unusedVariables false
set_option linter.unusedSimpArgs false
set_option maxHeartbeats 8000000

def rowDeg (g : Int) : Int → Pl → Option Int
  | d, [] => some d
  | d, t :: f => if 0 ≤ d ∧ g + t.e.sum ≠ d then none else rowDeg g (g + t.e.sum) f

def degGo : List Int → Int → Vc → Option Int
  | g :: gs, d, f :: v => (rowDeg g d f).bind fun d => degGo gs d v
  | _, d, _ => some d

/-- One degree of all terms? -/
def sameT (gs : List Int) (v : Vc) : Int × Int := match degGo gs (-1) v with
  | none => (0, 4)
  | some d => if d < 0 then (0, 5) else (d, 0)

def badDeg (d : Int) : Bool := decide (d < 0) || decide (200 < d)

/-- What Degree answers. -/
def degT (r : Rg) (gs : List Int) (v : Vc) : Int × Int := if alikeCk r [v] ≠ 0 then (0, alikeCk r [v]) else if gs.length ≠ v.length then (0, 1) else if gs.any badDeg = true then (0, 3) else sameT gs v

theorem degGo_drop {gs : List Int} {v : Vc} {d : Int} {k : Nat} (h1 : k < gs.length) (h2 : k < v.length) : degGo (gs.drop k) d (v.drop k) = (rowDeg gs[k] d v[k]).bind fun d => degGo (gs.drop (k + 1)) d (v.drop (k + 1)) := by
  rw [List.drop_eq_getElem_cons h1, List.drop_eq_getElem_cons h2]
  rfl

theorem rowDeg_drop {g d : Int} {f : Pl} {j : Nat} (h : j < f.length) : rowDeg g d (f.drop j) = if 0 ≤ d ∧ g + f[j].e.sum ≠ d then none else rowDeg g (g + f[j].e.sum) (f.drop (j + 1)) := by
  rw [List.drop_eq_getElem_cons h]
  rfl

theorem degGo_end {gs : List Int} {d : Int} : degGo gs d [] = some d := by cases gs <;> rfl

theorem vSame_pure (gs : List Int) (v : Vc) (hl : v.length ≤ 1000000) (hlen : gs.length = v.length) (hg : ∀ g ∈ gs, -1000000 ≤ g ∧ g ≤ 1000000) (hv : ∀ f ∈ v, f.length ≤ 4000000000000 ∧ ∀ t ∈ f, MOk t.e) : Pure Try.prog 69 [intsD gs, vcD v] (pairD (sameT gs v)) := by
  intro H
  refine PureH.of_body Try.func69 rfl (by decide) (Nat.le_of_ble_eq_true rfl) fun w0 => ?_
  (repeat (first | refine RO.Sv ?_ | refine RO.Yv ?_ | refine RO.no rfl (by decide) rfl ?_ | refine RO.nil ?_ | refine DW.region ?_ | refine DW.seq ?_ | refine DW.block ?_ | refine DW.skip ?_ | refine DW.exit ?_ | refine DW.condT rfl ?_ | refine DW.condF rfl ?_))
  refine DW.loopG (fun x : Nat × Int => x.1 ≤ v.length ∧ degGo (gs.drop x.1) x.2 (v.drop x.1) = degGo gs (-1) v) (fun x => [(0, intsD gs), (6, I x.2), (12, vcD v), (13, I v.length), (14, I x.1)]) (fun _ => H) (fun x => v.length - x.1) (0, -1)
    ⟨Nat.zero_le _, rfl⟩ (Heap.sub_refl _) (.one rfl (.one rfl (.one rfl (.one rfl (.one rfl trivial))))) fun ⟨k, d⟩ ⟨hk, hgo⟩ => ?_
  dsimp only at hk hgo
  dsimp only
  (repeat (first | refine RO.Sv ?_ | refine RO.Yv ?_ | refine RO.no rfl (by decide) rfl ?_ | refine RO.nil ?_ | refine DW.region ?_ | refine DW.seq ?_ | refine DW.block ?_ | refine DW.skip ?_ | refine DW.exit ?_ | refine DW.condT rfl ?_ | refine DW.condF rfl ?_))
  refine DW.cond rfl (fun hb => ?_) (fun hb => ?_)
  · have hlt : k < v.length := by have := of_decide_eq_true hb; omega
    have hlt2 : k < gs.length := by omega
    obtain ⟨hv1, hv2⟩ := hv _ (List.getElem_mem hlt)
    have hgk := hg _ (List.getElem_mem hlt2)
    rw [degGo_drop hlt2 hlt] at hgo
    clear hb
    (repeat (first | refine RO.Sv ?_ | refine RO.Yv ?_ | refine RO.no rfl (by decide) rfl ?_ | refine RO.nil ?_ | refine DW.region ?_ | refine DW.seq ?_ | refine DW.block ?_ | refine DW.skip ?_ | refine DW.exit ?_ | refine DW.condT rfl ?_ | refine DW.condF rfl ?_))
    refine DW.loopG (fun x : Nat × Int => x.1 ≤ v[k].length ∧ rowDeg gs[k] x.2 (v[k].drop x.1) = rowDeg gs[k] d v[k]) (fun x => [(0, intsD gs), (6, I x.2), (7, I k), (12, vcD v), (13, I v.length), (14, I k), (19, plD v[k]), (20, I v[k].length), (21, I x.1)]) (fun _ => H) (fun x => v[k].length - x.1) (0, d)
      ⟨Nat.zero_le _, rfl⟩ (Heap.sub_refl _) (.one rfl (.one rfl (.one rfl (.one rfl (.one rfl (.one rfl (.one rfl (.one rfl (.one rfl trivial))))))))) fun ⟨j, c⟩ ⟨hj, hrow⟩ => ?_
    dsimp only at hj hrow
    dsimp only
    (repeat (first | refine RO.Sv ?_ | refine RO.Yv ?_ | refine RO.no rfl (by decide) rfl ?_ | refine RO.nil ?_ | refine DW.region ?_ | refine DW.seq ?_ | refine DW.block ?_ | refine DW.skip ?_ | refine DW.exit ?_ | refine DW.condT rfl ?_ | refine DW.condF rfl ?_))
    refine DW.cond rfl (fun hb => ?_) (fun hb => ?_)
    · have hjl : j < v[k].length := by have := of_decide_eq_true hb; omega
      have hm := hv2 _ (List.getElem_mem hjl)
      have hs := hm.sum
      rw [rowDeg_drop hjl] at hrow
      clear hb
      (repeat (first | refine RO.Sv ?_ | refine RO.Yv ?_ | refine RO.no rfl (by decide) rfl ?_ | refine RO.nil ?_ | refine DW.region ?_ | refine DW.seq ?_ | refine DW.block ?_ | refine DW.skip ?_ | refine DW.exit ?_ | refine DW.condT rfl ?_ | refine DW.condF rfl ?_))
      (refine RO.dyn rfl (d_alloc fun bv hbv => ?_); (repeat (first | refine RO.Sv ?_ | refine RO.Yv ?_ | refine RO.no rfl (by decide) rfl ?_)); refine RO.dyn rfl (d_storeTm rfl rfl (Heap.set_self _ _ _) rfl ?_); rw [Heap.set_set])
      (repeat (first | refine RO.Sv ?_ | refine RO.Yv ?_ | refine RO.no rfl (by decide) rfl ?_ | refine RO.nil ?_ | refine DW.region ?_ | refine DW.seq ?_ | refine DW.block ?_ | refine DW.skip ?_ | refine DW.exit ?_ | refine DW.condT rfl ?_ | refine DW.condF rfl ?_))
      refine DW.drawS 9 Try.mixed (by kernel_rfl) (by decide) ?_
      dsimp only [List.take, List.drop]
      (repeat (first | refine RS.Sv ?_ | refine RS.Yv ?_ | refine RS.no rfl (by decide) rfl ?_ | refine RS.nil ?_))
      refine RS.sta (fun H' hov => sta_call rfl rfl (Degree_pure hm _)) rfl ?_
      (repeat (first | refine RS.Sv ?_ | refine RS.Yv ?_ | refine RS.no rfl (by decide) rfl ?_ | refine RS.nil ?_))
      (repeat (first | refine RO.Sv ?_ | refine RO.Yv ?_ | refine RO.no rfl (by decide) rfl ?_ | refine RO.nil ?_ | refine DW.region ?_ | refine DW.seq ?_ | refine DW.block ?_ | refine DW.skip ?_ | refine DW.exit ?_ | refine DW.condT rfl ?_ | refine DW.condF rfl ?_))
      have next : ¬ (0 ≤ c ∧ gs[k] + v[k][j].e.sum ≠ c) → rowDeg gs[k] (gs[k] + v[k][j].e.sum) (v[k].drop (j + 1)) = rowDeg gs[k] d v[k] := fun h => by rwa [if_neg h] at hrow
      cases h1 : decide (0 ≤ c)
      · (repeat (first | refine RO.Sv ?_ | refine RO.Yv ?_ | refine RO.no rfl (by decide) rfl ?_ | refine RO.nil ?_ | refine DW.region ?_ | refine DW.seq ?_ | refine DW.block ?_ | refine DW.skip ?_ | refine DW.exit ?_ | refine DW.condT rfl ?_ | refine DW.condF rfl ?_))
        exact ⟨(j + 1, gs[k] + v[k][j].e.sum), ⟨hjl, next (by simp at h1; omega)⟩, by dsimp only; omega, Heap.sub_set _ hbv, (.one rfl (.one rfl (.one rfl (.one rfl (.one rfl (.one rfl (.one rfl (.one rfl (.one rfl trivial)))))))))⟩
      · (repeat (first | refine RO.Sv ?_ | refine RO.Yv ?_ | refine RO.no rfl (by decide) rfl ?_ | refine RO.nil ?_ | refine DW.region ?_ | refine DW.seq ?_ | refine DW.block ?_ | refine DW.skip ?_ | refine DW.exit ?_ | refine DW.condT rfl ?_ | refine DW.condF rfl ?_))
        cases h2 : (gs[k] + v[k][j].e.sum != c)
        · (repeat (first | refine RO.Sv ?_ | refine RO.Yv ?_ | refine RO.no rfl (by decide) rfl ?_ | refine RO.nil ?_ | refine DW.region ?_ | refine DW.seq ?_ | refine DW.block ?_ | refine DW.skip ?_ | refine DW.exit ?_ | refine DW.condT rfl ?_ | refine DW.condF rfl ?_))
          exact ⟨(j + 1, gs[k] + v[k][j].e.sum), ⟨hjl, next (by simp at h2; simp [h2])⟩, by dsimp only; omega, Heap.sub_set _ hbv, (.one rfl (.one rfl (.one rfl (.one rfl (.one rfl (.one rfl (.one rfl (.one rfl (.one rfl trivial)))))))))⟩
        · rw [if_pos ⟨of_decide_eq_true h1, by simpa using h2⟩] at hrow
          rw [← hrow] at hgo
          have : sameT gs v = (0, 4) := by unfold sameT; rw [← hgo]; rfl
          rw [this]
          (repeat (first | refine RO.Sv ?_ | refine RO.Yv ?_ | refine RO.no rfl (by decide) rfl ?_ | refine RO.nil ?_ | refine DW.region ?_ | refine DW.seq ?_ | refine DW.block ?_ | refine DW.skip ?_ | refine DW.exit ?_ | refine DW.condT rfl ?_ | refine DW.condF rfl ?_))
          exact DW.ret ⟨.inl rfl, _, rfl, (Over.refl _).set hbv, .same _⟩
    · have hje : j = v[k].length := by have := of_decide_eq_false hb; omega
      rw [hje, List.drop_length] at hrow
      rw [← hrow] at hgo
      (repeat (first | refine RO.Sv ?_ | refine RO.Yv ?_ | refine RO.no rfl (by decide) rfl ?_ | refine RO.nil ?_ | refine DW.region ?_ | refine DW.seq ?_ | refine DW.block ?_ | refine DW.skip ?_ | refine DW.exit ?_ | refine DW.condT rfl ?_ | refine DW.condF rfl ?_))
      exact ⟨(k + 1, c), ⟨hlt, hgo⟩, by dsimp only; omega, Heap.sub_refl _, (.one rfl (.one rfl (.one rfl (.one rfl (.one rfl trivial)))))⟩
  · have hke : k = v.length := by have := of_decide_eq_false hb; omega
    rw [hke, List.drop_length, degGo_end] at hgo
    clear hb
    unfold sameT
    rw [← hgo]
    dsimp only
    (repeat (first | refine RO.Sv ?_ | refine RO.Yv ?_ | refine RO.no rfl (by decide) rfl ?_ | refine RO.nil ?_ | refine DW.region ?_ | refine DW.seq ?_ | refine DW.block ?_ | refine DW.skip ?_ | refine DW.exit ?_ | refine DW.condT rfl ?_ | refine DW.condF rfl ?_))
    refine DW.cond rfl (fun hb => ?_) (fun hb => ?_)
    · rw [if_pos (of_decide_eq_true hb)]
      (repeat (first | refine RO.Sv ?_ | refine RO.Yv ?_ | refine RO.no rfl (by decide) rfl ?_ | refine RO.nil ?_ | refine DW.region ?_ | refine DW.seq ?_ | refine DW.block ?_ | refine DW.skip ?_ | refine DW.exit ?_ | refine DW.condT rfl ?_ | refine DW.condF rfl ?_))
      exact DW.ret ⟨.inl rfl, _, rfl, Over.refl _, .same _⟩
    · rw [if_neg (of_decide_eq_false hb)]
      (repeat (first | refine RO.Sv ?_ | refine RO.Yv ?_ | refine RO.no rfl (by decide) rfl ?_ | refine RO.nil ?_ | refine DW.region ?_ | refine DW.seq ?_ | refine DW.block ?_ | refine DW.skip ?_ | refine DW.exit ?_ | refine DW.condT rfl ?_ | refine DW.condF rfl ?_))
      exact DW.ret ⟨.inl rfl, _, rfl, Over.refl _, .same _⟩

theorem VDegree_pure (gs : List Int) (v : Vc) (hl : v.length ≤ 1000000) (hlen : gs.length = v.length) (hg : ∀ g ∈ gs, -1000000 ≤ g ∧ g ≤ 1000000) (hv : ∀ f ∈ v, f.length ≤ 4000000000000 ∧ ∀ t ∈ f, MOk t.e) : Pure Try.prog 32 [intsD gs, vcD v] (pairD (sameT gs v)) := by
  intro H
  refine PureH.of_body Try.func32 rfl (by decide) (Nat.le_of_ble_eq_true rfl) fun w0 => ?_
  (repeat (first | refine RO.Sv ?_ | refine RO.Yv ?_ | refine RO.no rfl (by decide) rfl ?_ | refine RO.nil ?_ | refine DW.region ?_ | refine DW.seq ?_ | refine DW.block ?_ | refine DW.skip ?_ | refine DW.exit ?_ | refine DW.condT rfl ?_ | refine DW.condF rfl ?_))
  refine DW.loopI (fun x : Nat × Int => x.1 ≤ v.length ∧ degGo (gs.drop x.1) x.2 (v.drop x.1) = degGo gs (-1) v) (fun x => [(0, intsD gs), (1, vcD v), (6, I x.2), (7, I x.1)]) (fun _ => H) (fun x => v.length - x.1) (0, -1)
    ⟨Nat.zero_le _, rfl⟩ rfl ⟨rfl, rfl, rfl, rfl, trivial⟩ fun ⟨k, d⟩ ⟨hk, hgo⟩ => ?_
  dsimp only at hk hgo
  dsimp only
  (repeat (first | refine RO.Sv ?_ | refine RO.Yv ?_ | refine RO.no rfl (by decide) rfl ?_ | refine RO.nil ?_ | refine DW.region ?_ | refine DW.seq ?_ | refine DW.block ?_ | refine DW.skip ?_ | refine DW.exit ?_ | refine DW.condT rfl ?_ | refine DW.condF rfl ?_))
  refine DW.cond rfl (fun hb => ?_) (fun hb => ?_)
  · have hlt : k < v.length := by have := of_decide_eq_true hb; omega
    have hlt2 : k < gs.length := by omega
    obtain ⟨hv1, hv2⟩ := hv _ (List.getElem_mem hlt)
    have hgk := hg _ (List.getElem_mem hlt2)
    rw [degGo_drop hlt2 hlt] at hgo
    clear hb
    (repeat (first | refine RO.Sv ?_ | refine RO.Yv ?_ | refine RO.no rfl (by decide) rfl ?_ | refine RO.nil ?_ | refine DW.region ?_ | refine DW.seq ?_ | refine DW.block ?_ | refine DW.skip ?_ | refine DW.exit ?_ | refine DW.condT rfl ?_ | refine DW.condF rfl ?_))
    refine DW.loopI (fun x : Nat × Int => x.1 ≤ v[k].length ∧ rowDeg gs[k] x.2 (v[k].drop x.1) = rowDeg gs[k] d v[k]) (fun x => [(0, intsD gs), (1, vcD v), (6, I x.2), (7, I k), (8, I x.1)]) (fun _ => H) (fun x => v[k].length - x.1) (0, d)
      ⟨Nat.zero_le _, rfl⟩ rfl ⟨rfl, rfl, rfl, rfl, rfl, trivial⟩ fun ⟨j, c⟩ ⟨hj, hrow⟩ => ?_
    dsimp only at hj hrow
    dsimp only
    (repeat (first | refine RO.Sv ?_ | refine RO.Yv ?_ | refine RO.no rfl (by decide) rfl ?_ | refine RO.nil ?_ | refine DW.region ?_ | refine DW.seq ?_ | refine DW.block ?_ | refine DW.skip ?_ | refine DW.exit ?_ | refine DW.condT rfl ?_ | refine DW.condF rfl ?_))
    refine DW.cond rfl (fun hb => ?_) (fun hb => ?_)
    · have hjl : j < v[k].length := by have := of_decide_eq_true hb; omega
      have hm := hv2 _ (List.getElem_mem hjl)
      have hs := hm.sum
      rw [rowDeg_drop hjl] at hrow
      clear hb
      (repeat (first | refine RO.Sv ?_ | refine RO.Yv ?_ | refine RO.no rfl (by decide) rfl ?_ | refine RO.nil ?_ | refine DW.region ?_ | refine DW.seq ?_ | refine DW.block ?_ | refine DW.skip ?_ | refine DW.exit ?_ | refine DW.condT rfl ?_ | refine DW.condF rfl ?_))
      refine DW.drawS 15 Try.mixed (by kernel_rfl) (by decide) ?_
      dsimp only [List.take, List.drop]
      (repeat (first | refine RS.Sv ?_ | refine RS.Yv ?_ | refine RS.no rfl (by decide) rfl ?_ | refine RS.nil ?_))
      refine RS.sta (fun H' hov => sta_call rfl rfl (DegreeOf_pure hm _)) rfl ?_
      (repeat (first | refine RS.Sv ?_ | refine RS.Yv ?_ | refine RS.no rfl (by decide) rfl ?_ | refine RS.nil ?_))
      (repeat (first | refine RO.Sv ?_ | refine RO.Yv ?_ | refine RO.no rfl (by decide) rfl ?_ | refine RO.nil ?_ | refine DW.region ?_ | refine DW.seq ?_ | refine DW.block ?_ | refine DW.skip ?_ | refine DW.exit ?_ | refine DW.condT rfl ?_ | refine DW.condF rfl ?_))
      have next : ¬ (0 ≤ c ∧ gs[k] + v[k][j].e.sum ≠ c) → rowDeg gs[k] (gs[k] + v[k][j].e.sum) (v[k].drop (j + 1)) = rowDeg gs[k] d v[k] := fun h => by rwa [if_neg h] at hrow
      cases h1 : decide (0 ≤ c)
      · (repeat (first | refine RO.Sv ?_ | refine RO.Yv ?_ | refine RO.no rfl (by decide) rfl ?_ | refine RO.nil ?_ | refine DW.region ?_ | refine DW.seq ?_ | refine DW.block ?_ | refine DW.skip ?_ | refine DW.exit ?_ | refine DW.condT rfl ?_ | refine DW.condF rfl ?_))
        exact ⟨(j + 1, gs[k] + v[k][j].e.sum), ⟨hjl, next (by simp at h1; omega)⟩, by dsimp only; omega, rfl, rfl, rfl, rfl, rfl, rfl, trivial⟩
      · (repeat (first | refine RO.Sv ?_ | refine RO.Yv ?_ | refine RO.no rfl (by decide) rfl ?_ | refine RO.nil ?_ | refine DW.region ?_ | refine DW.seq ?_ | refine DW.block ?_ | refine DW.skip ?_ | refine DW.exit ?_ | refine DW.condT rfl ?_ | refine DW.condF rfl ?_))
        cases h2 : (gs[k] + v[k][j].e.sum != c)
        · (repeat (first | refine RO.Sv ?_ | refine RO.Yv ?_ | refine RO.no rfl (by decide) rfl ?_ | refine RO.nil ?_ | refine DW.region ?_ | refine DW.seq ?_ | refine DW.block ?_ | refine DW.skip ?_ | refine DW.exit ?_ | refine DW.condT rfl ?_ | refine DW.condF rfl ?_))
          exact ⟨(j + 1, gs[k] + v[k][j].e.sum), ⟨hjl, next (by simp at h2; simp [h2])⟩, by dsimp only; omega, rfl, rfl, rfl, rfl, rfl, rfl, trivial⟩
        · rw [if_pos ⟨of_decide_eq_true h1, by simpa using h2⟩] at hrow
          rw [← hrow] at hgo
          have : sameT gs v = (0, 4) := by unfold sameT; rw [← hgo]; rfl
          rw [this]
          (repeat (first | refine RO.Sv ?_ | refine RO.Yv ?_ | refine RO.no rfl (by decide) rfl ?_ | refine RO.nil ?_ | refine DW.region ?_ | refine DW.seq ?_ | refine DW.block ?_ | refine DW.skip ?_ | refine DW.exit ?_ | refine DW.condT rfl ?_ | refine DW.condF rfl ?_))
          exact DW.ret ⟨.inl rfl, _, rfl, Over.refl _, .same _⟩
    · have hje : j = v[k].length := by have := of_decide_eq_false hb; omega
      rw [hje, List.drop_length] at hrow
      rw [← hrow] at hgo
      (repeat (first | refine RO.Sv ?_ | refine RO.Yv ?_ | refine RO.no rfl (by decide) rfl ?_ | refine RO.nil ?_ | refine DW.region ?_ | refine DW.seq ?_ | refine DW.block ?_ | refine DW.skip ?_ | refine DW.exit ?_ | refine DW.condT rfl ?_ | refine DW.condF rfl ?_))
      exact ⟨(k + 1, c), ⟨hlt, hgo⟩, by dsimp only; omega, rfl, rfl, rfl, rfl, rfl, trivial⟩
  · have hke : k = v.length := by have := of_decide_eq_false hb; omega
    rw [hke, List.drop_length, degGo_end] at hgo
    clear hb
    unfold sameT
    rw [← hgo]
    dsimp only
    (repeat (first | refine RO.Sv ?_ | refine RO.Yv ?_ | refine RO.no rfl (by decide) rfl ?_ | refine RO.nil ?_ | refine DW.region ?_ | refine DW.seq ?_ | refine DW.block ?_ | refine DW.skip ?_ | refine DW.exit ?_ | refine DW.condT rfl ?_ | refine DW.condF rfl ?_))
    refine DW.cond rfl (fun hb => ?_) (fun hb => ?_)
    · rw [if_pos (of_decide_eq_true hb)]
      (repeat (first | refine RO.Sv ?_ | refine RO.Yv ?_ | refine RO.no rfl (by decide) rfl ?_ | refine RO.nil ?_ | refine DW.region ?_ | refine DW.seq ?_ | refine DW.block ?_ | refine DW.skip ?_ | refine DW.exit ?_ | refine DW.condT rfl ?_ | refine DW.condF rfl ?_))
      exact DW.ret ⟨.inl rfl, _, rfl, Over.refl _, .same _⟩
    · rw [if_neg (of_decide_eq_false hb)]
      (repeat (first | refine RO.Sv ?_ | refine RO.Yv ?_ | refine RO.no rfl (by decide) rfl ?_ | refine RO.nil ?_ | refine DW.region ?_ | refine DW.seq ?_ | refine DW.block ?_ | refine DW.skip ?_ | refine DW.exit ?_ | refine DW.condT rfl ?_ | refine DW.condF rfl ?_))
      exact DW.ret ⟨.inl rfl, _, rfl, Over.refl _, .same _⟩

theorem vDegree_pure (r : Rg) (gs : List Int) (v : Vc) (hgl : gs.length ≤ 4611686018427387904) (hl : v.length ≤ 4611686018427387904 ∧ ∀ f ∈ v, f.length ≤ 4611686018427387904) : Pure Try.prog 31 [rgD r, intsD gs, vcD v] (pairD (degT r gs v)) := by
  intro H
  refine PureH.of_body Try.func31 rfl (by decide) (Nat.le_of_ble_eq_true rfl) fun w0 => ?_
  (repeat (first | refine RO.Sv ?_ | refine RO.Yv ?_ | refine RO.no rfl (by decide) rfl ?_ | refine RO.nil ?_ | refine DW.region ?_ | refine DW.seq ?_ | refine DW.block ?_ | refine DW.skip ?_ | refine DW.exit ?_ | refine DW.condT rfl ?_ | refine DW.condF rfl ?_))
  refine RO.sta (sta_call rfl rfl (alike_pure r [v] (by simp) (two_le (l := []) hl) _)) rfl ?_
  (repeat (first | refine RO.Sv ?_ | refine RO.Yv ?_ | refine RO.no rfl (by decide) rfl ?_ | refine RO.nil ?_ | refine DW.region ?_ | refine DW.seq ?_ | refine DW.block ?_ | refine DW.skip ?_ | refine DW.exit ?_ | refine DW.condT rfl ?_ | refine DW.condF rfl ?_))
  unfold degT
  by_cases hck : alikeCk r [v] = 0
  case neg =>
    rw [if_pos (by simpa using hck), show (alikeCk r [v] != 0) = true by simpa using hck]
    (repeat (first | refine RO.Sv ?_ | refine RO.Yv ?_ | refine RO.no rfl (by decide) rfl ?_ | refine RO.nil ?_ | refine DW.region ?_ | refine DW.seq ?_ | refine DW.block ?_ | refine DW.skip ?_ | refine DW.exit ?_ | refine DW.condT rfl ?_ | refine DW.condF rfl ?_))
    exact DW.ret ⟨.inl rfl, _, rfl, Over.refl _, .same _⟩
  obtain ⟨hr, hal⟩ := alikeCk_ok hck
  obtain ⟨hv1, hv2, hv3⟩ := hal v (by simp)
  have hr2 := ringCk_ok hr
  have hvb := hv3.vb
  rw [if_neg (by simpa using hck), show (alikeCk r [v] != 0) = false by simpa using hck]
  (repeat (first | refine RO.Sv ?_ | refine RO.Yv ?_ | refine RO.no rfl (by decide) rfl ?_ | refine RO.nil ?_ | refine DW.region ?_ | refine DW.seq ?_ | refine DW.block ?_ | refine DW.skip ?_ | refine DW.exit ?_ | refine DW.condT rfl ?_ | refine DW.condF rfl ?_))
  cases hle : ((gs.length : Int) != (v.length : Int))
  case true =>
    rw [if_pos (by simp at hle; omega)]
    (repeat (first | refine RO.Sv ?_ | refine RO.Yv ?_ | refine RO.no rfl (by decide) rfl ?_ | refine RO.nil ?_ | refine DW.region ?_ | refine DW.seq ?_ | refine DW.block ?_ | refine DW.skip ?_ | refine DW.exit ?_ | refine DW.condT rfl ?_ | refine DW.condF rfl ?_))
    exact DW.ret ⟨.inl rfl, _, rfl, Over.refl _, .same _⟩
  have hlen : gs.length = v.length := by simp at hle; omega
  rw [if_neg (by simpa using hlen)]
  (repeat (first | refine RO.Sv ?_ | refine RO.Yv ?_ | refine RO.no rfl (by decide) rfl ?_ | refine RO.nil ?_ | refine DW.region ?_ | refine DW.seq ?_ | refine DW.block ?_ | refine DW.skip ?_ | refine DW.exit ?_ | refine DW.condT rfl ?_ | refine DW.condF rfl ?_))
  refine DW.loopI (fun k : Nat => k ≤ gs.length ∧ (gs.drop k).any badDeg = gs.any badDeg) (fun k => [(1, intsD gs), (2, vcD v), (23, intsD gs), (24, I gs.length), (25, I k)]) (fun _ => H) (fun k => gs.length - k) 0 ⟨Nat.zero_le _, rfl⟩ rfl ⟨rfl, rfl, rfl, rfl, rfl, trivial⟩ fun k ⟨hk, hg⟩ => ?_
  (repeat (first | refine RO.Sv ?_ | refine RO.Yv ?_ | refine RO.no rfl (by decide) rfl ?_ | refine RO.nil ?_ | refine DW.region ?_ | refine DW.seq ?_ | refine DW.block ?_ | refine DW.skip ?_ | refine DW.exit ?_ | refine DW.condT rfl ?_ | refine DW.condF rfl ?_))
  refine DW.cond rfl (fun hb => ?_) (fun hb => ?_)
  · have hlt : k < gs.length := by have := of_decide_eq_true hb; omega
    rw [any_drop hlt] at hg
    clear hb
    (repeat (first | refine RO.Sv ?_ | refine RO.Yv ?_ | refine RO.no rfl (by decide) rfl ?_ | refine RO.nil ?_ | refine DW.region ?_ | refine DW.seq ?_ | refine DW.block ?_ | refine DW.skip ?_ | refine DW.exit ?_ | refine DW.condT rfl ?_ | refine DW.condF rfl ?_))
    cases h1 : decide (gs[k] < 0)
    case true =>
      rw [show badDeg gs[k] = true by unfold badDeg; rw [h1]; rfl, Bool.true_or] at hg
      rw [if_pos hg.symm]
      (repeat (first | refine RO.Sv ?_ | refine RO.Yv ?_ | refine RO.no rfl (by decide) rfl ?_ | refine RO.nil ?_ | refine DW.region ?_ | refine DW.seq ?_ | refine DW.block ?_ | refine DW.skip ?_ | refine DW.exit ?_ | refine DW.condT rfl ?_ | refine DW.condF rfl ?_))
      exact DW.ret ⟨.inl rfl, _, rfl, Over.refl _, .same _⟩
    (repeat (first | refine RO.Sv ?_ | refine RO.Yv ?_ | refine RO.no rfl (by decide) rfl ?_ | refine RO.nil ?_ | refine DW.region ?_ | refine DW.seq ?_ | refine DW.block ?_ | refine DW.skip ?_ | refine DW.exit ?_ | refine DW.condT rfl ?_ | refine DW.condF rfl ?_))
    cases h2 : decide (200 < gs[k])
    case true =>
      rw [show badDeg gs[k] = true by unfold badDeg; rw [h2]; simp, Bool.true_or] at hg
      rw [if_pos hg.symm]
      (repeat (first | refine RO.Sv ?_ | refine RO.Yv ?_ | refine RO.no rfl (by decide) rfl ?_ | refine RO.nil ?_ | refine DW.region ?_ | refine DW.seq ?_ | refine DW.block ?_ | refine DW.skip ?_ | refine DW.exit ?_ | refine DW.condT rfl ?_ | refine DW.condF rfl ?_))
      exact DW.ret ⟨.inl rfl, _, rfl, Over.refl _, .same _⟩
    rw [show badDeg gs[k] = false by unfold badDeg; rw [h1, h2]; rfl, Bool.false_or] at hg
    (repeat (first | refine RO.Sv ?_ | refine RO.Yv ?_ | refine RO.no rfl (by decide) rfl ?_ | refine RO.nil ?_ | refine DW.region ?_ | refine DW.seq ?_ | refine DW.block ?_ | refine DW.skip ?_ | refine DW.exit ?_ | refine DW.condT rfl ?_ | refine DW.condF rfl ?_))
    exact ⟨k + 1, ⟨hlt, hg⟩, by dsimp only; omega, rfl, rfl, rfl, rfl, rfl, rfl, trivial⟩
  have hbad : gs.any badDeg = false := by
    rw [← hg, show k = gs.length by have := of_decide_eq_false hb; omega, List.drop_length]
    rfl
  have hin : ∀ g ∈ gs, -1000000 ≤ g ∧ g ≤ 1000000 := fun g hg => by
    have h := List.any_eq_false.1 hbad g hg
    unfold badDeg at h
    simp only [Bool.or_eq_true, decide_eq_true_eq] at h
    omega
  rw [if_neg (by rw [hbad]; simp)]
  (repeat (first | refine RO.Sv ?_ | refine RO.Yv ?_ | refine RO.no rfl (by decide) rfl ?_ | refine RO.nil ?_ | refine DW.region ?_ | refine DW.seq ?_ | refine DW.block ?_ | refine DW.skip ?_ | refine DW.exit ?_ | refine DW.condT rfl ?_ | refine DW.condF rfl ?_))
  refine RO.sta (sta_call rfl rfl (vSame_pure gs v (by omega) hlen hin (hvb.mok (by omega) (by omega) (by omega)) _)) rfl ?_
  (repeat (first | refine RO.Sv ?_ | refine RO.Yv ?_ | refine RO.no rfl (by decide) rfl ?_ | refine RO.nil ?_ | refine DW.region ?_ | refine DW.seq ?_ | refine DW.block ?_ | refine DW.skip ?_ | refine DW.exit ?_ | refine DW.condT rfl ?_ | refine DW.condF rfl ?_))
  exact DW.ret ⟨.inl rfl, _, rfl, Over.refl _, .same _⟩

end Go.Proofs.Ytblileclefbklaa

namespace Go.Proofs.Ytblileclefbklaa
open Go.RowKit
set_option linter.unusedVariables false
set_option linter.unusedSimpArgs false
set_option maxHeartbeats 4000000

def xyR : Rg := ⟨7, 2, 1, 1⟩

instance instRing1 : BuildT Try.prog 23 [I 0, I 0, I 0, I 0] #[(0, 1), (1, 1), (2, 1), (3, 1)] := .of (by kernel_rfl) Try.underlying23 (by kernel_rfl) rfl
instance instRing2 : SizeT Try.prog 23 4 := .of (by kernel_rfl)

theorem xy_pure : Pure Try.prog 47 [] (rgD xyR) := by
  intro H
  refine PureH.of_bodyCell (r := 0) (t := 23) (T0 := 23) (cells := [I 7, I 2, I 1, I 1]) Try.func47 rfl (by decide) (Nat.le_of_ble_eq_true rfl) rfl fun w0 => ?_
  (repeat (first | refine RO.S ?_ | refine RO.Y ?_ | refine RO.no rfl (by decide) rfl ?_ | refine RO.nil ?_ | refine DW.region ?_ | refine DW.seq ?_ | refine DW.block ?_ | refine DW.skip ?_ | refine DW.exit ?_ | refine DW.condT rfl ?_ | refine DW.condF rfl ?_))
  refine RO.dyn rfl (d_alloc fun b hb => ?_)
  (repeat (first | refine RO.S ?_ | refine RO.Y ?_ | refine RO.no rfl (by decide) rfl ?_ | refine RO.nil ?_ | refine DW.region ?_ | refine DW.seq ?_ | refine DW.block ?_ | refine DW.skip ?_ | refine DW.exit ?_ | refine DW.condT rfl ?_ | refine DW.condF rfl ?_))
  refine RO.sta (s_buildT (out := [I 7, I 2, I 1, I 1]) rfl rfl) rfl ?_
  refine RO.dyn rfl (d_store (k := 4) rfl rfl rfl (Heap.set_self _ _ _) (by decide) (by simp [cellsOf, D.isCell]) ?_)
  rw [Heap.set_set]
  (repeat (first | refine RO.S ?_ | refine RO.Y ?_ | refine RO.no rfl (by decide) rfl ?_ | refine RO.nil ?_ | refine DW.region ?_ | refine DW.seq ?_ | refine DW.block ?_ | refine DW.skip ?_ | refine DW.exit ?_ | refine DW.condT rfl ?_ | refine DW.condF rfl ?_))
  exact DW.ret ⟨.inl rfl, b, rfl, Heap.set_self _ _ _, (Over.refl _).set hb, hb⟩

end Go.Proofs.Ytblileclefbklaa

namespace Go.Proofs.Ytblileclefbklaa
open Go.RowKit
set_option linter.unusedVariables false
set_option linter.unusedSimpArgs false
set_option maxHeartbeats 8000000

/-- What must come. -/
def visT (w : Int) (want : Vc) : Vc × Int := if w = 0 then vdoneT want else ([], w)

theorem vectorIs_pure (v : Vc) (e w : Int) (want : Vc) (hl : v.length ≤ 1000000) (hv : ∀ f ∈ v, f.length ≤ 4000000000000 ∧ ∀ t ∈ f, t.e.length ≤ 3)
    (hw : w = 0 → want.length ≤ 4000000000000 ∧ ∀ f ∈ want, f.length ≤ 4000000000000 ∧ (∀ t ∈ f, MOk t.e) ∧ ∀ t ∈ f, t.e.sum ≤ topT f) (h : (v, e) = visT w want) :
    Pure Try.prog 26 [vcD v, I e, I w, vcD want] (.bool true) := by
  intro H
  refine PureH.of_body Try.func26 rfl (by decide) (Nat.le_of_ble_eq_true rfl) fun w0 => ?_
  unfold visT at h
  (repeat (first | refine RO.Sv ?_ | refine RO.Yv ?_ | refine RO.no rfl (by decide) rfl ?_ | refine RO.nil ?_ | refine DW.region ?_ | refine DW.seq ?_ | refine DW.block ?_ | refine DW.skip ?_ | refine DW.exit ?_ | refine DW.condT rfl ?_ | refine DW.condF rfl ?_))
  by_cases hw0 : w = 0
  · subst hw0
    obtain ⟨g1, g2⟩ := hw rfl
    rw [if_pos rfl] at h
    (repeat (first | refine RO.Sv ?_ | refine RO.Yv ?_ | refine RO.no rfl (by decide) rfl ?_ | refine RO.nil ?_ | refine DW.region ?_ | refine DW.seq ?_ | refine DW.block ?_ | refine DW.skip ?_ | refine DW.exit ?_ | refine DW.condT rfl ?_ | refine DW.condF rfl ?_))
    refine RO.yes rfl rfl (OpD.of_sta (sta_call rfl rfl (VGreat_pure want g1 g2 _)) ?_)
    (repeat (first | refine RO.Sv ?_ | refine RO.Yv ?_ | refine RO.no rfl (by decide) rfl ?_ | refine RO.nil ?_ | refine DW.region ?_ | refine DW.seq ?_ | refine DW.block ?_ | refine DW.skip ?_ | refine DW.exit ?_ | refine DW.condT rfl ?_ | refine DW.condF rfl ?_))
    unfold vdoneT at h
    cases hg : vgreatT want
    · rw [hg, if_neg (by simp)] at h
      cases h
      (repeat (first | refine RO.Sv ?_ | refine RO.Yv ?_ | refine RO.no rfl (by decide) rfl ?_ | refine RO.nil ?_ | refine DW.region ?_ | refine DW.seq ?_ | refine DW.block ?_ | refine DW.skip ?_ | refine DW.exit ?_ | refine DW.condT rfl ?_ | refine DW.condF rfl ?_))
      refine RO.yes rfl rfl (OpD.of_sta (sta_call rfl rfl (SameVector_pure v hl hv _)) ?_)
      (repeat (first | refine RO.Sv ?_ | refine RO.Yv ?_ | refine RO.no rfl (by decide) rfl ?_ | refine RO.nil ?_ | refine DW.region ?_ | refine DW.seq ?_ | refine DW.block ?_ | refine DW.skip ?_ | refine DW.exit ?_ | refine DW.condT rfl ?_ | refine DW.condF rfl ?_))
      exact DW.ret ⟨.inl rfl, _, rfl, Over.refl _, .same _⟩
    · rw [hg, if_pos rfl] at h
      cases h
      (repeat (first | refine RO.Sv ?_ | refine RO.Yv ?_ | refine RO.no rfl (by decide) rfl ?_ | refine RO.nil ?_ | refine DW.region ?_ | refine DW.seq ?_ | refine DW.block ?_ | refine DW.skip ?_ | refine DW.exit ?_ | refine DW.condT rfl ?_ | refine DW.condF rfl ?_))
      refine RO.yes rfl rfl (OpD.of_sta (sta_call rfl rfl (PureH.nilAt (ds := [vcD [], .nil]) 1 1 (SameVector_pure [] hl hv _) rfl)) ?_)
      (repeat (first | refine RO.Sv ?_ | refine RO.Yv ?_ | refine RO.no rfl (by decide) rfl ?_ | refine RO.nil ?_ | refine DW.region ?_ | refine DW.seq ?_ | refine DW.block ?_ | refine DW.skip ?_ | refine DW.exit ?_ | refine DW.condT rfl ?_ | refine DW.condF rfl ?_))
      exact DW.ret ⟨.inl rfl, _, rfl, Over.refl _, .same _⟩
  · rw [if_neg hw0] at h
    obtain ⟨hv0, he0⟩ := Prod.mk.inj h
    subst hv0
    rw [he0]
    rw [show (w == 0) = false by simpa using hw0]
    (repeat (first | refine RO.Sv ?_ | refine RO.Yv ?_ | refine RO.no rfl (by decide) rfl ?_ | refine RO.nil ?_ | refine DW.region ?_ | refine DW.seq ?_ | refine DW.block ?_ | refine DW.skip ?_ | refine DW.exit ?_ | refine DW.condT rfl ?_ | refine DW.condF rfl ?_))
    rw [show (w != 0) = true by simpa using hw0]
    (repeat (first | refine RO.Sv ?_ | refine RO.Yv ?_ | refine RO.no rfl (by decide) rfl ?_ | refine RO.nil ?_ | refine DW.region ?_ | refine DW.seq ?_ | refine DW.block ?_ | refine DW.skip ?_ | refine DW.exit ?_ | refine DW.condT rfl ?_ | refine DW.condF rfl ?_))
    rw [show (w == w) = true by simp]
    (repeat (first | refine RO.Sv ?_ | refine RO.Yv ?_ | refine RO.no rfl (by decide) rfl ?_ | refine RO.nil ?_ | refine DW.region ?_ | refine DW.seq ?_ | refine DW.block ?_ | refine DW.skip ?_ | refine DW.exit ?_ | refine DW.condT rfl ?_ | refine DW.condF rfl ?_))
    refine RO.yes rfl rfl (OpD.of_sta (sta_call rfl rfl (PureH.nilAt (ds := [vcD [], .nil]) 1 1 (SameVector_pure [] hl hv _) rfl)) ?_)
    (repeat (first | refine RO.Sv ?_ | refine RO.Yv ?_ | refine RO.no rfl (by decide) rfl ?_ | refine RO.nil ?_ | refine DW.region ?_ | refine DW.seq ?_ | refine DW.block ?_ | refine DW.skip ?_ | refine DW.exit ?_ | refine DW.condT rfl ?_ | refine DW.condF rfl ?_))
    exact DW.ret ⟨.inl rfl, _, rfl, Over.refl _, .same _⟩

theorem term_pure (c : Int) (e : List Int) : Pure Try.prog 48 [I c, intsD e] (tmD ⟨c, e⟩) := by
  intro H
  refine PureH.of_bodyCell (r := 4) (t := 47) (T0 := 47) (cells := [I c, intsD e]) Try.func48 rfl (by decide) (Nat.le_of_ble_eq_true rfl) rfl fun w0 => ?_
  (repeat (first | refine RO.Sv ?_ | refine RO.Yv ?_ | refine RO.no rfl (by decide) rfl ?_ | refine RO.nil ?_ | refine DW.region ?_ | refine DW.seq ?_ | refine DW.block ?_ | refine DW.skip ?_ | refine DW.exit ?_ | refine DW.condT rfl ?_ | refine DW.condF rfl ?_))
  refine RO.dyn rfl (d_alloc fun b hb => ?_)
  (repeat (first | refine RO.Sv ?_ | refine RO.Yv ?_ | refine RO.no rfl (by decide) rfl ?_ | refine RO.nil ?_ | refine DW.region ?_ | refine DW.seq ?_ | refine DW.block ?_ | refine DW.skip ?_ | refine DW.exit ?_ | refine DW.condT rfl ?_ | refine DW.condF rfl ?_))
  refine RO.sta (s_buildT (out := [I c, intsD e]) rfl rfl) rfl ?_
  refine RO.dyn rfl (d_store (k := 2) rfl rfl rfl (Heap.set_self _ _ _) (by show 0 + 2 ≤ 2; omega) (by simp [cellsOf, D.isCell, intsD]) ?_)
  rw [Heap.set_set]
  (repeat (first | refine RO.Sv ?_ | refine RO.Yv ?_ | refine RO.no rfl (by decide) rfl ?_ | refine RO.nil ?_ | refine DW.region ?_ | refine DW.seq ?_ | refine DW.block ?_ | refine DW.skip ?_ | refine DW.exit ?_ | refine DW.condT rfl ?_ | refine DW.condF rfl ?_))
  exact DW.ret ⟨.inl rfl, b, rfl, Heap.set_self _ _ _, (Over.refl _).set hb, hb⟩

end Go.Proofs.Ytblileclefbklaa

namespace Go.Proofs.Ytblileclefbklaa
open Go.RowKit
set_option linter.unusedVariables false
set_option linter.unusedSimpArgs false
set_option maxHeartbeats 8000000

theorem s_two {P : Program} {H : Heap} {e : Env} {dst : Option Tmp} {ty : TypeId} {pos : String} {af : Array Edge} {gd : Option (Nat × Bool)} {t E : TypeId} {x y : Operand} {a b : Int} {bytes : Nat} {zd : List D} [SliceT P t E] [ElT P E 1 zd bytes] (hx : e.ev x = some (I a)) (hy : e.ev y = some (I b)) :
    Sta P H e ⟨dst, .buildSlice t 2 #[(0, x), (1, y)], ty, pos, af, gd⟩ (intsD [a, b]) := by
  have hz : zd.length = 1 := (ElT.z (P := P) (E := E) (k := 1) (zd := zd) (bytes := bytes)).len
  obtain ⟨z, rfl⟩ : ∃ z, zd = [z] := by
    match zd, hz with
    | [z], _ => exact ⟨z, rfl⟩
  exact s_lit (P := P) (t := t) (E := E) (bytes := bytes) (zd := [z]) (pd := [(0, I a), (1, I b)]) (ds := [I a, I b]) (by decide) (by decide) (by simp [evParts, hx, hy]) rfl (fun d hd => by simp at hd; rcases hd with rfl | rfl <;> rfl) rfl

def bgV : Vc := [[], [⟨1, [1, 0]⟩]]

/-- A vector of a nil and one polynomial. -/
theorem s_nilPoly {P : Program} {H : Heap} {e : Env} {dst : Option Tmp} {ty : TypeId} {pos : String} {af : Array Edge} {gd : Option (Nat × Bool)} {t E : TypeId} {x y : Operand} {f : Pl} {bytes : Nat} {zd : List D} [SliceT P t E] [ElT P E 1 zd bytes] (hx : e.ev x = some .nil) (hy : e.ev y = some (plD f)) :
    Sta P H e ⟨dst, .buildSlice t 2 #[(0, x), (1, y)], ty, pos, af, gd⟩ (vcD [[], f]) := by
  have hz : zd.length = 1 := (ElT.z (P := P) (E := E) (k := 1) (zd := zd) (bytes := bytes)).len
  obtain ⟨z, rfl⟩ : ∃ z, zd = [z] := by
    match zd, hz with
    | [z], _ => exact ⟨z, rfl⟩
  have h := s_lit (n := 2) (k := 1) (P := P) (H := H) (e := e) (dst := dst) (ty := ty) (pos := pos) (af := af) (gd := gd) (t := t) (E := E) (bytes := bytes) (zd := [z]) (parts := #[(0, x), (1, y)]) (pd := [(0, .nil), (1, plD f)]) (ds := [.nil, plD f]) (by decide) (by decide) (by simp [evParts, hx, hy]) rfl (fun d hd => by simp at hd; rcases hd with rfl | rfl <;> rfl) rfl
  refine h.seen_list (l' := [.list 2 [], plD f]) rfl fun i d d' h1 h2 => ?_
  match i, h1, h2 with
  | 0, h1, h2 =>
    cases h1; cases h2
    refine ⟨rfl, fun j a b ha hb => ?_⟩
    match j, ha, hb with
    | 0, ha, hb => cases ha; cases hb; exact .inr ⟨rfl, 2, rfl⟩
    | j + 1, ha, hb => simp [cellsOf] at ha
  | 1, h1, h2 =>
    cases h1; cases h2
    exact ⟨rfl, fun j a b ha hb => by rw [ha] at hb; cases hb; exact .inl rfl⟩
  | i + 2, h1, h2 => simp at h1

theorem vectorBegun_pure : Pure Try.prog 23 [] (.bool true) := by
  intro H
  have e1 : leadT xyR bgV = (1, ⟨1, [1, 0]⟩, 0) := by kernel_rfl
  have e2 : vaddT xyR bgV bgV = ([[], [⟨2, [1, 0]⟩]], 0) := by kernel_rfl
  have e3 : degT xyR [0, 2] bgV = (3, 0) := by kernel_rfl
  have e4 : vecsCk xyR 2 [bgV] = 0 := by kernel_rfl
  have hb : bgV.length ≤ 4611686018427387904 ∧ ∀ f ∈ bgV, f.length ≤ 4611686018427387904 := ⟨by decide, fun f hf => by simp [bgV] at hf; rcases hf with rfl | rfl <;> simp⟩
  have c1 := vLead_pure xyR bgV hb
  have c2 := vAdd_pure xyR bgV bgV hb hb
  have c3 := vDegree_pure xyR [0, 2] bgV (by decide) hb
  have c4 := vCheck_pure xyR 2 [bgV] (by decide) (two_le (l := []) hb)
  rw [e1] at c1
  rw [e2] at c2
  rw [e3] at c3
  rw [e4] at c4
  refine PureH.of_body Try.func23 rfl (by decide) (Nat.le_of_ble_eq_true rfl) fun w0 => ?_
  (repeat (first | refine RO.Sv ?_ | refine RO.Yv ?_ | refine RO.no rfl (by decide) rfl ?_ | refine RO.nil ?_ | refine DW.region ?_ | refine DW.seq ?_ | refine DW.block ?_ | refine DW.skip ?_ | refine DW.exit ?_ | refine DW.condT rfl ?_ | refine DW.condF rfl ?_))
  refine RO.sta (s_two rfl rfl) rfl ?_
  refine RO.sta (sta_call rfl rfl (term_pure 1 [1, 0] _)) rfl ?_
  (repeat (first | refine RO.Sv ?_ | refine RO.Yv ?_ | refine RO.no rfl (by decide) rfl ?_ | refine RO.nil ?_ | refine DW.region ?_ | refine DW.seq ?_ | refine DW.block ?_ | refine DW.skip ?_ | refine DW.exit ?_ | refine DW.condT rfl ?_ | refine DW.condF rfl ?_))
  refine RO.sta (s_nilPoly (f := [⟨1, [1, 0]⟩]) rfl rfl) rfl ?_
  (repeat (first | refine RO.Sv ?_ | refine RO.Yv ?_ | refine RO.no rfl (by decide) rfl ?_ | refine RO.nil ?_ | refine DW.region ?_ | refine DW.seq ?_ | refine DW.block ?_ | refine DW.skip ?_ | refine DW.exit ?_ | refine DW.condT rfl ?_ | refine DW.condF rfl ?_))
  refine RO.sta (sta_call rfl rfl (xy_pure _)) rfl ?_
  (repeat (first | refine RO.Sv ?_ | refine RO.Yv ?_ | refine RO.no rfl (by decide) rfl ?_ | refine RO.nil ?_ | refine DW.region ?_ | refine DW.seq ?_ | refine DW.block ?_ | refine DW.skip ?_ | refine DW.exit ?_ | refine DW.condT rfl ?_ | refine DW.condF rfl ?_))
  refine RO.sta (sta_call rfl rfl (c1 _)) rfl ?_
  (repeat (first | refine RO.Sv ?_ | refine RO.Yv ?_ | refine RO.no rfl (by decide) rfl ?_ | refine RO.nil ?_ | refine DW.region ?_ | refine DW.seq ?_ | refine DW.block ?_ | refine DW.skip ?_ | refine DW.exit ?_ | refine DW.condT rfl ?_ | refine DW.condF rfl ?_))
  refine RO.dyn rfl (d_alloc fun bv hbv => ?_)
  (repeat (first | refine RO.Sv ?_ | refine RO.Yv ?_ | refine RO.no rfl (by decide) rfl ?_ | refine RO.nil ?_ | refine DW.region ?_ | refine DW.seq ?_ | refine DW.block ?_ | refine DW.skip ?_ | refine DW.exit ?_ | refine DW.condT rfl ?_ | refine DW.condF rfl ?_))
  refine RO.dyn rfl (d_storeTm (tm := ⟨1, [1, 0]⟩) rfl rfl (Heap.set_self _ _ _) rfl ?_)
  rw [Heap.set_set]
  (repeat (first | refine RO.Sv ?_ | refine RO.Yv ?_ | refine RO.no rfl (by decide) rfl ?_ | refine RO.nil ?_ | refine DW.region ?_ | refine DW.seq ?_ | refine DW.block ?_ | refine DW.skip ?_ | refine DW.exit ?_ | refine DW.condT rfl ?_ | refine DW.condF rfl ?_))
  refine RO.sta (sta_call rfl rfl (xy_pure _)) rfl ?_
  (repeat (first | refine RO.Sv ?_ | refine RO.Yv ?_ | refine RO.no rfl (by decide) rfl ?_ | refine RO.nil ?_ | refine DW.region ?_ | refine DW.seq ?_ | refine DW.block ?_ | refine DW.skip ?_ | refine DW.exit ?_ | refine DW.condT rfl ?_ | refine DW.condF rfl ?_))
  refine RO.sta (sta_call rfl rfl (c2 _)) rfl ?_
  (repeat (first | refine RO.Sv ?_ | refine RO.Yv ?_ | refine RO.no rfl (by decide) rfl ?_ | refine RO.nil ?_ | refine DW.region ?_ | refine DW.seq ?_ | refine DW.block ?_ | refine DW.skip ?_ | refine DW.exit ?_ | refine DW.condT rfl ?_ | refine DW.condF rfl ?_))
  refine RO.sta (sta_call rfl rfl (xy_pure _)) rfl ?_
  refine RO.sta (s_two rfl rfl) rfl ?_
  (repeat (first | refine RO.Sv ?_ | refine RO.Yv ?_ | refine RO.no rfl (by decide) rfl ?_ | refine RO.nil ?_ | refine DW.region ?_ | refine DW.seq ?_ | refine DW.block ?_ | refine DW.skip ?_ | refine DW.exit ?_ | refine DW.condT rfl ?_ | refine DW.condF rfl ?_))
  refine RO.sta (sta_call rfl rfl (c3 _)) rfl ?_
  (repeat (first | refine RO.Sv ?_ | refine RO.Yv ?_ | refine RO.no rfl (by decide) rfl ?_ | refine RO.nil ?_ | refine DW.region ?_ | refine DW.seq ?_ | refine DW.block ?_ | refine DW.skip ?_ | refine DW.exit ?_ | refine DW.condT rfl ?_ | refine DW.condF rfl ?_))
  refine RO.yes rfl rfl (OpD.of_sta (s_indexI (i := 1) rfl rfl (by decide) (by decide)) ?_)
  refine RO.yes rfl rfl (OpD.of_sta (s_loadM (fun _ => rfl) rfl (by decide)) ?_)
  (repeat (first | refine RO.Sv ?_ | refine RO.Yv ?_ | refine RO.no rfl (by decide) rfl ?_ | refine RO.nil ?_ | refine DW.region ?_ | refine DW.seq ?_ | refine DW.block ?_ | refine DW.skip ?_ | refine DW.exit ?_ | refine DW.condT rfl ?_ | refine DW.condF rfl ?_))
  refine RO.yes rfl rfl (OpD.of_sta (s_indexI (i := 1) rfl rfl (by decide) (by decide)) ?_)
  refine RO.yes rfl rfl (OpD.of_sta (s_loadM (fun _ => rfl) rfl (by decide)) ?_)
  (repeat (first | refine RO.Sv ?_ | refine RO.Yv ?_ | refine RO.no rfl (by decide) rfl ?_ | refine RO.nil ?_ | refine DW.region ?_ | refine DW.seq ?_ | refine DW.block ?_ | refine DW.skip ?_ | refine DW.exit ?_ | refine DW.condT rfl ?_ | refine DW.condF rfl ?_))
  refine RO.yes rfl rfl (OpD.of_sta (s_indexM0 rfl rfl (by decide)) ?_)
  (repeat (first | refine RO.Sv ?_ | refine RO.Yv ?_ | refine RO.no rfl (by decide) rfl ?_ | refine RO.nil ?_ | refine DW.region ?_ | refine DW.seq ?_ | refine DW.block ?_ | refine DW.skip ?_ | refine DW.exit ?_ | refine DW.condT rfl ?_ | refine DW.condF rfl ?_))
  refine RO.yes rfl rfl (OpD.of_sta (sta_call rfl rfl (xy_pure _)) ?_)
  (repeat (first | refine RO.Sv ?_ | refine RO.Yv ?_ | refine RO.no rfl (by decide) rfl ?_ | refine RO.nil ?_ | refine DW.region ?_ | refine DW.seq ?_ | refine DW.block ?_ | refine DW.skip ?_ | refine DW.exit ?_ | refine DW.condT rfl ?_ | refine DW.condF rfl ?_))
  refine RO.yes rfl rfl (OpD.of_sta (sta_call rfl rfl (c4 _)) ?_)
  (repeat (first | refine RO.Sv ?_ | refine RO.Yv ?_ | refine RO.no rfl (by decide) rfl ?_ | refine RO.nil ?_ | refine DW.region ?_ | refine DW.seq ?_ | refine DW.block ?_ | refine DW.skip ?_ | refine DW.exit ?_ | refine DW.condT rfl ?_ | refine DW.condF rfl ?_))
  exact DW.ret ⟨.inl rfl, _, rfl, (Over.refl _).set hbv, .same _⟩

end Go.Proofs.Ytblileclefbklaa

namespace Go.Proofs.Ytblileclefbklaa
set_option linter.unusedVariables false
set_option linter.unusedSimpArgs false

theorem Lf_zero {φ : List Int → Int} : ∀ {f : Pl}, (∀ s ∈ f, φ s.e = 0) → Lf φ f = 0
  | [], _ => rfl
  | t :: f, h => by rw [Lf_cons, Lf_zero fun s hs => h s (by simp [hs]), h t (by simp)]; simp

theorem LfP_zero {φ : List Int → Int} {g : Pl} : ∀ {f : Pl}, (∀ t ∈ f, Lf (shift φ t.e) g = 0) → LfP φ f g = 0
  | [], _ => rfl
  | t :: f, h => by
    have : LfP φ (t :: f) g = t.c * Lf (shift φ t.e) g + LfP φ f g := by simp [LfP]
    rw [this, LfP_zero fun s hs => h s (by simp [hs]), h t (by simp)]; simp

theorem prod_head {p o : Int} {n : Nat} {B C : Int} (hp : 1 < p) (hpr : Prm p) {t u : Tm} {f g : Pl} (hC : 0 ≤ C) (hf : PB 1 p o n C (t :: f)) (hg : PB 1 p o n B (u :: g)) :
    ∃ s ∈ prodT p o (t :: f) (u :: g), s.e = zipE (· + ·) t.e u.e := by
  have htl := hf.head.len
  have hul := hg.head.len
  generalize hm : zipE (· + ·) t.e u.e = m
  have hgl : ∀ s ∈ u :: g, s.e.length = n ∧ 0 ≤ cmpM o u.e s.e := fun s hs => by
    refine ⟨(hg.all s hs).len, ?_⟩
    rcases List.mem_cons.1 hs with rfl | hs
    · rw [cmpM_self]; exact Int.le_refl _
    · exact Int.le_of_lt (hg.below s hs)
  have far : ∀ (a b : List Int), a.length = n → b.length = n → 0 ≤ cmpM o t.e a → 0 ≤ cmpM o u.e b → (0 < cmpM o t.e a ∨ 0 < cmpM o u.e b) → zipE (· + ·) b a ≠ m := fun a b ha hb h1 h2 h3 he => by
    rw [zipE_comm] at he
    have c1 : cmpM o m (zipE (· + ·) a u.e) = cmpM o t.e a := by rw [← hm]; exact cmpM_add (by omega) (by omega)
    have c2 : cmpM o (zipE (· + ·) a u.e) (zipE (· + ·) a b) = cmpM o u.e b := by
      rw [zipE_comm (a := a) (b := u.e), zipE_comm (a := a) (b := b)]
      exact cmpM_add (by omega) (by omega)
    have l1 : m.length = n := by rw [← hm, zipE_len (by omega)]; exact htl
    have l2 : (zipE (· + ·) a u.e).length = n := by rw [zipE_len (by omega)]; exact ha
    have l3 : (zipE (· + ·) a b).length = n := by rw [zipE_len (by omega)]; exact ha
    have := (cmpM_trans (o := o) (a := m) (b := zipE (· + ·) a u.e) (c := zipE (· + ·) a b) (by omega) (by omega) (by omega) (by omega)).2 (by rw [c1, c2]; exact h3)
    rw [he, cmpM_self] at this
    omega
  have k1 : ∀ t' ∈ f, Lf (shift (delta m) t'.e) (u :: g) = 0 := fun t' ht' => Lf_zero fun s hs => by
    have := far t'.e s.e (hf.all t' (by simp [ht'])).len (hgl s hs).1 (Int.le_of_lt (hf.below t' ht')) (hgl s hs).2 (.inl (hf.below t' ht'))
    simp [shift, delta, this]
  have k2 : Lf (shift (delta m) t.e) (u :: g) = u.c := by
    rw [Lf_cons, Lf_zero (f := g) fun s hs => by
      have := far t.e s.e htl (hgl s (by simp [hs])).1 (by rw [cmpM_self]; exact Int.le_refl _) (hgl s (by simp [hs])).2 (.inr (hg.below s hs))
      simp [shift, delta, this]]
    have : zipE (· + ·) u.e t.e = m := by rw [zipE_comm]; exact hm
    simp [shift, delta, this]
  have k3 : LfP (delta m) (t :: f) (u :: g) = t.c * u.c := by
    have : LfP (delta m) (t :: f) (u :: g) = t.c * Lf (shift (delta m) t.e) (u :: g) + LfP (delta m) f (u :: g) := by simp [LfP]
    rw [this, k2, LfP_zero k1]; simp
  have hL := prodT_L hp hpr hg hC (fun x hx => (hf.all x hx).mono (by omega) (Int.le_refl _)) (delta m)
  rw [k3] at hL
  refine Classical.byContradiction fun hno => ?_
  have h0 : Lf (delta m) (prodT p o (t :: f) (u :: g)) = 0 := Lf_zero fun s hs => by
    have : s.e ≠ m := fun e => hno ⟨s, hs, e⟩
    simp [delta, this]
  rw [h0] at hL
  have hd : p ∣ t.c * u.c := by
    have := Int.dvd_neg.2 hL
    rwa [show -(0 - t.c * u.c) = t.c * u.c by omega] at this
  have t1 := hf.head.lo
  have t2 := hf.head.hi
  have u1 := hg.head.lo
  have u2 := hg.head.hi
  rcases hpr _ _ hd with h | h
  · have := Int.le_of_dvd (by omega) h; omega
  · have := Int.le_of_dvd (by omega) h; omega

/-- A product of too great a degree is too great. -/
theorem big_great {p o : Int} {n : Nat} {B C : Int} (hp : 1 < p) (hpr : Prm p) {f g : Pl} (hC : 0 ≤ C) (hf : PB 1 p o n C f) (hg : PB 1 p o n B g) (h : bigT f g = true) : greatT (prodT p o f g) = true := by
  unfold bigT at h
  cases f with
  | nil => simp at h
  | cons t f =>
    cases g with
    | nil => simp at h
    | cons u g =>
      obtain ⟨s, hs, he⟩ := prod_head hp hpr hC hf hg
      have ht := topT_ge (prodT_ok hp hpr hg hC (fun x hx => (hf.all x hx).mono (by omega) (Int.le_refl _))) s hs
      rw [he, zipE_sum (by rw [hf.head.len, hg.head.len])] at ht
      have hsum : 200 < topT (t :: f) + topT (u :: g) := by simpa using h
      unfold greatT
      have h1 : topT (t :: f) = t.e.sum := rfl
      have h2 : topT (u :: g) = u.e.sum := rfl
      rw [decide_eq_true (show 200 < topT (prodT p o (t :: f) (u :: g)) by omega)]
      rfl

end Go.Proofs.Ytblileclefbklaa

namespace Go.Proofs.Ytblileclefbklaa
open Go.RowKit
set_option linter.unusedVariables false
set_option linter.unusedSimpArgs false
set_option maxHeartbeats 8000000

/-- A vector that may be compared. -/
def Cmp (v : Vc) : Prop := v.length ≤ 1000000 ∧ ∀ f ∈ v, f.length ≤ 4000000000000 ∧ ∀ t ∈ f, t.e.length ≤ 3

theorem Cmp.nil : Cmp [] := ⟨Nat.zero_le _, fun f h => (by cases h)⟩

theorem Cmp.done {v : Vc} (h : Cmp v) : Cmp (vdoneT v).1 := by
  unfold vdoneT
  split
  · exact .nil
  · exact h

/-- What is wanted, as it stands: nothing if it need not be made. -/
def wantT (w : Int) (want : Vc) : Vc := if w = 0 then want else []

theorem wantT_yes {w : Int} {want : Vc} (h : w = 0) : wantT w want = want := if_pos h
theorem wantT_no {w : Int} {want : Vc} (h : ¬ w = 0) : wantT w want = [] := if_neg h

theorem visT_want (w : Int) (want : Vc) : visT w (wantT w want) = visT w want := by
  unfold visT wantT
  by_cases h : w = 0
  · rw [if_pos h, if_pos h, if_pos h]
  · rw [if_neg h, if_neg h]

theorem vis_call {H : Heap} (x : Vc × Int) (w : Int) (want : Vc) (hx : Cmp x.1) (hw : w = 0 → ∃ (r : Rg) (n : Nat) (B : Int) (L : Nat), n ≤ 3 ∧ B ≤ 1000000 ∧ L ≤ 4000000000000 ∧ want.length ≤ 1000000 ∧ VB r n B L want) (h : x = visT w want) :
    PureH Try.prog H 26 [vcD x.1, I x.2, I w, vcD (wantT w want)] (.bool true) :=
  vectorIs_pure x.1 x.2 w (wantT w want) hx.1 hx.2 (fun e => by
    obtain ⟨r, n, B, L, h1, h2, h3, h4, h5⟩ := hw e
    rw [wantT_yes e]
    exact ⟨by omega, h5.mok3 h1 h2 h3⟩) (by rw [visT_want]; exact h) H

theorem VB.cmp {r : Rg} {n : Nat} {B : Int} {L : Nat} {v : Vc} (h : VB r n B L v) (hn : n ≤ 3) (hL : L ≤ 4000000000000) (hl : v.length ≤ 1000000) : Cmp v := ⟨hl, h.len3 hn hL⟩

theorem vadd_vis (r : Rg) (v w : Vc) : vaddT r v w = visT (alikeCk r [v, w]) (vsumT r v w) := by
  unfold vaddT visT
  by_cases h : alikeCk r [v, w] = 0
  · rw [if_neg (by simpa using h), if_pos h]
  · rw [if_pos h, if_neg h]

theorem visT_ne {w : Int} (h : w ≠ 0) (a b : Vc) : visT w a = visT w b := by unfold visT; rw [if_neg h, if_neg h]

theorem add_vb {r : Rg} {v w : Vc} (h : alikeCk r [v, w] = 0) : r.n.toNat ≤ 3 ∧ VB r r.n.toNat 200 4000 (vsumT r v w) ∧ (vsumT r v w).length = v.length ∧ v.length ≤ 40 ∧ v.length = w.length := by
  obtain ⟨hr, hal⟩ := alikeCk_ok h
  obtain ⟨hv1, hv2, hv3⟩ := hal v (by simp)
  obtain ⟨hw1, hw2, hw3⟩ := hal w (by simp)
  have hr2 := ringCk_ok hr
  have hp := ckP_ok hr2.1
  have e1 := hv3.len
  have e2 := hw3.len
  exact ⟨by omega, VB.sum (by omega) hv3.vb hw3.vb, vsumT_len (by omega), hv2, by omega⟩

theorem vadd_cmp (r : Rg) (v w : Vc) : Cmp (vaddT r v w).1 := by
  unfold vaddT
  by_cases h : alikeCk r [v, w] = 0
  · rw [if_neg (by simpa using h)]
    obtain ⟨h1, h2, h3, h4, _⟩ := add_vb h
    exact (h2.cmp h1 (by omega) (by omega)).done
  · rw [if_pos h]; exact .nil

theorem scale_vb {r : Rg} {f : Pl} {v : Vc} (hp : polysCk r [f] = 0) (h : alikeCk r [v] = 0) : r.n.toNat ≤ 3 ∧ VB r r.n.toNat 400 4000000 (vtimesT r f v) ∧ (vtimesT r f v).length = v.length ∧ v.length ≤ 40 ∧ (v.any (bigT f) = true → vgreatT (vtimesT r f v) = true) := by
  obtain ⟨hr, hal⟩ := alikeCk_ok h
  obtain ⟨hv1, hv2, hv3⟩ := hal v (by simp)
  have hfo := (polysCk_ok hp).2 f (by simp)
  have hr2 := ringCk_ok hr
  have hp := ckP_ok hr2.1
  have hpr : Prm r.p := ckP_prm hr2.1
  have hvb := hv3.vb
  refine ⟨by omega, fun g hg => ?_, by simp [vtimesT], hv2, fun hb => ?_⟩
  · obtain ⟨u, hu, rfl⟩ := List.mem_map.1 hg
    obtain ⟨a1, a2⟩ := hvb u hu
    have hfl := hfo.len
    have hmul : f.length * u.length ≤ 2000 * 2000 := Nat.mul_le_mul hfl a2
    have h0 : ∀ t ∈ f, TB 0 r.p r.n.toNat 200 t := fun t ht => (hfo.ok.all t ht).mono (by omega) (by omega)
    exact ⟨prodT_ok (by omega) hpr a1 (by omega) h0, Nat.le_trans (prodT_length (by omega) hpr a1 (by omega) h0) hmul⟩
  · obtain ⟨u, hu, hbu⟩ := List.any_eq_true.1 hb
    exact List.any_eq_true.2 ⟨_, List.mem_map.2 ⟨u, hu, rfl⟩, big_great (by omega) hpr (by omega) hfo.ok (hvb u hu).1 hbu⟩

/-- What is wrong with what Scale is handed. -/
def scaleCk (r : Rg) (f : Pl) (v : Vc) : Int := if polysCk r [f] = 0 then alikeCk r [v] else polysCk r [f]

theorem vscale_vis (r : Rg) (f : Pl) (v : Vc) : vscaleT r f v = visT (scaleCk r f v) (vtimesT r f v) := by
  unfold vscaleT visT scaleCk
  by_cases h : polysCk r [f] = 0
  · rw [if_neg (by simpa using h), if_pos h]
    by_cases h2 : alikeCk r [v] = 0
    · rw [if_neg (by simpa using h2), if_pos h2]
      split
      · rename_i hb
        unfold vdoneT
        rw [(scale_vb h h2).2.2.2.2 hb, if_pos rfl]
      · rfl
    · rw [if_pos h2, if_neg h2]
  · rw [if_pos h, if_neg h, if_neg h]

theorem vscale_cmp (r : Rg) (f : Pl) (v : Vc) : Cmp (vscaleT r f v).1 := by
  unfold vscaleT
  by_cases h : polysCk r [f] = 0
  · rw [if_neg (by simpa using h)]
    by_cases h2 : alikeCk r [v] = 0
    · rw [if_neg (by simpa using h2)]
      split
      · exact .nil
      · obtain ⟨h1, h3, h4, h5, _⟩ := scale_vb h h2
        exact (h3.cmp h1 (by omega) (by omega)).done
    · rw [if_pos h2]; exact .nil
  · rw [if_pos h]; exact .nil

end Go.Proofs.Ytblileclefbklaa
