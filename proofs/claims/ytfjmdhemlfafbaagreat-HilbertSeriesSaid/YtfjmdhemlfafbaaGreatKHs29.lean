/-
  The series: for each degree the count is the sum of each number times how many are free. No condition.
-/
import Derived.Test.YtfjmdhemlfafbaaGreatKHs26
import Derived.Test.YtfjmdhemlfafbaaGreatKHs28
import Derived.Test.YtfjmdhemlfafbaaGreatKHs15
import Derived.Test.YtfjmdhemlfafbaaGreatKHs19
import Derived.Test.YtfjmdhemlfafbaaGreatKHs16
set_option linter.unusedVariables false
set_option linter.unusedSimpArgs false

namespace Go.Proofs.YtfjmdhemlfafbaaGreat
open Go.RowKit
set_option maxHeartbeats 8000000

def ldsT (r : Rg) (k : Nat) (l : List Vc) : List (List (List Int)) := leadsT k (rawL r k l)

theorem ldsT_len (r : Rg) (k : Nat) (l : List Vc) : (ldsT r k l).length = k := leadsT_len _ _

structure LdsOk (n k : Nat) (ls : List (List (List Int))) : Prop where
  len : ls.length = k
  each : ∀ (i : Nat) (h : i < ls.length), ls[i].length ≤ 2844664 ∧ ∀ e ∈ ls[i], ME n e

theorem ldsT_ok {r : Rg} {k : Nat} {δ d : Nat → Int} {l : List Vc} (h : Lst r k δ d l) : LdsOk r.n.toNat k (ldsT r k l) := by
  have hraw := h.raw
  refine ⟨ldsT_len r k l, fun i hi => ?_⟩
  rw [ldsT_len] at hi
  have hg : (ldsT r k l).getD i [] = (ldsT r k l)[i]'(by rw [ldsT_len]; exact hi) := getD_lt (by rw [ldsT_len]; exact hi)
  rw [← hg]
  unfold ldsT
  refine ⟨?_, ?_⟩
  · have := leads_row (k := k) (ms := rawL r k l) hi
    have := hraw.len
    omega
  · rw [leadsT_get k _ i hi]
    intro e he
    obtain ⟨x, hx, rfl⟩ := List.mem_map.1 he
    exact ((hraw.ok x (List.mem_filter.1 hx).1).1.ld h.cx).2.2

def totU (gs : List Int) (ls : List (List (List Int))) : Nat → List Int
  | 0 => []
  | i + 1 => plusT (totU gs ls i) (numT (ls.getD i [])) 1 (gs.getD i 0).toNat

theorem totU_len {n k : Nat} {gs : List Int} {ls : List (List (List Int))} (h : LdsOk n k ls) (hg : ∀ g ∈ gs, 0 ≤ g ∧ g ≤ 6) : ∀ i, i ≤ k → (totU gs ls i).length ≤ 30000000000
  | 0, _ => by simp [totU]
  | i + 1, hi => by
    have ih := totU_len h hg i (by omega)
    have hil : i < ls.length := by rw [h.len]; omega
    obtain ⟨h1, h2⟩ := h.each i hil
    have h3 := numT_len h2
    have h4 := plusT_len (totU gs ls i) (numT (ls.getD i [])) 1 (gs.getD i 0).toNat
    rw [getD_lt hil] at h4
    have h5 : (gs.getD i 0).toNat ≤ 6 := by
      rw [List.getD_eq_getElem?_getD]
      cases hx : gs[i]? with
      | none => simp
      | some g => have := hg g (List.mem_of_getElem? hx); simp; omega
    show (plusT (totU gs ls i) (numT (ls.getD i [])) 1 (gs.getD i 0).toNat).length ≤ _
    rw [getD_lt hil]
    omega

def trimT (a : List Int) : List Int := (a.reverse.dropWhile (· == 0)).reverse

theorem trimT_zero (a : List Int) : trimT (a ++ [0]) = trimT a := by simp [trimT]
theorem trimT_stop (a : List Int) {x : Int} (h : x ≠ 0) : trimT (a ++ [x]) = a ++ [x] := by simp [trimT, h]

def numA (r : Rg) (gs : List Int) (l : List Vc) : List Int := if hilCk r gs l = 0 then trimT (totU gs (ldsT r gs.length l) gs.length) else []

theorem Numerator_pure (r : Rg) (gs : List Int) (l : List Vc) (hgl : gs.length ≤ 4611686018427387904) (hl : l.length ≤ 4611686018427387904) (hv : ∀ v ∈ l, v.length ≤ 4611686018427387904 ∧ ∀ f ∈ v, f.length ≤ 4611686018427387904) : Pure Tryz.prog 12 [rgD r, intsD gs, vcsD l] (.tup [intsD (numA r gs l), I (hilCk r gs l)]) := by
  intro H
  refine PureH.of_body Tryz.func12 rfl (by decide) (Nat.le_of_ble_eq_true rfl) fun w0 => ?_
  unfold numA
  (repeat (first | refine RO.Sv ?_ | refine RO.Yv ?_ | refine RO.no rfl (by decide) rfl ?_ | refine RO.nil ?_ | refine DW.region ?_ | refine DW.seq ?_ | refine DW.block ?_ | refine DW.skip ?_ | refine DW.exit ?_ | refine DW.condT rfl ?_ | refine DW.condF rfl ?_))
  refine RO.sta (sta_call rfl rfl (hilCheck_pure r gs l hgl hl hv _)) rfl ?_
  (repeat (first | refine RO.Sv ?_ | refine RO.Yv ?_ | refine RO.no rfl (by decide) rfl ?_ | refine RO.nil ?_ | refine DW.region ?_ | refine DW.seq ?_ | refine DW.block ?_ | refine DW.skip ?_ | refine DW.exit ?_ | refine DW.condT rfl ?_ | refine DW.condF rfl ?_))
  by_cases hck : hilCk r gs l = 0
  case neg =>
    rw [if_neg hck, show (hilCk r gs l != 0) = true by simpa using hck]
    (repeat (first | refine RO.Sv ?_ | refine RO.Yv ?_ | refine RO.no rfl (by decide) rfl ?_ | refine RO.nil ?_ | refine DW.region ?_ | refine DW.seq ?_ | refine DW.block ?_ | refine DW.skip ?_ | refine DW.exit ?_ | refine DW.condT rfl ?_ | refine DW.condF rfl ?_))
    exact DW.ret ⟨.inl rfl, _, rfl, Over.refl _, .tup2 (.nil 1) (.same _)⟩
  rw [if_pos hck, show (hilCk r gs l != 0) = false by simpa using hck]
  obtain ⟨hlst, hk1⟩ := hil_lst hck
  obtain ⟨_, hgs, _⟩ := hilCk_ok hck
  have hk3 := hlst.k3
  have hlds := ldsT_ok hlst
  have hkl := hlds.len
  (repeat (first | refine RO.Sv ?_ | refine RO.Yv ?_ | refine RO.no rfl (by decide) rfl ?_ | refine RO.nil ?_ | refine DW.region ?_ | refine DW.seq ?_ | refine DW.block ?_ | refine DW.skip ?_ | refine DW.exit ?_ | refine DW.condT rfl ?_ | refine DW.condF rfl ?_))
  refine RO.sta (sta_call rfl rfl (leads_pure hlst _)) rfl ?_
  rw [show leadsT gs.length (rawL r gs.length l) = ldsT r gs.length l from rfl, hck]
  generalize hls : ldsT r gs.length l = ls at *
  (repeat (first | refine RO.Sv ?_ | refine RO.Yv ?_ | refine RO.no rfl (by decide) rfl ?_ | refine RO.nil ?_ | refine DW.region ?_ | refine DW.seq ?_ | refine DW.block ?_ | refine DW.skip ?_ | refine DW.exit ?_ | refine DW.condT rfl ?_ | refine DW.condF rfl ?_))
  refine DW.loopG (fun z : Nat × D => z.1 ≤ ls.length ∧ ((z.2 = .nil ∧ z.1 = 0) ∨ z.2 = intsD (totU gs ls z.1))) (fun z => [(1, intsD gs), (9, z.2), (23, leadsD ls), (24, I ls.length), (25, I z.1)]) (fun _ => H) (fun z => ls.length - z.1) (0, .nil)
    ⟨Nat.zero_le _, .inl ⟨rfl, rfl⟩⟩ (Heap.sub_refl _) (by repeat first | exact trivial | refine HasG.one rfl ?_ | refine HasN.one rfl ?_) fun ⟨i, di⟩ ⟨hi, hdi⟩ => ?_
  dsimp only at hi hdi ⊢
  (repeat (first | refine RO.Sv ?_ | refine RO.Yv ?_ | refine RO.no rfl (by decide) rfl ?_ | refine RO.nil ?_ | refine DW.region ?_ | refine DW.seq ?_ | refine DW.block ?_ | refine DW.skip ?_ | refine DW.exit ?_ | refine DW.condT rfl ?_ | refine DW.condF rfl ?_))
  refine DW.cond rfl (fun hb => ?_) (fun hb => ?_)
  · have hlt : i < ls.length := by have := of_decide_eq_true hb; omega
    clear hb
    have hlg : i < gs.length := by omega
    obtain ⟨he1, he2⟩ := hlds.each i hlt
    have htl := totU_len hlds hgs i (by omega)
    have hnl := numT_len he2
    have hgi := hgs _ (List.getElem_mem hlg)
    have hfar : I gs[i] = I ((gs[i].toNat : Nat) : Int) := by rw [show ((gs[i].toNat : Nat) : Int) = gs[i] by omega]
    have hnum := fun H' => numerator_pure (n := r.n.toNat) ls[i].length ls[i] (Nat.le_refl _) (by omega) he2 H'
    have hplus : ∀ H', PureH Tryz.prog H' 30 [di, intsD (numT ls[i]), I 1, I ((gs[i].toNat : Nat) : Int)] (intsD (totU gs ls (i + 1))) := fun H' => by
      have e : totU gs ls (i + 1) = plusT (totU gs ls i) (numT ls[i]) 1 gs[i].toNat := by
        show plusT (totU gs ls i) (numT (ls.getD i [])) 1 (gs.getD i 0).toNat = _
        rw [getD_lt hlt, getD_lt hlg]
      rw [e]
      have hp := plus_pure (a := totU gs ls i) (b := numT ls[i]) 1 gs[i].toNat (by omega) (by omega) (by omega) H'
      rcases hdi with ⟨rfl, rfl⟩ | rfl
      · exact PureH.nilAt 0 1 hp rfl
      · exact hp
    (repeat (first | refine RO.Sv ?_ | refine RO.Yv ?_ | refine RO.no rfl (by decide) rfl ?_ | refine RO.nil ?_ | refine DW.region ?_ | refine DW.seq ?_ | refine DW.block ?_ | refine DW.skip ?_ | refine DW.exit ?_ | refine DW.condT rfl ?_ | refine DW.condF rfl ?_))
    refine DW.drawS 8 Tryz.mixed (by kernel_rfl) (by decide) ?_
    dsimp only [List.take, List.drop]
    (repeat (first | refine RS.Sv ?_ | refine RS.Yv ?_ | refine RS.no rfl (by decide) rfl ?_ | refine RS.nil ?_))
    refine RS.sta (fun H' hov => sta_call rfl rfl (hnum H')) rfl ?_
    (repeat (first | refine RS.Sv ?_ | refine RS.Yv ?_ | refine RS.no rfl (by decide) rfl ?_ | refine RS.nil ?_))
    rw [hfar]
    refine RS.sta (fun H' hov => sta_call rfl rfl (hplus H')) rfl ?_
    (repeat (first | refine RS.Sv ?_ | refine RS.Yv ?_ | refine RS.no rfl (by decide) rfl ?_ | refine RS.nil ?_))
    (repeat (first | refine RO.Sv ?_ | refine RO.Yv ?_ | refine RO.no rfl (by decide) rfl ?_ | refine RO.nil ?_ | refine DW.region ?_ | refine DW.seq ?_ | refine DW.block ?_ | refine DW.skip ?_ | refine DW.exit ?_ | refine DW.condT rfl ?_ | refine DW.condF rfl ?_))
    exact ⟨(i + 1, intsD (totU gs ls (i + 1))), ⟨hlt, .inr rfl⟩, by dsimp only; omega, Heap.sub_refl _, (by repeat first | exact trivial | refine HasG.one rfl ?_ | refine HasN.one rfl ?_)⟩
  · have hie : i = ls.length := by have := of_decide_eq_false hb; omega
    subst hie
    clear hb
    have hdi2 : di = intsD (totU gs ls ls.length) := hdi.resolve_left fun h => by omega
    subst hdi2
    have htl := totU_len hlds hgs ls.length (by omega)
    rw [← hkl]
    generalize hU : totU gs ls ls.length = U at *
    (repeat (first | refine RO.Sv ?_ | refine RO.Yv ?_ | refine RO.no rfl (by decide) rfl ?_ | refine RO.nil ?_ | refine DW.region ?_ | refine DW.seq ?_ | refine DW.block ?_ | refine DW.skip ?_ | refine DW.exit ?_ | refine DW.condT rfl ?_ | refine DW.condF rfl ?_))
    refine DW.loopG (fun a : List Int => trimT a = trimT U ∧ a.length ≤ U.length) (fun a => [(9, intsD a)]) (fun _ => H) (fun a => a.length) U ⟨rfl, Nat.le_refl _⟩ (Heap.sub_refl _) (by repeat first | exact trivial | refine HasG.one rfl ?_ | refine HasN.one rfl ?_) fun a ⟨ha, hal⟩ => ?_

    rcases List.eq_nil_or_concat a with rfl | ⟨a', x, rfl⟩
    · have h0 : trimT U = [] := by rw [← ha]; rfl
      rw [h0]
      (repeat (first | refine RO.Sv ?_ | refine RO.Yv ?_ | refine RO.no rfl (by decide) rfl ?_ | refine RO.nil ?_ | refine DW.region ?_ | refine DW.seq ?_ | refine DW.block ?_ | refine DW.skip ?_ | refine DW.exit ?_ | refine DW.condT rfl ?_ | refine DW.condF rfl ?_))
      exact DW.ret ⟨.inl rfl, _, rfl, Over.refl _, .same _⟩
    · rw [List.concat_eq_append] at ha hal ⊢
      have hlen : (a' ++ [x]).length = a'.length + 1 := by simp
      have hz : ((a' ++ [x]).length : Int) - 1 = a'.length := by rw [hlen]; omega
      have hpos : decide ((0 : Int) < ((a' ++ [x]).length : Int)) = true := by rw [hlen]; simp
      have hs : (((a' ++ [x]).map I).take a'.length).drop 0 = a'.map I := by simp
      (repeat (first | refine RO.Sv ?_ | refine RO.Yv ?_ | refine RO.no rfl (by decide) rfl ?_ | refine RO.nil ?_ | refine DW.region ?_ | refine DW.seq ?_ | refine DW.block ?_ | refine DW.skip ?_ | refine DW.exit ?_ | refine DW.condT rfl ?_ | refine DW.condF rfl ?_))
      rw [hpos]
      (repeat (first | refine RO.Sv ?_ | refine RO.Yv ?_ | refine RO.no rfl (by decide) rfl ?_ | refine RO.nil ?_ | refine DW.region ?_ | refine DW.seq ?_ | refine DW.block ?_ | refine DW.skip ?_ | refine DW.exit ?_ | refine DW.condT rfl ?_ | refine DW.condF rfl ?_))
      rw [hz]
      refine RO.yes rfl rfl (OpD.of_sta (s_index (i := a'.length) rfl rfl (by simp)) ?_)
      refine RO.yes rfl rfl (OpD.of_sta (s_load (d := I x) rfl (by simp [cellAt, cellsOf])) ?_)
      by_cases hx : x = 0
      · subst hx
        rw [trimT_zero] at ha
        (repeat (first | refine RO.Sv ?_ | refine RO.Yv ?_ | refine RO.no rfl (by decide) rfl ?_ | refine RO.nil ?_ | refine DW.region ?_ | refine DW.seq ?_ | refine DW.block ?_ | refine DW.skip ?_ | refine DW.exit ?_ | refine DW.condT rfl ?_ | refine DW.condF rfl ?_))
        rw [hz]
        refine RO.sta (s_slice (a := 0) (b := a'.length) rfl rfl (boundD_eq rfl rfl) (Nat.zero_le _) (by simp)) rfl ?_
        rw [hs]
        (repeat (first | refine RO.Sv ?_ | refine RO.Yv ?_ | refine RO.no rfl (by decide) rfl ?_ | refine RO.nil ?_ | refine DW.region ?_ | refine DW.seq ?_ | refine DW.block ?_ | refine DW.skip ?_ | refine DW.exit ?_ | refine DW.condT rfl ?_ | refine DW.condF rfl ?_))
        exact ⟨a', ⟨ha, by rw [hlen] at hal; omega⟩, by dsimp only; rw [hlen]; omega, Heap.sub_refl _, (by repeat first | exact trivial | refine HasG.one rfl ?_ | refine HasN.one rfl ?_)⟩
      · rw [trimT_stop a' hx] at ha
        rw [← ha]
        have hxb : (x == 0) = false := by simpa using hx
        (repeat (first | refine RO.Sv ?_ | refine RO.Yv ?_ | refine RO.no rfl (by decide) rfl ?_ | refine RO.nil ?_ | refine DW.region ?_ | refine DW.seq ?_ | refine DW.block ?_ | refine DW.skip ?_ | refine DW.exit ?_ | refine DW.condT rfl ?_ | refine DW.condF rfl ?_))
        rw [hxb]
        (repeat (first | refine RO.Sv ?_ | refine RO.Yv ?_ | refine RO.no rfl (by decide) rfl ?_ | refine RO.nil ?_ | refine DW.region ?_ | refine DW.seq ?_ | refine DW.block ?_ | refine DW.skip ?_ | refine DW.exit ?_ | refine DW.condT rfl ?_ | refine DW.condF rfl ?_))
        exact DW.ret ⟨.inl rfl, _, rfl, Over.refl _, .same _⟩

end Go.Proofs.YtfjmdhemlfafbaaGreat

namespace Go.Proofs.YtfjmdhemlfafbaaGreat
open Go.RowKit
set_option maxHeartbeats 8000000

theorem Goes_ref {H : Heap} {b0 : Nat} {a b : List Int} (hH : H b0 = some (3, intCells a)) (hab : a.length = b.length) (hl : a.length ≤ 1000000) : PureH Tryz.prog H 17 [.ref b0 0 a.length 1, intsD b] (.bool (goesM a b)) := by
  refine PureH.of_body Tryz.func17 rfl (by decide) (Nat.le_of_ble_eq_true rfl) fun w0 => ?_
  (repeat (first | refine RO.S ?_ | refine RO.Y ?_ | refine RO.no rfl (by decide) rfl ?_ | refine RO.nil ?_ | refine DW.region ?_ | refine DW.seq ?_ | refine DW.block ?_ | refine DW.skip ?_ | refine DW.exit ?_ | refine DW.condT rfl ?_ | refine DW.condF rfl ?_))
  refine DW.loopI (fun k : Nat => k ≤ a.length ∧ goesM (a.drop k) (b.drop k) = goesM a b) (fun k => [(0, .ref b0 0 a.length 1), (1, intsD b), (6, .ref b0 0 a.length 1), (7, I a.length), (8, I k)]) (fun _ => H) (fun k => a.length - k) 0 ⟨Nat.zero_le _, rfl⟩ rfl ⟨rfl, rfl, rfl, rfl, rfl, trivial⟩ fun k ⟨hk, hg⟩ => ?_
  (repeat (first | refine RO.S ?_ | refine RO.Y ?_ | refine RO.no rfl (by decide) rfl ?_ | refine RO.nil ?_ | refine DW.region ?_ | refine DW.seq ?_ | refine DW.block ?_ | refine DW.skip ?_ | refine DW.exit ?_ | refine DW.condT rfl ?_ | refine DW.condF rfl ?_))
  refine DW.cond rfl (fun hb => ?_) (fun hb => ?_)
  · have hlt : k < a.length := by have := of_decide_eq_true hb; omega
    have hlt2 : k < b.length := by omega
    rw [goesM_drop hlt hlt2] at hg
    (repeat (first | refine RO.S ?_ | refine RO.Y ?_ | refine RO.no rfl (by decide) rfl ?_ | refine RO.nil ?_ | refine DW.region ?_ | refine DW.seq ?_ | refine DW.block ?_ | refine DW.skip ?_ | refine DW.exit ?_ | refine DW.condT rfl ?_ | refine DW.condF rfl ?_))
    refine DW.drawS 9 Tryz.mixed (by kernel_rfl) (by decide) ?_
    dsimp only [List.take, List.drop]
    (repeat (first | refine RS.S ?_ | refine RS.Y ?_ | refine RS.no rfl (by decide) rfl ?_ | refine RS.nil ?_))
    refine RS.sta (fun H' hov => s_indexRef (i := k) rfl rfl hlt) rfl ?_
    refine RS.sta (fun H' hov => s_loadMut (off := 0 + k * 1) (d := I a[k]) rfl (hov _ _ hH) (by rw [show 0 + k * 1 = k by omega]; exact intCells_get hlt)) rfl ?_
    (repeat (first | refine RS.S ?_ | refine RS.Y ?_ | refine RS.no rfl (by decide) rfl ?_ | refine RS.nil ?_))
    (repeat (first | refine RO.S ?_ | refine RO.Y ?_ | refine RO.no rfl (by decide) rfl ?_ | refine RO.nil ?_ | refine DW.region ?_ | refine DW.seq ?_ | refine DW.block ?_ | refine DW.skip ?_ | refine DW.exit ?_ | refine DW.condT rfl ?_ | refine DW.condF rfl ?_))
    refine DW.cond rfl (fun hb => ?_) (fun hb => ?_)
    · have hc : b[k] > a[k] := of_decide_eq_true hb
      rw [if_pos hc] at hg
      rw [← hg]
      (repeat (first | refine RO.S ?_ | refine RO.Y ?_ | refine RO.no rfl (by decide) rfl ?_ | refine RO.nil ?_ | refine DW.region ?_ | refine DW.seq ?_ | refine DW.block ?_ | refine DW.skip ?_ | refine DW.exit ?_ | refine DW.condT rfl ?_ | refine DW.condF rfl ?_))
      exact DW.ret ⟨.inl rfl, _, rfl, Over.refl _, .same _⟩
    · have hc : ¬ b[k] > a[k] := of_decide_eq_false hb
      rw [if_neg hc] at hg
      (repeat (first | refine RO.S ?_ | refine RO.Y ?_ | refine RO.no rfl (by decide) rfl ?_ | refine RO.nil ?_ | refine DW.region ?_ | refine DW.seq ?_ | refine DW.block ?_ | refine DW.skip ?_ | refine DW.exit ?_ | refine DW.condT rfl ?_ | refine DW.condF rfl ?_))
      exact ⟨k + 1, ⟨hlt, hg⟩, by dsimp only; omega, rfl, rfl, rfl, rfl, rfl, rfl, trivial⟩
  · have hge : k = a.length := by have := of_decide_eq_false hb; omega
    subst hge
    have : goesM a b = true := by rw [← hg]; simp [goesM]
    rw [this]
    (repeat (first | refine RO.S ?_ | refine RO.Y ?_ | refine RO.no rfl (by decide) rfl ?_ | refine RO.nil ?_ | refine DW.region ?_ | refine DW.seq ?_ | refine DW.block ?_ | refine DW.skip ?_ | refine DW.exit ?_ | refine DW.condT rfl ?_ | refine DW.condF rfl ?_))
    exact DW.ret ⟨.inl rfl, _, rfl, Over.refl _, .same _⟩

theorem wrap64_succ (x : Int) : wrap64 (wrap64 x + 1) = wrap64 (x + 1) := by
  unfold wrap64
  omega

theorem wrap64_small {x : Int} (h0 : 0 ≤ x) (h1 : x ≤ 9000000000000000000) : wrap64 x = x := by
  unfold wrap64
  omega

theorem goesC_pure {H : Heap} {b0 b1 : Nat} {a x : List Int} (hH : H b0 = some (3, intCells a)) (hB : H b1 = some (24, [.ref b0 0 a.length 1])) (hab : a.length = x.length) (hl : a.length ≤ 1000000) : PureH Tryz.prog H 16 [intsD x, .ptr b1 0] (.bool (goesM a x)) := by
  refine PureH.of_body Tryz.func16 rfl (by decide) (Nat.le_of_ble_eq_true rfl) fun w0 => ?_
  (repeat (first | refine RO.Sv ?_ | refine RO.Yv ?_ | refine RO.no rfl (by decide) rfl ?_ | refine RO.nil ?_ | refine DW.region ?_ | refine DW.seq ?_ | refine DW.block ?_ | refine DW.skip ?_ | refine DW.exit ?_ | refine DW.condT rfl ?_ | refine DW.condF rfl ?_))
  refine RO.sta (s_loadMut (d := .ref b0 0 a.length 1) rfl hB rfl) rfl ?_
  (repeat (first | refine RO.Sv ?_ | refine RO.Yv ?_ | refine RO.no rfl (by decide) rfl ?_ | refine RO.nil ?_ | refine DW.region ?_ | refine DW.seq ?_ | refine DW.block ?_ | refine DW.skip ?_ | refine DW.exit ?_ | refine DW.condT rfl ?_ | refine DW.condF rfl ?_))
  refine RO.sta (sta_call rfl rfl (Goes_ref hH hab hl)) rfl ?_
  (repeat (first | refine RO.Sv ?_ | refine RO.Yv ?_ | refine RO.no rfl (by decide) rfl ?_ | refine RO.nil ?_ | refine DW.region ?_ | refine DW.seq ?_ | refine DW.block ?_ | refine DW.skip ?_ | refine DW.exit ?_ | refine DW.condT rfl ?_ | refine DW.condF rfl ?_))
  exact DW.ret ⟨.inl rfl, _, rfl, Over.refl _, .same _⟩

def cntU (n : Nat) (gs : List Int) (ls : List (List (List Int))) (d : Int) : Nat → Nat
  | 0 => 0
  | i + 1 => cntU n gs ls d i + cntO n (ls.getD i []) (d - gs.getD i 0)

def cntC (r : Rg) (gs : List Int) (l : List Vc) (d : Int) : Int := if hilCk r gs l = 0 then (if d < 0 ∨ 12 < d then 3 else 0) else hilCk r gs l
def cntA (r : Rg) (gs : List Int) (l : List Vc) (d : Int) : Int := if cntC r gs l d = 0 then cntU r.n.toNat gs (ldsT r gs.length l) d gs.length else 0

theorem cntU_le {n : Nat} {gs : List Int} {ls : List (List (List Int))} {d : Int} (hn : n ≤ 3) (hg : ∀ g ∈ gs, 0 ≤ g ∧ g ≤ 6) (hd : d ≤ 12) (i : Nat) (hi : i ≤ 3) : cntU n gs ls d i ≤ 1030301 * i := by
  induction i with
  | zero => simp [cntU]
  | succ i ih =>
    have h1 := ih (by omega)
    have h2 := cntO_le n (ls.getD i []) (d - gs.getD i 0)
    have h3 : 0 ≤ gs.getD i 0 := by
      rw [List.getD_eq_getElem?_getD]
      cases hx : gs[i]? with
      | none => simp
      | some g => exact (hg g (List.mem_of_getElem? hx)).1
    have h4 := frN_le (n := n) (d := d - gs.getD i 0) hn (by omega)
    show cntU n gs ls d i + cntO n (ls.getD i []) (d - gs.getD i 0) ≤ _
    omega

theorem Count_pure (r : Rg) (gs : List Int) (l : List Vc) (d : Int) (hgl : gs.length ≤ 4611686018427387904) (hl : l.length ≤ 4611686018427387904) (hv : ∀ v ∈ l, v.length ≤ 4611686018427387904 ∧ ∀ f ∈ v, f.length ≤ 4611686018427387904) : Pure Tryz.prog 5 [rgD r, intsD gs, vcsD l, I d] (.tup [I (cntA r gs l d), I (cntC r gs l d)]) := by
  intro H
  refine PureH.of_body Tryz.func5 rfl (by decide) (Nat.le_of_ble_eq_true rfl) fun w0 => ?_
  unfold cntA
  (repeat (first | refine RO.Sv ?_ | refine RO.Yv ?_ | refine RO.no rfl (by decide) rfl ?_ | refine RO.nil ?_ | refine DW.region ?_ | refine DW.seq ?_ | refine DW.block ?_ | refine DW.skip ?_ | refine DW.exit ?_ | refine DW.condT rfl ?_ | refine DW.condF rfl ?_))
  refine RO.sta (sta_call rfl rfl (hilCheck_pure r gs l hgl hl hv _)) rfl ?_
  (repeat (first | refine RO.Sv ?_ | refine RO.Yv ?_ | refine RO.no rfl (by decide) rfl ?_ | refine RO.nil ?_ | refine DW.region ?_ | refine DW.seq ?_ | refine DW.block ?_ | refine DW.skip ?_ | refine DW.exit ?_ | refine DW.condT rfl ?_ | refine DW.condF rfl ?_))
  by_cases hck : hilCk r gs l = 0
  case neg =>
    have hcc : cntC r gs l d = hilCk r gs l := by unfold cntC; rw [if_neg hck]
    rw [hcc, if_neg hck, show (hilCk r gs l != 0) = true by simpa using hck]
    (repeat (first | refine RO.Sv ?_ | refine RO.Yv ?_ | refine RO.no rfl (by decide) rfl ?_ | refine RO.nil ?_ | refine DW.region ?_ | refine DW.seq ?_ | refine DW.block ?_ | refine DW.skip ?_ | refine DW.exit ?_ | refine DW.condT rfl ?_ | refine DW.condF rfl ?_))
    exact DW.ret ⟨.inl rfl, _, rfl, Over.refl _, .same _⟩
  have hcc : cntC r gs l d = if d < 0 ∨ 12 < d then 3 else 0 := by unfold cntC; rw [if_pos hck]
  rw [show (hilCk r gs l != 0) = false by simpa using hck]
  (repeat (first | refine RO.Sv ?_ | refine RO.Yv ?_ | refine RO.no rfl (by decide) rfl ?_ | refine RO.nil ?_ | refine DW.region ?_ | refine DW.seq ?_ | refine DW.block ?_ | refine DW.skip ?_ | refine DW.exit ?_ | refine DW.condT rfl ?_ | refine DW.condF rfl ?_))
  cases h1 : decide (d < 0)
  case true =>
    have hc3 : cntC r gs l d = 3 := by rw [hcc, if_pos (.inl (of_decide_eq_true h1))]
    rw [hc3, if_neg (by decide)]
    (repeat (first | refine RO.Sv ?_ | refine RO.Yv ?_ | refine RO.no rfl (by decide) rfl ?_ | refine RO.nil ?_ | refine DW.region ?_ | refine DW.seq ?_ | refine DW.block ?_ | refine DW.skip ?_ | refine DW.exit ?_ | refine DW.condT rfl ?_ | refine DW.condF rfl ?_))
    exact DW.ret ⟨.inl rfl, _, rfl, Over.refl _, .same _⟩
  (repeat (first | refine RO.Sv ?_ | refine RO.Yv ?_ | refine RO.no rfl (by decide) rfl ?_ | refine RO.nil ?_ | refine DW.region ?_ | refine DW.seq ?_ | refine DW.block ?_ | refine DW.skip ?_ | refine DW.exit ?_ | refine DW.condT rfl ?_ | refine DW.condF rfl ?_))
  cases h2 : decide (12 < d)
  case true =>
    have hc3 : cntC r gs l d = 3 := by rw [hcc, if_pos (.inr (of_decide_eq_true h2))]
    rw [hc3, if_neg (by decide)]
    (repeat (first | refine RO.Sv ?_ | refine RO.Yv ?_ | refine RO.no rfl (by decide) rfl ?_ | refine RO.nil ?_ | refine DW.region ?_ | refine DW.seq ?_ | refine DW.block ?_ | refine DW.skip ?_ | refine DW.exit ?_ | refine DW.condT rfl ?_ | refine DW.condF rfl ?_))
    exact DW.ret ⟨.inl rfl, _, rfl, Over.refl _, .same _⟩
  have g1 := of_decide_eq_false h1
  have g2 := of_decide_eq_false h2
  have hc0 : cntC r gs l d = 0 := by rw [hcc, if_neg (by omega)]
  rw [hc0, if_pos rfl]
  obtain ⟨hlst, hk1⟩ := hil_lst hck
  obtain ⟨_, hgs, _⟩ := hilCk_ok hck
  have hk3 := hlst.k3
  have hlds := ldsT_ok hlst
  have hkl := hlds.len
  obtain ⟨hp2, hn3, hn1, hpr, hckp⟩ := hlst.cx.rg
  (repeat (first | refine RO.Sv ?_ | refine RO.Yv ?_ | refine RO.no rfl (by decide) rfl ?_ | refine RO.nil ?_ | refine DW.region ?_ | refine DW.seq ?_ | refine DW.block ?_ | refine DW.skip ?_ | refine DW.exit ?_ | refine DW.condT rfl ?_ | refine DW.condF rfl ?_))
  refine RO.dyn rfl (d_alloc fun bN hbN => ?_)
  (repeat (first | refine RO.Sv ?_ | refine RO.Yv ?_ | refine RO.no rfl (by decide) rfl ?_ | refine RO.nil ?_ | refine DW.region ?_ | refine DW.seq ?_ | refine DW.block ?_ | refine DW.skip ?_ | refine DW.exit ?_ | refine DW.condT rfl ?_ | refine DW.condF rfl ?_))
  refine RO.dyn rfl (d_store (k := 1) rfl rfl rfl (Heap.set_self _ _ _) (Nat.le_refl _) (by simp [cellsOf, D.isCell]) ?_)
  rw [Heap.set_set]
  (repeat (first | refine RO.Sv ?_ | refine RO.Yv ?_ | refine RO.no rfl (by decide) rfl ?_ | refine RO.nil ?_ | refine DW.region ?_ | refine DW.seq ?_ | refine DW.block ?_ | refine DW.skip ?_ | refine DW.exit ?_ | refine DW.condT rfl ?_ | refine DW.condF rfl ?_))
  refine RO.sta (sta_call rfl rfl (leads_pure hlst _)) rfl ?_
  rw [show leadsT gs.length (rawL r gs.length l) = ldsT r gs.length l from rfl]
  generalize hls : ldsT r gs.length l = ls at *
  (repeat (first | refine RO.Sv ?_ | refine RO.Yv ?_ | refine RO.no rfl (by decide) rfl ?_ | refine RO.nil ?_ | refine DW.region ?_ | refine DW.seq ?_ | refine DW.block ?_ | refine DW.skip ?_ | refine DW.exit ?_ | refine DW.condT rfl ?_ | refine DW.condF rfl ?_))
  refine DW.loopG (fun z : Nat × Heap => z.1 ≤ ls.length ∧ Over H z.2 ∧ z.2 bN = some (3, [I (cntU r.n.toNat gs ls d z.1)])) (fun z => [(1, intsD gs), (3, I d), (4, .ipt 4 [rgD r] 0 0), (11, .ptr bN 0), (32, leadsD ls), (33, I ls.length), (34, I z.1)]) (fun z => z.2) (fun z => ls.length - z.1) (0, H.set bN (3, [I 0]))
    ⟨Nat.zero_le _, (Over.refl H).set hbN, Heap.set_self _ _ _⟩ (Heap.sub_refl _) (by repeat first | exact trivial | refine HasG.one rfl ?_ | refine HasN.one rfl ?_) fun ⟨i, Hi⟩ ⟨hi, hov, hbi⟩ => ?_
  dsimp only at hi hov hbi ⊢
  (repeat (first | refine RO.Sv ?_ | refine RO.Yv ?_ | refine RO.no rfl (by decide) rfl ?_ | refine RO.nil ?_ | refine DW.region ?_ | refine DW.seq ?_ | refine DW.block ?_ | refine DW.skip ?_ | refine DW.exit ?_ | refine DW.condT rfl ?_ | refine DW.condF rfl ?_))
  refine DW.cond rfl (fun hb => ?_) (fun hb => ?_)
  · have hlt : i < ls.length := by have := of_decide_eq_true hb; omega
    clear hb
    have hlg : i < gs.length := by omega
    have hgi := hgs _ (List.getElem_mem hlg)
    obtain ⟨he1, he2⟩ := hlds.each i hlt
    (repeat (first | refine RO.Sv ?_ | refine RO.Yv ?_ | refine RO.no rfl (by decide) rfl ?_ | refine RO.nil ?_ | refine DW.region ?_ | refine DW.seq ?_ | refine DW.block ?_ | refine DW.skip ?_ | refine DW.exit ?_ | refine DW.condT rfl ?_ | refine DW.condF rfl ?_))
    refine RO.dyn rfl (d_alloc fun bI hbI => ?_)
    (repeat (first | refine RO.Sv ?_ | refine RO.Yv ?_ | refine RO.no rfl (by decide) rfl ?_ | refine RO.nil ?_ | refine DW.region ?_ | refine DW.seq ?_ | refine DW.block ?_ | refine DW.skip ?_ | refine DW.exit ?_ | refine DW.condT rfl ?_ | refine DW.condF rfl ?_))
    refine RO.dyn rfl (d_store (k := 1) rfl rfl rfl (Heap.set_self _ _ _) (Nat.le_refl _) (by simp [cellsOf, D.isCell]) ?_)
    rw [Heap.set_set]
    have hset1 : setMany ([.nil] : List D) 0 (cellsOf (D.list 1 (ls[i].map intsD))) = [intssD ls[i]] := rfl
    rw [hset1]
    have hNI : bN ≠ bI := fun e => by rw [e, hbI] at hbi; cases hbi
    have hn1' : r.n = ((r.n.toNat : Nat) : Int) := by omega
    (repeat (first | refine RO.Sv ?_ | refine RO.Yv ?_ | refine RO.no rfl (by decide) rfl ?_ | refine RO.nil ?_ | refine DW.region ?_ | refine DW.seq ?_ | refine DW.block ?_ | refine DW.skip ?_ | refine DW.exit ?_ | refine DW.condT rfl ?_ | refine DW.condF rfl ?_))
    refine DW.drawS 9 Tryz.mixed (by kernel_rfl) (by decide) ?_
    dsimp only [List.take, List.drop]
    (repeat (first | refine RS.Sv ?_ | refine RS.Yv ?_ | refine RS.no rfl (by decide) rfl ?_ | refine RS.nil ?_))
    have hmon : ∀ H', PureH Tryz.prog H' 14 [I r.n, I (d - gs[i])] (.fn 33 [.ipt 1 [I r.n] 0 0, .ipt 1 [I (d - gs[i])] 0 0]) := fun H' => monomials_pure _ _ H'
    refine RS.sta (fun H' hov => sta_call rfl rfl (hmon H')) rfl ?_
    (repeat (first | refine RS.Sv ?_ | refine RS.Yv ?_ | refine RS.no rfl (by decide) rfl ?_ | refine RS.nil ?_))
    (repeat (first | refine RO.Sv ?_ | refine RO.Yv ?_ | refine RO.no rfl (by decide) rfl ?_ | refine RO.nil ?_ | refine DW.region ?_ | refine DW.seq ?_ | refine DW.block ?_ | refine DW.skip ?_ | refine DW.exit ?_ | refine DW.condT rfl ?_ | refine DW.condF rfl ?_))
    have hcl : cntU r.n.toNat gs ls d (i + 1) = cntU r.n.toNat gs ls d i + cntO r.n.toNat ls[i] (d - gs[i]) := by
      show cntU r.n.toNat gs ls d i + cntO r.n.toNat (ls.getD i []) (d - gs.getD i 0) = _
      rw [getD_lt hlt, getD_lt hlg]
    have hcb := cntU_le (n := r.n.toNat) (ls := ls) hn3 hgs (by omega : d ≤ 12) (i + 1) (by omega)
    rw [hn1']
    refine DW.monos (n := r.n.toNat) (d := d - gs[i]) rfl (by omega) (by omega) (by decide) (fun pre Hk => Over H Hk ∧ Hk bN = some (3, [I (wrap64 ((cntU r.n.toNat gs ls d i : Nat) + (pre.filter (outM ls[i])).length))]) ∧ Hk bI = some (32, [intssD ls[i]])) ⟨?_, ?_, Heap.set_self _ _ _⟩ (fun pre x Hk b rr ⟨ho, h6, h7⟩ hxl hkb w1 H1 => ?_) fun Hk ⟨ho, h6, h7⟩ => ?_
    · exact fun c z hc => by
        have hcI : c ≠ bI := fun e => by
          have := hov c z hc
          rw [e, hbI] at this
          cases this
        rw [Heap.set_other _ _ hcI]
        exact hov c z hc
    · rw [Heap.set_other _ _ hNI, hbi]
      have hw : wrap64 (((cntU r.n.toNat gs ls d i : Nat) : Int) + ((([] : List (List Int)).filter (outM ls[i])).length : Nat)) = cntU r.n.toNat gs ls d i := by
        rw [List.filter_nil, List.length_nil, wrap64_small (by omega) (by omega)]
        omega
      rw [hw]
    · have hNb : bN ≠ b := fun e => by rw [e, hkb] at h6; cases h6
      have hIb : bI ≠ b := fun e => by rw [e, hkb] at h7; cases h7
      refine DR.region rfl ?_
      refine RO.dyn rfl (d_alloc fun bX hbX => ?_)
      refine RO.dyn rfl (d_store (k := 1) rfl rfl rfl (Heap.set_self _ _ _) (Nat.le_refl _) (by simp [cellsOf, D.isCell]) ?_)
      rw [Heap.set_set]
      refine RO.nil ⟨rfl, fun w2 H2 => ?_⟩
      rw [show setMany ([.nil] : List D) 0 (cellsOf (D.ref b 0 r.n.toNat 1)) = [.ref b 0 r.n.toNat 1] from rfl]
      have hbXb : bX ≠ b := fun e => by rw [e, Heap.set_self] at hbX; cases hbX
      rw [Heap.set_other _ _ hbXb] at hbX
      have hXN : bX ≠ bN := fun e => by rw [e, h6] at hbX; cases hbX
      have hXI : bX ≠ bI := fun e => by rw [e, h7] at hbX; cases hbX
      generalize hH3 : Heap.set (Hk.set b (3, intCells x)) bX (24, [.ref b 0 r.n.toNat 1]) = H3
      have k1 : H3 b = some (3, intCells x) := by rw [← hH3, Heap.set_other _ _ hbXb.symm, Heap.set_self]
      have k2 : H3 bX = some (24, [.ref b 0 r.n.toNat 1]) := by rw [← hH3, Heap.set_self]
      have k3 : H3 bI = some (32, [intssD ls[i]]) := by rw [← hH3, Heap.set_other _ _ hXI.symm, Heap.set_other _ _ hIb]; exact h7
      have k4 : H3 bN = some (3, [I (wrap64 ((cntU r.n.toNat gs ls d i : Nat) + (pre.filter (outM ls[i])).length))]) := by rw [← hH3, Heap.set_other _ _ hXN.symm, Heap.set_other _ _ hNb]; exact h6
      have hcf := containsFunc_rows (H := H3) (f := 16) (caps := [.ptr bX 0]) ls[i] (fun y => goesM x y) (by omega) fun y hy => by
        have hyl := (he2 y hy).len
        have := goesC_pure (H := H3) (b0 := b) (b1 := bX) (a := x) (x := y) k1 (by rw [hxl]; exact k2) (by rw [hxl, hyl]) (by omega)
        exact this
      refine DR.block (DR.seq (DR.region rfl ?_))
      refine RO.sta (s_loadMut (d := intssD ls[i]) rfl k3 rfl) rfl ?_
      refine RO.sta (s_fn (ds := [.ptr bX 0]) rfl) rfl ?_
      refine RO.sta (sta_call rfl rfl hcf) rfl ?_
      refine RO.sta (sta_not rfl) rfl ?_
      refine RO.nil ?_
      refine DR.cond rfl (fun ht => DR.region rfl ?_) fun hf => DR.skip ⟨rfl, Hk, ⟨ho, ?_, h7⟩, hkb, fun c z hc => ?_⟩
      · have hout : outM ls[i] x = true := ht
        refine RO.sta (s_loadMut (d := I (wrap64 ((cntU r.n.toNat gs ls d i : Nat) + (pre.filter (outM ls[i])).length))) rfl k4 rfl) rfl ?_
        refine RO.sta (s_addW rfl rfl) rfl ?_
        refine RO.dyn rfl (d_store (k := 1) rfl rfl rfl k4 (Nat.le_refl _) (by simp [cellsOf, D.isCell]) ?_)
        have hw : wrap64 (wrap64 ((cntU r.n.toNat gs ls d i : Nat) + ((pre.filter (outM ls[i])).length : Nat)) + 1) = wrap64 ((cntU r.n.toNat gs ls d i : Nat) + (((pre ++ [x]).filter (outM ls[i])).length : Nat)) := by
          rw [List.filter_append, List.filter_cons, hout, if_pos rfl, List.filter_nil, List.length_append, List.length_singleton, wrap64_succ, Int.natCast_add, Int.add_assoc]
          rfl
        refine RO.nil ⟨rfl, Hk.set bN (3, [I (wrap64 ((cntU r.n.toNat gs ls d i : Nat) + (((pre ++ [x]).filter (outM ls[i])).length : Nat)))]), ⟨fun c z hc => ?_, Heap.set_self _ _ _, ?_⟩, ?_, fun c z hc => ?_⟩
        · have hcN : c ≠ bN := fun e => by rw [e, hbN] at hc; cases hc
          rw [Heap.set_other _ _ hcN]
          exact ho c z hc
        · rw [Heap.set_other _ _ hNI.symm]
          exact h7
        · rw [Heap.set_other _ _ hNb.symm]
          exact hkb
        · show (Heap.set H3 bN (3, [I (wrap64 (wrap64 ((cntU r.n.toNat gs ls d i : Nat) + ((pre.filter (outM ls[i])).length : Nat)) + 1))])) c = some z
          rw [hw]
          by_cases hcb : c = b
          · subst hcb
            rw [Heap.set_self] at hc
            rw [Heap.set_other _ _ hNb.symm, k1]
            exact hc
          · rw [Heap.set_other _ _ hcb] at hc
            by_cases hcN : c = bN
            · subst hcN
              rw [Heap.set_self] at hc ⊢
              exact hc
            · rw [Heap.set_other _ _ hcN] at hc
              have hcX : c ≠ bX := fun e => by rw [e, hbX] at hc; cases hc
              rw [Heap.set_other _ _ hcN, ← hH3, Heap.set_other _ _ hcX, Heap.set_other _ _ hcb]
              exact hc
      · have hout : outM ls[i] x = false := hf
        rw [List.filter_append, List.filter_cons, hout, if_neg (by decide), List.filter_nil, List.append_nil]
        exact h6
      · by_cases hcb : c = b
        · subst hcb
          rw [Heap.set_self] at hc
          rw [k1]
          exact hc
        · rw [Heap.set_other _ _ hcb] at hc
          have hcX : c ≠ bX := fun e => by rw [e, hbX] at hc; cases hc
          rw [← hH3, Heap.set_other _ _ hcX, Heap.set_other _ _ hcb]
          exact hc
    · have hlast : wrap64 (((cntU r.n.toNat gs ls d i : Nat) : Int) + (((monZ r.n.toNat (d - gs[i])).filter (outM ls[i])).length : Nat)) = (cntU r.n.toNat gs ls d (i + 1) : Nat) := by
        have e : ((monZ r.n.toNat (d - gs[i])).filter (outM ls[i])).length = cntO r.n.toNat ls[i] (d - gs[i]) := rfl
        rw [e, hcl, wrap64_small (by omega) (by omega), Int.natCast_add]
      rw [hlast] at h6
      (repeat (first | refine RO.Sv ?_ | refine RO.Yv ?_ | refine RO.no rfl (by decide) rfl ?_ | refine RO.nil ?_ | refine DW.region ?_ | refine DW.seq ?_ | refine DW.block ?_ | refine DW.skip ?_ | refine DW.exit ?_ | refine DW.condT rfl ?_ | refine DW.condF rfl ?_))
      exact ⟨(i + 1, Hk), ⟨hlt, ho, h6⟩, by dsimp only; omega, Heap.sub_refl _, (by repeat first | exact trivial | refine HasG.one rfl ?_ | refine HasN.one rfl ?_)⟩
  · have hie : i = ls.length := by have := of_decide_eq_false hb; omega
    subst hie
    clear hb
    rw [← hkl]
    refine DW.exit ?_
    refine DW.seq (DW.region ?_)
    refine RO.sta (s_loadMut (d := I (cntU r.n.toNat gs ls d ls.length)) rfl hbi rfl) rfl ?_
    (repeat (first | refine RO.Sv ?_ | refine RO.Yv ?_ | refine RO.no rfl (by decide) rfl ?_ | refine RO.nil ?_ | refine DW.region ?_ | refine DW.seq ?_ | refine DW.block ?_ | refine DW.skip ?_ | refine DW.exit ?_ | refine DW.condT rfl ?_ | refine DW.condF rfl ?_))
    exact DW.ret ⟨.inl rfl, _, rfl, hov, .same _⟩

end Go.Proofs.YtfjmdhemlfafbaaGreat

namespace Go.Proofs.YtfjmdhemlfafbaaGreat
open Go.RowKit
set_option maxHeartbeats 8000000

def oneL : List Vc := [[[⟨1, [1, 0]⟩]]]

theorem oneLds : ldsT xyR 1 oneL = [[[1, 0]]] := by decide +kernel

theorem oneCk : hilCk xyR [0] oneL = 0 := by decide +kernel

theorem oneNum : numA xyR [0] oneL = [1, -1] := by
  unfold numA
  rw [if_pos oneCk]
  show trimT (totU [0] (ldsT xyR 1 oneL) 1) = _
  rw [oneLds]
  decide +kernel

theorem oneCnt : cntA xyR [0] oneL 3 = 1 ∧ cntC xyR [0] oneL 3 = 0 := by
  have h : cntC xyR [0] oneL 3 = 0 := by
    unfold cntC
    rw [if_pos oneCk]
    decide +kernel
  refine ⟨?_, h⟩
  unfold cntA
  rw [if_pos h]
  show (((cntU xyR.n.toNat [0] (ldsT xyR 1 oneL) 3 1 : Nat) : Int)) = 1
  rw [oneLds]
  decide +kernel

theorem oneFree : freeN 2 3 = 4 ∧ freeE 2 3 = 0 := by decide +kernel

theorem hTerm_pure (c : Int) (e : List Int) : Pure Tryz.prog 45 [I c, intsD e] (tmD ⟨c, e⟩) := by
  intro H
  refine PureH.of_bodyCell (r := 4) (t := 55) (T0 := 55) (cells := [I c, intsD e]) Tryz.func45 rfl (by decide) (Nat.le_of_ble_eq_true rfl) rfl fun w0 => ?_
  (repeat (first | refine RO.Sv ?_ | refine RO.Yv ?_ | refine RO.no rfl (by decide) rfl ?_ | refine RO.nil ?_ | refine DW.region ?_ | refine DW.seq ?_ | refine DW.block ?_ | refine DW.skip ?_ | refine DW.exit ?_ | refine DW.condT rfl ?_ | refine DW.condF rfl ?_))
  refine RO.dyn rfl (d_alloc fun b hb => ?_)
  (repeat (first | refine RO.Sv ?_ | refine RO.Yv ?_ | refine RO.no rfl (by decide) rfl ?_ | refine RO.nil ?_ | refine DW.region ?_ | refine DW.seq ?_ | refine DW.block ?_ | refine DW.skip ?_ | refine DW.exit ?_ | refine DW.condT rfl ?_ | refine DW.condF rfl ?_))
  refine RO.sta (s_buildT (out := [I c, intsD e]) rfl rfl) rfl ?_
  refine RO.dyn rfl (d_store (k := 2) rfl rfl rfl (Heap.set_self _ _ _) (by show 0 + 2 ≤ 2; omega) (by simp [cellsOf, D.isCell, intsD]) ?_)
  rw [Heap.set_set]
  (repeat (first | refine RO.Sv ?_ | refine RO.Yv ?_ | refine RO.no rfl (by decide) rfl ?_ | refine RO.nil ?_ | refine DW.region ?_ | refine DW.seq ?_ | refine DW.block ?_ | refine DW.skip ?_ | refine DW.exit ?_ | refine DW.condT rfl ?_ | refine DW.condF rfl ?_))
  exact DW.ret ⟨.inl rfl, b, rfl, Heap.set_self _ _ _, (Over.refl _).set hb, hb⟩

theorem hOne_pure : Pure Tryz.prog 29 [] (vcsD oneL) := by
  intro H
  refine PureH.of_body Tryz.func29 rfl (by decide) (Nat.le_of_ble_eq_true rfl) fun w0 => ?_
  (repeat (first | refine RO.Sv ?_ | refine RO.Yv ?_ | refine RO.no rfl (by decide) rfl ?_ | refine RO.nil ?_ | refine DW.region ?_ | refine DW.seq ?_ | refine DW.block ?_ | refine DW.skip ?_ | refine DW.exit ?_ | refine DW.condT rfl ?_ | refine DW.condF rfl ?_))
  refine RO.sta (s_two rfl rfl) rfl ?_
  refine RO.sta (sta_call rfl rfl (hTerm_pure 1 [1, 0] _)) rfl ?_
  (repeat (first | refine RO.Sv ?_ | refine RO.Yv ?_ | refine RO.no rfl (by decide) rfl ?_ | refine RO.nil ?_ | refine DW.region ?_ | refine DW.seq ?_ | refine DW.block ?_ | refine DW.skip ?_ | refine DW.exit ?_ | refine DW.condT rfl ?_ | refine DW.condF rfl ?_))
  exact DW.ret ⟨.inl rfl, _, rfl, Over.refl _, .same _⟩

theorem hilbertBegun_pure : Pure Tryz.prog 11 [] (.bool true) := by
  intro H
  have hcnt : ∀ H, PureH Tryz.prog H 5 [rgD xyR, intsD [0], vcsD oneL, I 3] (.tup [I 1, I 0]) := fun H => by
    have := Count_pure xyR [0] oneL 3 (by decide) (by decide) (by decide) H
    rw [oneCnt.1, oneCnt.2] at this
    exact this
  have hnum : ∀ H, PureH Tryz.prog H 12 [rgD xyR, intsD [0], vcsD oneL] (.tup [intsD [1, -1], I 0]) := fun H => by
    have := Numerator_pure xyR [0] oneL (by decide) (by decide) (by decide) H
    rw [oneNum, oneCk] at this
    exact this
  have hfree : ∀ H, PureH Tryz.prog H 6 [I 2, I 3] (.tup [I 4, I 0]) := fun H => by
    have := Free_pure 2 3 H
    rw [oneFree.1, oneFree.2] at this
    exact this
  have hchk : ∀ H, PureH Tryz.prog H 8 [rgD xyR, intsD [0], vcsD oneL] (I 0) := fun H => by
    have := hilCheck_pure xyR [0] oneL (by decide) (by decide) (by decide) H
    rw [oneCk] at this
    exact this
  refine PureH.of_body Tryz.func11 rfl (by decide) (Nat.le_of_ble_eq_true rfl) fun w0 => ?_
  (repeat (first | refine RO.Sv ?_ | refine RO.Yv ?_ | refine RO.no rfl (by decide) rfl ?_ | refine RO.nil ?_ | refine DW.region ?_ | refine DW.seq ?_ | refine DW.block ?_ | refine DW.skip ?_ | refine DW.exit ?_ | refine DW.condT rfl ?_ | refine DW.condF rfl ?_))
  refine RO.sta (sta_call rfl rfl (xy_pure _)) rfl ?_
  (repeat (first | refine RO.Sv ?_ | refine RO.Yv ?_ | refine RO.no rfl (by decide) rfl ?_ | refine RO.nil ?_ | refine DW.region ?_ | refine DW.seq ?_ | refine DW.block ?_ | refine DW.skip ?_ | refine DW.exit ?_ | refine DW.condT rfl ?_ | refine DW.condF rfl ?_))
  refine RO.sta (sta_call rfl rfl (hOne_pure _)) rfl ?_
  (repeat (first | refine RO.Sv ?_ | refine RO.Yv ?_ | refine RO.no rfl (by decide) rfl ?_ | refine RO.nil ?_ | refine DW.region ?_ | refine DW.seq ?_ | refine DW.block ?_ | refine DW.skip ?_ | refine DW.exit ?_ | refine DW.condT rfl ?_ | refine DW.condF rfl ?_))
  refine RO.sta (sta_call rfl rfl (hcnt _)) rfl ?_
  (repeat (first | refine RO.Sv ?_ | refine RO.Yv ?_ | refine RO.no rfl (by decide) rfl ?_ | refine RO.nil ?_ | refine DW.region ?_ | refine DW.seq ?_ | refine DW.block ?_ | refine DW.skip ?_ | refine DW.exit ?_ | refine DW.condT rfl ?_ | refine DW.condF rfl ?_))
  refine RO.sta (sta_call rfl rfl (xy_pure _)) rfl ?_
  (repeat (first | refine RO.Sv ?_ | refine RO.Yv ?_ | refine RO.no rfl (by decide) rfl ?_ | refine RO.nil ?_ | refine DW.region ?_ | refine DW.seq ?_ | refine DW.block ?_ | refine DW.skip ?_ | refine DW.exit ?_ | refine DW.condT rfl ?_ | refine DW.condF rfl ?_))
  refine RO.sta (sta_call rfl rfl (hOne_pure _)) rfl ?_
  (repeat (first | refine RO.Sv ?_ | refine RO.Yv ?_ | refine RO.no rfl (by decide) rfl ?_ | refine RO.nil ?_ | refine DW.region ?_ | refine DW.seq ?_ | refine DW.block ?_ | refine DW.skip ?_ | refine DW.exit ?_ | refine DW.condT rfl ?_ | refine DW.condF rfl ?_))
  refine RO.sta (sta_call rfl rfl (hnum _)) rfl ?_
  (repeat (first | refine RO.Sv ?_ | refine RO.Yv ?_ | refine RO.no rfl (by decide) rfl ?_ | refine RO.nil ?_ | refine DW.region ?_ | refine DW.seq ?_ | refine DW.block ?_ | refine DW.skip ?_ | refine DW.exit ?_ | refine DW.condT rfl ?_ | refine DW.condF rfl ?_))
  refine RO.sta (sta_call rfl rfl (hfree _)) rfl ?_
  (repeat (first | refine RO.Sv ?_ | refine RO.Yv ?_ | refine RO.no rfl (by decide) rfl ?_ | refine RO.nil ?_ | refine DW.region ?_ | refine DW.seq ?_ | refine DW.block ?_ | refine DW.skip ?_ | refine DW.exit ?_ | refine DW.condT rfl ?_ | refine DW.condF rfl ?_))
  refine RO.yes rfl rfl (OpD.of_sta (s_two rfl rfl) ?_)
  refine RO.yes rfl rfl (OpD.of_sta (sta_call rfl rfl (SameInts_pure [1, -1] [1, -1] (by decide) _)) ?_)
  (repeat (first | refine RO.Sv ?_ | refine RO.Yv ?_ | refine RO.no rfl (by decide) rfl ?_ | refine RO.nil ?_ | refine DW.region ?_ | refine DW.seq ?_ | refine DW.block ?_ | refine DW.skip ?_ | refine DW.exit ?_ | refine DW.condT rfl ?_ | refine DW.condF rfl ?_))
  refine RO.yes rfl rfl (OpD.of_sta (sta_call rfl rfl (xy_pure _)) ?_)
  (repeat (first | refine RO.Sv ?_ | refine RO.Yv ?_ | refine RO.no rfl (by decide) rfl ?_ | refine RO.nil ?_ | refine DW.region ?_ | refine DW.seq ?_ | refine DW.block ?_ | refine DW.skip ?_ | refine DW.exit ?_ | refine DW.condT rfl ?_ | refine DW.condF rfl ?_))
  refine RO.yes rfl rfl (OpD.of_sta (sta_call rfl rfl (hOne_pure _)) ?_)
  (repeat (first | refine RO.Sv ?_ | refine RO.Yv ?_ | refine RO.no rfl (by decide) rfl ?_ | refine RO.nil ?_ | refine DW.region ?_ | refine DW.seq ?_ | refine DW.block ?_ | refine DW.skip ?_ | refine DW.exit ?_ | refine DW.condT rfl ?_ | refine DW.condF rfl ?_))
  refine RO.yes rfl rfl (OpD.of_sta (sta_call rfl rfl (hchk _)) ?_)
  (repeat (first | refine RO.Sv ?_ | refine RO.Yv ?_ | refine RO.no rfl (by decide) rfl ?_ | refine RO.nil ?_ | refine DW.region ?_ | refine DW.seq ?_ | refine DW.block ?_ | refine DW.skip ?_ | refine DW.exit ?_ | refine DW.condT rfl ?_ | refine DW.condF rfl ?_))
  exact DW.ret ⟨.inl rfl, _, rfl, Over.refl _, .same _⟩

end Go.Proofs.YtfjmdhemlfafbaaGreat

namespace Go.Proofs.YtfjmdhemlfafbaaGreat
open Go.RowKit

theorem sumZ_tail {f : Nat → Int} {m : Nat} (h : ∀ k, m ≤ k → f k = 0) : ∀ n, m ≤ n → sumZ n f = sumZ m f
  | 0, hn => by rw [show m = 0 by omega]
  | n + 1, hn => by
    by_cases e : m = n + 1
    · rw [e]
    · have ih := sumZ_tail h n (by omega)
      show sumZ n f + f n = _
      rw [ih, h n (by omega)]
      omega

theorem trimT_getD (a : List Int) (j : Nat) : (trimT a).getD j 0 = a.getD j 0 := by
  suffices h : ∀ b : List Int, (trimT b.reverse).getD j 0 = b.reverse.getD j 0 by
    have := h a.reverse
    rwa [List.reverse_reverse] at this
  intro b
  induction b with
  | nil => rfl
  | cons x b ih =>
    rw [List.reverse_cons]
    by_cases hx : x = 0
    · subst hx
      rw [trimT_zero, ih]
      rw [List.getD_eq_getElem?_getD, List.getD_eq_getElem?_getD, List.getElem?_append]
      split
      · rfl
      · rename_i h
        rw [List.getElem?_eq_none (by omega)]
        cases hq : ([0] : List Int)[j - b.reverse.length]? with
        | none => rfl
        | some y =>
          have := List.mem_of_getElem? hq
          have := List.mem_singleton.1 this
          subst this
          rfl
    · rw [trimT_stop _ hx]

theorem trimT_last (a : List Int) : trimT a = [] ∨ ∃ b x, trimT a = b ++ [x] ∧ x ≠ 0 := by
  suffices h : ∀ b : List Int, trimT b.reverse = [] ∨ ∃ c x, trimT b.reverse = c ++ [x] ∧ x ≠ 0 by
    have := h a.reverse
    rwa [List.reverse_reverse] at this
  intro b
  induction b with
  | nil => exact .inl rfl
  | cons x b ih =>
    rw [List.reverse_cons]
    by_cases hx : x = 0
    · subst hx
      rw [trimT_zero]
      exact ih
    · exact .inr ⟨b.reverse, x, trimT_stop _ hx, hx⟩

theorem trimT_len (a : List Int) : (trimT a).length ≤ a.length := by
  unfold trimT
  rw [List.length_reverse]
  have := (List.dropWhile_sublist (fun x => x == 0) (l := a.reverse)).length_le
  rwa [List.length_reverse] at this

theorem totU_sum {n k : Nat} {gs : List Int} {ls : List (List (List Int))} (hn : 0 < n) (h : LdsOk n k ls) (hg : ∀ g ∈ gs, 0 ≤ g ∧ g ≤ 6) (hk : k = gs.length) (D : Nat) :
    ∀ i, i ≤ k → Cg (sumZ D fun j => (totU gs ls i).getD j 0 * frN n ((D : Int) - 1 - j)) (cntU n gs ls ((D : Int) - 1) i)
  | 0, _ => by
    refine Cg.of_eq ?_
    show sumZ D (fun j => ([] : List Int).getD j 0 * frN n ((D : Int) - 1 - j)) = 0
    rw [sumZ_congr (g := fun _ => 0) fun j _ => by simp, sumZ_zero]
  | i + 1, hi => by
    have ih := totU_sum hn h hg hk D i (by omega)
    have hil : i < ls.length := by rw [h.len]; omega
    have hig : i < gs.length := by omega
    have hgi := hg _ (List.getElem_mem hig)
    have he := (h.each i hil).2
    have h2 := numT_sum hn ls[i] (fun e hh => (he e hh).mn) (D - gs[i].toNat)
    have h3 := plusT_sum (totU gs ls i) (numT ls[i]) 1 gs[i].toNat D fun d => (frN n d : Int)
    show Cg (sumZ D fun j => (plusT (totU gs ls i) (numT (ls.getD i [])) 1 (gs.getD i 0).toNat).getD j 0 * frN n ((D : Int) - 1 - j)) ((cntU n gs ls ((D : Int) - 1) i + cntO n (ls.getD i []) ((D : Int) - 1 - gs.getD i 0) : Nat) : Int)
    rw [getD_lt hil, getD_lt hig]
    have h4 : (cntO n ls[i] (((D - gs[i].toNat : Nat) : Int) - 1) : Int) = cntO n ls[i] ((D : Int) - 1 - gs[i]) := by
      by_cases hx : gs[i].toNat ≤ D
      · rw [show (((D - gs[i].toNat : Nat) : Int) - 1) = (D : Int) - 1 - gs[i] by omega]
      · rw [cntO_neg (by omega), cntO_neg (by omega)]
    rw [h4] at h2
    refine h3.trans ((ih.add ((Cg.of_eq (Int.one_mul _)).trans h2)).trans (Cg.of_eq ?_))
    omega

def frA (n : Nat) (d : Int) (k : Nat) : Int := frN n (d - min (k : Int) (d + 1))
def sumW (n : Nat) (a : List Int) (d : Int) : Nat → Int
  | 0 => 0
  | j + 1 => wrap64 (sumW n a d j + wrap64 (a.getD j 0 * frA n d j))

theorem sumW_cg (n : Nat) (a : List Int) (d : Int) : ∀ j, Cg (sumW n a d j) (sumZ j fun k => a.getD k 0 * frA n d k)
  | 0 => .refl _
  | j + 1 => (cg_wrap _).trans ((sumW_cg n a d j).add (cg_wrap _))

theorem sumW_range (n : Nat) (a : List Int) (d : Int) : ∀ j, -9223372036854775808 ≤ sumW n a d j ∧ sumW n a d j ≤ 9223372036854775807
  | 0 => ⟨by simp [sumW], by simp [sumW]⟩
  | j + 1 => by
    show -9223372036854775808 ≤ wrap64 _ ∧ wrap64 _ ≤ 9223372036854775807
    unfold wrap64
    omega

theorem frN_neg {n : Nat} {d : Int} (h : d < 0) : frN n d = 0 := by
  unfold frN monZ
  rw [if_pos h]
  rfl

theorem series_sum {n k : Nat} {gs : List Int} {ls : List (List (List Int))} (hn : 0 < n) (hn3 : n ≤ 3) (h : LdsOk n k ls) (hg : ∀ g ∈ gs, 0 ≤ g ∧ g ≤ 6) (hk : k = gs.length) (hk3 : k ≤ 3) (d : Nat) (hd : d ≤ 12) :
    sumW n (trimT (totU gs ls k)) d (trimT (totU gs ls k)).length = cntU n gs ls d k := by
  have h1 := totU_sum hn h hg hk (d + 1) k (Nat.le_refl _)
  have h2 := sumW_cg n (trimT (totU gs ls k)) d (trimT (totU gs ls k)).length
  have e1 : ((d + 1 : Nat) : Int) - 1 = d := by omega
  rw [e1] at h1
  have h3 : sumZ (trimT (totU gs ls k)).length (fun j => (trimT (totU gs ls k)).getD j 0 * frA n d j) = sumZ (d + 1) (fun j => (totU gs ls k).getD j 0 * frN n ((d : Int) - j)) := by
    have a1 : ∀ j, (trimT (totU gs ls k)).length ≤ j → (trimT (totU gs ls k)).getD j 0 * frA n d j = 0 := fun j hj => by
      rw [List.getD_eq_getElem?_getD, List.getElem?_eq_none hj]
      simp
    have a2 : ∀ j, d + 1 ≤ j → (trimT (totU gs ls k)).getD j 0 * frA n d j = 0 := fun j hj => by
      unfold frA
      rw [frN_neg (by omega)]
      simp
    rw [← sumZ_tail a1 (max (trimT (totU gs ls k)).length (d + 1)) (by omega), sumZ_tail a2 (max (trimT (totU gs ls k)).length (d + 1)) (by omega)]
    refine sumZ_congr fun j hj => ?_
    rw [trimT_getD]
    unfold frA
    rw [show (d : Int) - min (j : Int) (d + 1) = (d : Int) - j by omega]
  rw [h3] at h2
  have hb := cntU_le (n := n) (ls := ls) (d := d) hn3 hg (by omega) k hk3
  exact (h2.trans h1).eq (sumW_range _ _ _ _) ⟨by omega, by omega⟩

def allU (n : Nat) (gs : List Int) (d : Int) : Nat → Nat
  | 0 => 0
  | i + 1 => allU n gs d i + frN n (d - gs.getD i 0)

theorem cnt_all_le (n : Nat) (gs : List Int) (ls : List (List (List Int))) (d : Int) : ∀ i, cntU n gs ls d i ≤ allU n gs d i
  | 0 => Nat.le_refl _
  | i + 1 => by
    have h1 := cnt_all_le n gs ls d i
    have h2 := cntO_le n (ls.getD i []) (d - gs.getD i 0)
    show cntU n gs ls d i + cntO n (ls.getD i []) (d - gs.getD i 0) ≤ allU n gs d i + frN n (d - gs.getD i 0)
    omega

theorem allU_le {n : Nat} {gs : List Int} {d : Int} (hn : n ≤ 3) (hg : ∀ g ∈ gs, 0 ≤ g ∧ g ≤ 6) (hd : d ≤ 12) : ∀ i, allU n gs d i ≤ 1030301 * i
  | 0 => Nat.le_refl _
  | i + 1 => by
    have h1 := allU_le hn hg hd i
    have h3 : 0 ≤ gs.getD i 0 := by
      rw [List.getD_eq_getElem?_getD]
      cases hx : gs[i]? with
      | none => simp
      | some g => exact (hg g (List.mem_of_getElem? hx)).1
    have h4 := frN_le (n := n) (d := d - gs.getD i 0) hn (by omega)
    show allU n gs d i + frN n (d - gs.getD i 0) ≤ _
    omega

end Go.Proofs.YtfjmdhemlfafbaaGreat
