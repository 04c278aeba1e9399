/-
  Package poly: Copied, Top, Done, By, Sum, Product; the document's TopOf, Great, SamePoly, SameVector. No condition.
-/
import Derived.Test.YtfjmdhemlfafbaaGreatKHc14
import Derived.Test.YtfjmdhemlfafbaaGreatKHc13
import Derived.Test.YtfjmdhemlfafbaaGreatKHc10
import Derived.Test.YtfjmdhemlfafbaaGreatKHc7
import Derived.Test.YtfjmdhemlfafbaaGreatKHc8
set_option linter.unusedVariables false
set_option linter.unusedSimpArgs false

namespace Go.Proofs.YtfjmdhemlfafbaaGreat
section
open Go.RowKit
set_option maxHeartbeats 4000000

def putE (how x y : Int) : Int := if how = 1 then x + y else if how = 2 then x - y else if how = 3 then max x y else x

theorem Put_pure {a b : List Int} (how : Int) (ha : MOk a) (hb : MOk b) (hab : a.length = b.length) : Pure Tryz.prog 59 [intsD a, intsD b, I how] (intsD (zipE (putE how) a b)) := by
 intro H
 have hl := ha.len
 have hz := zipE_len (g := putE how) hab
 refine PureH.of_body Tryz.func59 rfl (by decide) (Nat.le_of_ble_eq_true rfl) fun w0 => ?_
 (repeat(first|refine zC ?_|refine zD ?_|refine zE rfl (by decide) rfl ?_|refine zF ?_|refine zG ?_|refine zH ?_|refine zI ?_|refine zJ ?_|refine zK ?_|refine zL rfl ?_|refine zM rfl ?_))
 refine DW.loopI (fun x : Nat × D × Heap => x.1 ≤ a.length ∧ Acc H x.2.2 x.2.1 1 3 (((zipE (putE how) a b).take x.1).map I) ∧ Over H x.2.2) (fun x => [(0, intsD a), (1, intsD b), (2, I how), (7, x.2.1), (8, I x.1)]) (fun x => x.2.2) (fun x => a.length - x.1) (0, .nil, H)
  ⟨Nat.zero_le _, Acc.nil _ _ _ _, Over.refl _⟩ rfl ⟨rfl, rfl, rfl, rfl, rfl, trivial⟩ fun ⟨k, d, H1⟩ ⟨hk, hacc, hov⟩ => ?_
 dsimp only at hk hacc hov
 dsimp only
 (repeat(first|refine zC ?_|refine zD ?_|refine zE rfl (by decide) rfl ?_|refine zF ?_|refine zG ?_|refine zH ?_|refine zI ?_|refine zJ ?_|refine zK ?_|refine zL rfl ?_|refine zM rfl ?_))
 refine DW.cond rfl (fun hc => ?_) (fun hc => ?_)
 ·have hlt : k < a.length := by have := of_decide_eq_true hc; omega
  have hlt2 : k < b.length := by omega
  have hxa := ha.at hlt
  have hxb := hb.at hlt2
  have hlt3 : k < (zipE (putE how) a b).length := by omega
  have hget : (zipE (putE how) a b)[k] = putE how a[k] b[k] := zipE_get hlt3
  have htk : ((zipE (putE how) a b).take (k + 1)).map I = ((zipE (putE how) a b).take k).map I ++ [I (putE how a[k] b[k])] := by
   rw [List.take_succ_eq_append_getElem hlt3, List.map_append, hget]; rfl
  have hl2 : (((zipE (putE how) a b).take k).map I).length ≤ 3 := by simp; omega
  clear hlt3 hget
  have fin : ∀ (P : Heap → D → Prop), (∀ d' H', Acc H H' d' 1 3 (((zipE (putE how) a b).take (k + 1)).map I) → Over H H' → P H' d') → ∀ d' H', Acc H H' d' 1 3 (((zipE (putE how) a b).take k).map I ++ [I (putE how a[k] b[k])]) → Over H H' → P H' d' := by
   intro P h d' H'
   rw [← htk]
   exact h d' H'
  (repeat(first|refine zC ?_|refine zD ?_|refine zE rfl (by decide) rfl ?_|refine zF ?_|refine zG ?_|refine zH ?_|refine zI ?_|refine zJ ?_|refine zK ?_|refine zL rfl ?_|refine zM rfl ?_))
  refine DW.cond rfl (fun hc1 => ?_) (fun hc1 => ?_)
  ·have h1 : how = 1 := by simpa using hc1
   have hp : putE how a[k] b[k] = a[k] + b[k] := by unfold putE; rw [if_pos h1]
   (repeat(first|refine zC ?_|refine zD ?_|refine zE rfl (by decide) rfl ?_|refine zF ?_|refine zG ?_|refine zH ?_|refine zI ?_|refine zJ ?_|refine zK ?_|refine zL rfl ?_|refine zM rfl ?_))
   rw [← hp]
   refine RO.dyn rfl (d_append (H0 := H) rfl hacc hov rfl (.inl rfl) (uni_I [_]) (by simp; omega) (by simp; omega) fun d' H' hacc' hov' _ => ?_)
   rw [← htk] at hacc'
   (repeat(first|refine zC ?_|refine zD ?_|refine zE rfl (by decide) rfl ?_|refine zF ?_|refine zG ?_|refine zH ?_|refine zI ?_|refine zJ ?_|refine zK ?_|refine zL rfl ?_|refine zM rfl ?_))
   exact ⟨(k + 1, d', H'), ⟨hlt, hacc', hov'⟩, by dsimp only; omega, rfl, rfl, rfl, rfl, rfl, rfl, trivial⟩
  ·have h1 : ¬ how = 1 := by simpa using hc1
   (repeat(first|refine zC ?_|refine zD ?_|refine zE rfl (by decide) rfl ?_|refine zF ?_|refine zG ?_|refine zH ?_|refine zI ?_|refine zJ ?_|refine zK ?_|refine zL rfl ?_|refine zM rfl ?_))
   refine DW.cond rfl (fun hc2 => ?_) (fun hc2 => ?_)
   ·have h2 : how = 2 := by simpa using hc2
    have hp : putE how a[k] b[k] = a[k] - b[k] := by unfold putE; rw [if_neg h1, if_pos h2]
    (repeat(first|refine zC ?_|refine zD ?_|refine zE rfl (by decide) rfl ?_|refine zF ?_|refine zG ?_|refine zH ?_|refine zI ?_|refine zJ ?_|refine zK ?_|refine zL rfl ?_|refine zM rfl ?_))
    rw [← hp]
    refine RO.dyn rfl (d_append (H0 := H) rfl hacc hov rfl (.inl rfl) (uni_I [_]) (by simp; omega) (by simp; omega) fun d' H' hacc' hov' _ => ?_)
    rw [← htk] at hacc'
    (repeat(first|refine zC ?_|refine zD ?_|refine zE rfl (by decide) rfl ?_|refine zF ?_|refine zG ?_|refine zH ?_|refine zI ?_|refine zJ ?_|refine zK ?_|refine zL rfl ?_|refine zM rfl ?_))
    exact ⟨(k + 1, d', H'), ⟨hlt, hacc', hov'⟩, by dsimp only; omega, rfl, rfl, rfl, rfl, rfl, rfl, trivial⟩
   ·have h2 : ¬ how = 2 := by simpa using hc2
    (repeat(first|refine zC ?_|refine zD ?_|refine zE rfl (by decide) rfl ?_|refine zF ?_|refine zG ?_|refine zH ?_|refine zI ?_|refine zJ ?_|refine zK ?_|refine zL rfl ?_|refine zM rfl ?_))
    refine DW.cond rfl (fun hc3 => ?_) (fun hc3 => ?_)
    ·have h3 : how = 3 := by simpa using hc3
     (repeat(first|refine zC ?_|refine zD ?_|refine zE rfl (by decide) rfl ?_|refine zF ?_|refine zG ?_|refine zH ?_|refine zI ?_|refine zJ ?_|refine zK ?_|refine zL rfl ?_|refine zM rfl ?_))
     refine DW.cond rfl (fun hc4 => ?_) (fun hc4 => ?_)
     ·have hp : putE how a[k] b[k] = b[k] := by have := of_decide_eq_true hc4; unfold putE; rw [if_neg h1, if_neg h2, if_pos h3]; omega
      (repeat(first|refine zC ?_|refine zD ?_|refine zE rfl (by decide) rfl ?_|refine zF ?_|refine zG ?_|refine zH ?_|refine zI ?_|refine zJ ?_|refine zK ?_|refine zL rfl ?_|refine zM rfl ?_))
      rw [← hp]
      refine RO.dyn rfl (d_append (H0 := H) rfl hacc hov rfl (.inl rfl) (uni_I [_]) (by simp; omega) (by simp; omega) fun d' H' hacc' hov' _ => ?_)
      rw [← htk] at hacc'
      (repeat(first|refine zC ?_|refine zD ?_|refine zE rfl (by decide) rfl ?_|refine zF ?_|refine zG ?_|refine zH ?_|refine zI ?_|refine zJ ?_|refine zK ?_|refine zL rfl ?_|refine zM rfl ?_))
      exact ⟨(k + 1, d', H'), ⟨hlt, hacc', hov'⟩, by dsimp only; omega, rfl, rfl, rfl, rfl, rfl, rfl, trivial⟩
     ·have hp : putE how a[k] b[k] = a[k] := by have := of_decide_eq_false hc4; unfold putE; rw [if_neg h1, if_neg h2, if_pos h3]; omega
      (repeat(first|refine zC ?_|refine zD ?_|refine zE rfl (by decide) rfl ?_|refine zF ?_|refine zG ?_|refine zH ?_|refine zI ?_|refine zJ ?_|refine zK ?_|refine zL rfl ?_|refine zM rfl ?_))
      rw [← hp]
      refine RO.dyn rfl (d_append (H0 := H) rfl hacc hov rfl (.inl rfl) (uni_I [_]) (by simp; omega) (by simp; omega) fun d' H' hacc' hov' _ => ?_)
      rw [← htk] at hacc'
      (repeat(first|refine zC ?_|refine zD ?_|refine zE rfl (by decide) rfl ?_|refine zF ?_|refine zG ?_|refine zH ?_|refine zI ?_|refine zJ ?_|refine zK ?_|refine zL rfl ?_|refine zM rfl ?_))
      exact ⟨(k + 1, d', H'), ⟨hlt, hacc', hov'⟩, by dsimp only; omega, rfl, rfl, rfl, rfl, rfl, rfl, trivial⟩
    ·have h3 : ¬ how = 3 := by simpa using hc3
     have hp : putE how a[k] b[k] = a[k] := by unfold putE; rw [if_neg h1, if_neg h2, if_neg h3]
     (repeat(first|refine zC ?_|refine zD ?_|refine zE rfl (by decide) rfl ?_|refine zF ?_|refine zG ?_|refine zH ?_|refine zI ?_|refine zJ ?_|refine zK ?_|refine zL rfl ?_|refine zM rfl ?_))
     rw [← hp]
     refine RO.dyn rfl (d_append (H0 := H) rfl hacc hov rfl (.inl rfl) (uni_I [_]) (by simp; omega) (by simp; omega) fun d' H' hacc' hov' _ => ?_)
     rw [← htk] at hacc'
     (repeat(first|refine zC ?_|refine zD ?_|refine zE rfl (by decide) rfl ?_|refine zF ?_|refine zG ?_|refine zH ?_|refine zI ?_|refine zJ ?_|refine zK ?_|refine zL rfl ?_|refine zM rfl ?_))
     exact ⟨(k + 1, d', H'), ⟨hlt, hacc', hov'⟩, by dsimp only; omega, rfl, rfl, rfl, rfl, rfl, rfl, trivial⟩
 ·have hge : k = a.length := by have := of_decide_eq_false hc; omega
  subst hge
  rw [← hz, List.take_length] at hacc
  (repeat(first|refine zC ?_|refine zD ?_|refine zE rfl (by decide) rfl ?_|refine zF ?_|refine zG ?_|refine zH ?_|refine zI ?_|refine zJ ?_|refine zK ?_|refine zL rfl ?_|refine zM rfl ?_))
  refine DW.ret ⟨.inl rfl, _, rfl, hov, hacc.frz ?_⟩
  intro x hx
  rcases hacc.is with ⟨h, _⟩ | ⟨b', h1, h2, h3⟩
  ·rw [h] at hx; cases hx
  ·rw [h2] at hx; cases hx; exact h1
end
section
open Go.RowKit
set_option maxHeartbeats 4000000

theorem isNaN_pure (x : Int) : Pure Tryz.prog 124 [I x] (.bool false) := by
 intro H
 refine PureH.of_body Tryz.func124 rfl (by decide) (Nat.le_of_ble_eq_true rfl) fun w0 => ?_
 (repeat(first|refine zC ?_|refine zD ?_|refine zE rfl (by decide) rfl ?_|refine zF ?_|refine zG ?_|refine zH ?_|refine zI ?_|refine zJ ?_|refine zK ?_|refine zL rfl ?_|refine zM rfl ?_))
 have : (x != x) = false := by simp
 rw [this]
 exact DW.ret ⟨.inl rfl, _, rfl, Over.refl _, .same _⟩

def cmpI (x y : Int) : Int := if x < y then -1 else if y < x then 1 else 0

theorem cmpI_pure (x y : Int) : Pure Tryz.prog 122 [I x, I y] (I (cmpI x y)) := by
 intro H
 refine PureH.of_body Tryz.func122 rfl (by decide) (Nat.le_of_ble_eq_true rfl) fun w0 => ?_
 (repeat(first|refine zC ?_|refine zD ?_|refine zE rfl (by decide) rfl ?_|refine zF ?_|refine zG ?_|refine zH ?_|refine zI ?_|refine zJ ?_|refine zK ?_|refine zL rfl ?_|refine zM rfl ?_))
 refine RO.sta (sta_call rfl rfl (isNaN_pure _ _)) rfl ?_
 (repeat(first|refine zC ?_|refine zD ?_|refine zE rfl (by decide) rfl ?_|refine zF ?_|refine zG ?_|refine zH ?_|refine zI ?_|refine zJ ?_|refine zK ?_|refine zL rfl ?_|refine zM rfl ?_))
 refine RO.sta (sta_call rfl rfl (isNaN_pure _ _)) rfl ?_
 (repeat(first|refine zC ?_|refine zD ?_|refine zE rfl (by decide) rfl ?_|refine zF ?_|refine zG ?_|refine zH ?_|refine zI ?_|refine zJ ?_|refine zK ?_|refine zL rfl ?_|refine zM rfl ?_))
 refine DW.cond rfl (fun hb => ?_) (fun hb => ?_)
 ·have h : x < y := of_decide_eq_true hb
  have : cmpI x y = -1 := by unfold cmpI; rw [if_pos h]
  rw [this]
  (repeat(first|refine zC ?_|refine zD ?_|refine zE rfl (by decide) rfl ?_|refine zF ?_|refine zG ?_|refine zH ?_|refine zI ?_|refine zJ ?_|refine zK ?_|refine zL rfl ?_|refine zM rfl ?_))
  exact DW.ret ⟨.inl rfl, _, rfl, Over.refl _, .same _⟩
 ·have h : ¬ x < y := of_decide_eq_false hb
  (repeat(first|refine zC ?_|refine zD ?_|refine zE rfl (by decide) rfl ?_|refine zF ?_|refine zG ?_|refine zH ?_|refine zI ?_|refine zJ ?_|refine zK ?_|refine zL rfl ?_|refine zM rfl ?_))
  refine DW.cond rfl (fun hb => ?_) (fun hb => ?_)
  ·have h2 : y < x := of_decide_eq_true hb
   have : cmpI x y = 1 := by unfold cmpI; rw [if_neg h, if_pos h2]
   rw [this]
   (repeat(first|refine zC ?_|refine zD ?_|refine zE rfl (by decide) rfl ?_|refine zF ?_|refine zG ?_|refine zH ?_|refine zI ?_|refine zJ ?_|refine zK ?_|refine zL rfl ?_|refine zM rfl ?_))
   exact DW.ret ⟨.inl rfl, _, rfl, Over.refl _, .same _⟩
  ·have h2 : ¬ y < x := of_decide_eq_false hb
   have : cmpI x y = 0 := by unfold cmpI; rw [if_neg h, if_neg h2]
   rw [this]
   (repeat(first|refine zC ?_|refine zD ?_|refine zE rfl (by decide) rfl ?_|refine zF ?_|refine zG ?_|refine zH ?_|refine zI ?_|refine zJ ?_|refine zK ?_|refine zL rfl ?_|refine zM rfl ?_))
   exact DW.ret ⟨.inl rfl, _, rfl, Over.refl _, .same _⟩

theorem lexC_drop' {a b : List Int} {k : Nat} (h1 : k < a.length) (h2 : k < b.length) : lexC (a.drop k) (b.drop k) = if cmpI a[k] b[k] = 0 then lexC (a.drop (k + 1)) (b.drop (k + 1)) else cmpI a[k] b[k] := by
 rw [lexC_drop h1 h2]
 unfold cmpI
 split
 ·rfl
 ·split
  ·rfl
  ·rfl

theorem sCompare_pure {a b : List Int} (hab : a.length = b.length) (hl : a.length ≤ 1000000) : Pure Tryz.prog 114 [intsD a, intsD b] (I (lexC a b)) := by
 intro H
 refine PureH.of_body Tryz.func114 rfl (by decide) (Nat.le_of_ble_eq_true rfl) fun w0 => ?_
 (repeat(first|refine zC ?_|refine zD ?_|refine zE rfl (by decide) rfl ?_|refine zF ?_|refine zG ?_|refine zH ?_|refine zI ?_|refine zJ ?_|refine zK ?_|refine zL rfl ?_|refine zM rfl ?_))
 refine DW.loopI (fun k : Nat => k ≤ a.length ∧ lexC (a.drop k) (b.drop k) = lexC a b) (fun k => [(0, intsD a), (1, intsD b), (9, intsD a), (10, I a.length), (11, I k)]) (fun _ => H) (fun k => a.length - k) 0 ⟨Nat.zero_le _, rfl⟩ rfl ⟨rfl, rfl, rfl, rfl, rfl, trivial⟩ fun k ⟨hk, hg⟩ => ?_
 (repeat(first|refine zC ?_|refine zD ?_|refine zE rfl (by decide) rfl ?_|refine zF ?_|refine zG ?_|refine zH ?_|refine zI ?_|refine zJ ?_|refine zK ?_|refine zL rfl ?_|refine zM rfl ?_))
 refine DW.cond rfl (fun hb => ?_) (fun hb => ?_)
 ·have hlt : k < a.length := by have := of_decide_eq_true hb; omega
  have hlt2 : k < b.length := by omega
  rw [lexC_drop' hlt hlt2] at hg
  (repeat(first|refine zC ?_|refine zD ?_|refine zE rfl (by decide) rfl ?_|refine zF ?_|refine zG ?_|refine zH ?_|refine zI ?_|refine zJ ?_|refine zK ?_|refine zL rfl ?_|refine zM rfl ?_))
  refine DW.cond rfl (fun hb => ?_) (fun hb => ?_)
  ·exfalso
   have := of_decide_eq_true hb
   omega
  ·(repeat(first|refine zC ?_|refine zD ?_|refine zE rfl (by decide) rfl ?_|refine zF ?_|refine zG ?_|refine zH ?_|refine zI ?_|refine zJ ?_|refine zK ?_|refine zL rfl ?_|refine zM rfl ?_))
   refine RO.sta (sta_call rfl rfl (cmpI_pure _ _ _)) rfl ?_
   (repeat(first|refine zC ?_|refine zD ?_|refine zE rfl (by decide) rfl ?_|refine zF ?_|refine zG ?_|refine zH ?_|refine zI ?_|refine zJ ?_|refine zK ?_|refine zL rfl ?_|refine zM rfl ?_))
   refine DW.cond rfl (fun hb => ?_) (fun hb => ?_)
   ·have hc : ¬ cmpI a[k] b[k] = 0 := by simpa using hb
    rw [if_neg hc] at hg
    rw [← hg]
    (repeat(first|refine zC ?_|refine zD ?_|refine zE rfl (by decide) rfl ?_|refine zF ?_|refine zG ?_|refine zH ?_|refine zI ?_|refine zJ ?_|refine zK ?_|refine zL rfl ?_|refine zM rfl ?_))
    exact DW.ret ⟨.inl rfl, _, rfl, Over.refl _, .same _⟩
   ·have hc : cmpI a[k] b[k] = 0 := by simpa using hb
    rw [if_pos hc] at hg
    (repeat(first|refine zC ?_|refine zD ?_|refine zE rfl (by decide) rfl ?_|refine zF ?_|refine zG ?_|refine zH ?_|refine zI ?_|refine zJ ?_|refine zK ?_|refine zL rfl ?_|refine zM rfl ?_))
    exact ⟨k + 1, ⟨hlt, hg⟩, by dsimp only; omega, rfl, rfl, rfl, rfl, rfl, rfl, trivial⟩
 ·have hge : k = a.length := by have := of_decide_eq_false hb; omega
  subst hge
  have : lexC a b = 0 := by rw [← hg]; simp [lexC]
  rw [this]
  (repeat(first|refine zC ?_|refine zD ?_|refine zE rfl (by decide) rfl ?_|refine zF ?_|refine zG ?_|refine zH ?_|refine zI ?_|refine zJ ?_|refine zK ?_|refine zL rfl ?_|refine zM rfl ?_))
  refine DW.cond rfl (fun hb => ?_) (fun hb => ?_)
  ·exfalso
   have := of_decide_eq_true hb
   omega
  ·(repeat(first|refine zC ?_|refine zD ?_|refine zE rfl (by decide) rfl ?_|refine zF ?_|refine zG ?_|refine zH ?_|refine zI ?_|refine zJ ?_|refine zK ?_|refine zL rfl ?_|refine zM rfl ?_))
   exact DW.ret ⟨.inl rfl, _, rfl, Over.refl _, .same _⟩

theorem sgn_val (x : Int) : sgn x = if (if x < 1 then x else 1) > -1 then (if x < 1 then x else 1) else -1 := by
 unfold sgn
 split <;> split <;> omega

theorem Compare_pure (r : Rg) {a b : List Int} (ha : MOk a) (hb : MOk b) (hab : a.length = b.length) : Pure Tryz.prog 95 [rgD r, intsD a, intsD b] (I (cmpM r.order a b)) := by
 intro H
 have hsa := ha.sum
 have hsb := hb.sum
 have hla := ha.len
 refine PureH.of_body Tryz.func95 rfl (by decide) (Nat.le_of_ble_eq_true rfl) fun w0 => ?_
 (repeat(first|refine zC ?_|refine zD ?_|refine zE rfl (by decide) rfl ?_|refine zF ?_|refine zG ?_|refine zH ?_|refine zI ?_|refine zJ ?_|refine zK ?_|refine zL rfl ?_|refine zM rfl ?_))
 refine RO.sta (sta_call rfl rfl (Degree_pure ha _)) rfl ?_
 (repeat(first|refine zC ?_|refine zD ?_|refine zE rfl (by decide) rfl ?_|refine zF ?_|refine zG ?_|refine zH ?_|refine zI ?_|refine zJ ?_|refine zK ?_|refine zL rfl ?_|refine zM rfl ?_))
 refine RO.sta (sta_call rfl rfl (Degree_pure hb _)) rfl ?_
 (repeat(first|refine zC ?_|refine zD ?_|refine zE rfl (by decide) rfl ?_|refine zF ?_|refine zG ?_|refine zH ?_|refine zI ?_|refine zJ ?_|refine zK ?_|refine zL rfl ?_|refine zM rfl ?_))
 refine DW.cond rfl (fun hc => ?_) (fun hc => ?_)
 ·have h : ¬ a.sum = b.sum := by simp at hc; omega
  have : cmpM r.order a b = sgn (a.sum - b.sum) := by unfold cmpM; rw [if_neg h]
  rw [this]
  (repeat(first|refine zC ?_|refine zD ?_|refine zE rfl (by decide) rfl ?_|refine zF ?_|refine zG ?_|refine zH ?_|refine zI ?_|refine zJ ?_|refine zK ?_|refine zL rfl ?_|refine zM rfl ?_))
  refine RO.sta (sta_min rfl rfl) rfl ?_
  (repeat(first|refine zC ?_|refine zD ?_|refine zE rfl (by decide) rfl ?_|refine zF ?_|refine zG ?_|refine zH ?_|refine zI ?_|refine zJ ?_|refine zK ?_|refine zL rfl ?_|refine zM rfl ?_))
  refine RO.sta (sta_max rfl rfl) rfl ?_
  (repeat(first|refine zC ?_|refine zD ?_|refine zE rfl (by decide) rfl ?_|refine zF ?_|refine zG ?_|refine zH ?_|refine zI ?_|refine zJ ?_|refine zK ?_|refine zL rfl ?_|refine zM rfl ?_))
  rw [sgn_val]
  exact DW.ret ⟨.inl rfl, _, rfl, Over.refl _, .same _⟩
 ·have h : a.sum = b.sum := by simp at hc; omega
  (repeat(first|refine zC ?_|refine zD ?_|refine zE rfl (by decide) rfl ?_|refine zF ?_|refine zG ?_|refine zH ?_|refine zI ?_|refine zJ ?_|refine zK ?_|refine zL rfl ?_|refine zM rfl ?_))
  refine DW.cond rfl (fun hc => ?_) (fun hc => ?_)
  ·have h2 : r.order = 2 := by simpa using hc
   have : cmpM r.order a b = lexC a b := by unfold cmpM; rw [if_pos h, if_pos h2]
   rw [this]
   (repeat(first|refine zC ?_|refine zD ?_|refine zE rfl (by decide) rfl ?_|refine zF ?_|refine zG ?_|refine zH ?_|refine zI ?_|refine zJ ?_|refine zK ?_|refine zL rfl ?_|refine zM rfl ?_))
   refine RO.sta (sta_call rfl rfl (sCompare_pure hab (by omega) _)) rfl ?_
   (repeat(first|refine zC ?_|refine zD ?_|refine zE rfl (by decide) rfl ?_|refine zF ?_|refine zG ?_|refine zH ?_|refine zI ?_|refine zJ ?_|refine zK ?_|refine zL rfl ?_|refine zM rfl ?_))
   exact DW.ret ⟨.inl rfl, _, rfl, Over.refl _, .same _⟩
  ·have h2 : ¬ r.order = 2 := by simpa using hc
   have : cmpM r.order a b = lexC b.reverse a.reverse := by unfold cmpM; rw [if_pos h, if_neg h2]
   rw [this]
   (repeat(first|refine zC ?_|refine zD ?_|refine zE rfl (by decide) rfl ?_|refine zF ?_|refine zG ?_|refine zH ?_|refine zI ?_|refine zJ ?_|refine zK ?_|refine zL rfl ?_|refine zM rfl ?_))
   refine DW.loopI (fun i : Int => -1 ≤ i ∧ i < a.length ∧ lexC (b.take (i + 1).toNat).reverse (a.take (i + 1).toNat).reverse = lexC b.reverse a.reverse) (fun i => [(1, intsD a), (2, intsD b), (8, I i)]) (fun _ => H) (fun i => (i + 1).toNat) ((a.length : Int) - 1)
    ⟨by omega, by omega, by
     have : ((a.length : Int) - 1 + 1).toNat = a.length := by omega
     rw [this, List.take_length, hab, List.take_length]⟩ rfl ⟨rfl, rfl, rfl, trivial⟩ fun i ⟨hi1, hi2, hg⟩ => ?_
   (repeat(first|refine zC ?_|refine zD ?_|refine zE rfl (by decide) rfl ?_|refine zF ?_|refine zG ?_|refine zH ?_|refine zI ?_|refine zJ ?_|refine zK ?_|refine zL rfl ?_|refine zM rfl ?_))
   refine DW.cond rfl (fun hc => ?_) (fun hc => ?_)
   ·obtain ⟨k, rfl⟩ : ∃ k : Nat, i = k := ⟨i.toNat, by have := of_decide_eq_true hc; omega⟩
    have hlt : k < a.length := by omega
    have hlt2 : k < b.length := by omega
    have hk1 : ((k : Int) + 1).toNat = k + 1 := by omega
    have hxa := ha.at hlt
    have hxb := hb.at hlt2
    rw [hk1, lexC_take_rev hlt hlt2] at hg
    (repeat(first|refine zC ?_|refine zD ?_|refine zE rfl (by decide) rfl ?_|refine zF ?_|refine zG ?_|refine zH ?_|refine zI ?_|refine zJ ?_|refine zK ?_|refine zL rfl ?_|refine zM rfl ?_))
    refine DW.drawS 9 Tryz.mixed (by kernel_rfl) (by decide) ?_
    dsimp only [List.take, List.drop]
    (repeat(first|refine zP ?_|refine zQ ?_|refine zR rfl (by decide) rfl ?_|refine zS ?_))
    (repeat(first|refine zC ?_|refine zD ?_|refine zE rfl (by decide) rfl ?_|refine zF ?_|refine zG ?_|refine zH ?_|refine zI ?_|refine zJ ?_|refine zK ?_|refine zL rfl ?_|refine zM rfl ?_))
    refine DW.cond rfl (fun hc => ?_) (fun hc => ?_)
    ·have hne : a[k] ≠ b[k] := by simpa using hc
     (repeat(first|refine zC ?_|refine zD ?_|refine zE rfl (by decide) rfl ?_|refine zF ?_|refine zG ?_|refine zH ?_|refine zI ?_|refine zJ ?_|refine zK ?_|refine zL rfl ?_|refine zM rfl ?_))
     refine DW.drawS 9 Tryz.mixed (by kernel_rfl) (by decide) ?_
     dsimp only [List.take, List.drop]
     (repeat(first|refine zP ?_|refine zQ ?_|refine zR rfl (by decide) rfl ?_|refine zS ?_))
     refine RO.sta (sta_min rfl rfl) rfl ?_
     (repeat(first|refine zC ?_|refine zD ?_|refine zE rfl (by decide) rfl ?_|refine zF ?_|refine zG ?_|refine zH ?_|refine zI ?_|refine zJ ?_|refine zK ?_|refine zL rfl ?_|refine zM rfl ?_))
     refine RO.sta (sta_max rfl rfl) rfl ?_
     (repeat(first|refine zC ?_|refine zD ?_|refine zE rfl (by decide) rfl ?_|refine zF ?_|refine zG ?_|refine zH ?_|refine zI ?_|refine zJ ?_|refine zK ?_|refine zL rfl ?_|refine zM rfl ?_))
     have hv : lexC b.reverse a.reverse = sgn (b[k] - a[k]) := by
      rw [← hg]
      unfold sgn
      split
      ·omega
      ·rw [if_pos (by omega)]; omega
     rw [hv, sgn_val]
     exact DW.ret ⟨.inl rfl, _, rfl, Over.refl _, .same _⟩
    ·have he : a[k] = b[k] := by simpa using hc
     rw [if_neg (by omega), if_neg (by omega)] at hg
     (repeat(first|refine zC ?_|refine zD ?_|refine zE rfl (by decide) rfl ?_|refine zF ?_|refine zG ?_|refine zH ?_|refine zI ?_|refine zJ ?_|refine zK ?_|refine zL rfl ?_|refine zM rfl ?_))
     refine ⟨(k : Int) - 1, ⟨by omega, by omega, ?_⟩, by dsimp only; omega, rfl, rfl, rfl, rfl, trivial⟩
     have : ((k : Int) - 1 + 1).toNat = k := by omega
     rw [this]
     exact hg
   ·have hge : i = -1 := by have := of_decide_eq_false hc; omega
    subst hge
    have : lexC b.reverse a.reverse = 0 := by rw [← hg]; simp [lexC]
    rw [this]
    (repeat(first|refine zC ?_|refine zD ?_|refine zE rfl (by decide) rfl ?_|refine zF ?_|refine zG ?_|refine zH ?_|refine zI ?_|refine zJ ?_|refine zK ?_|refine zL rfl ?_|refine zM rfl ?_))
    exact DW.ret ⟨.inl rfl, _, rfl, Over.refl _, .same _⟩
end
section
open Go.RowKit
set_option maxHeartbeats 4000000

theorem More_pure (r : Rg) {a b : List Int} (ha : MOk a) (hb : MOk b) (hab : a.length = b.length) : Pure Tryz.prog 82 [rgD r, intsD a, intsD b] (.bool (decide (0 < cmpM r.order a b))) := by
 intro H
 have hsa := ha.sum
 have hsb := hb.sum
 have hla := ha.len
 refine PureH.of_body Tryz.func82 rfl (by decide) (Nat.le_of_ble_eq_true rfl) fun w0 => ?_
 (repeat(first|refine zC ?_|refine zD ?_|refine zE rfl (by decide) rfl ?_|refine zF ?_|refine zG ?_|refine zH ?_|refine zI ?_|refine zJ ?_|refine zK ?_|refine zL rfl ?_|refine zM rfl ?_))
 refine RO.sta (sta_call rfl rfl (DegreeOf_pure ha _)) rfl ?_
 (repeat(first|refine zC ?_|refine zD ?_|refine zE rfl (by decide) rfl ?_|refine zF ?_|refine zG ?_|refine zH ?_|refine zI ?_|refine zJ ?_|refine zK ?_|refine zL rfl ?_|refine zM rfl ?_))
 refine RO.sta (sta_call rfl rfl (DegreeOf_pure hb _)) rfl ?_
 (repeat(first|refine zC ?_|refine zD ?_|refine zE rfl (by decide) rfl ?_|refine zF ?_|refine zG ?_|refine zH ?_|refine zI ?_|refine zJ ?_|refine zK ?_|refine zL rfl ?_|refine zM rfl ?_))
 refine DW.cond rfl (fun hc => ?_) (fun hc => ?_)
 ·have h : ¬ a.sum = b.sum := by simpa using hc
  have : decide (0 < cmpM r.order a b) = decide (b.sum < a.sum) := by
   unfold cmpM
   rw [if_neg h, decide_eq_decide]
   unfold sgn
   omega
  rw [this]
  (repeat(first|refine zC ?_|refine zD ?_|refine zE rfl (by decide) rfl ?_|refine zF ?_|refine zG ?_|refine zH ?_|refine zI ?_|refine zJ ?_|refine zK ?_|refine zL rfl ?_|refine zM rfl ?_))
  exact DW.ret ⟨.inl rfl, _, rfl, Over.refl _, .same _⟩
 ·have h : a.sum = b.sum := by simpa using hc
  (repeat(first|refine zC ?_|refine zD ?_|refine zE rfl (by decide) rfl ?_|refine zF ?_|refine zG ?_|refine zH ?_|refine zI ?_|refine zJ ?_|refine zK ?_|refine zL rfl ?_|refine zM rfl ?_))
  refine DW.cond rfl (fun hc => ?_) (fun hc => ?_)
  ·have h2 : r.order = 2 := by simpa using hc
   have hv : cmpM r.order a b = lexC a b := by unfold cmpM; rw [if_pos h, if_pos h2]
   rw [hv]
   (repeat(first|refine zC ?_|refine zD ?_|refine zE rfl (by decide) rfl ?_|refine zF ?_|refine zG ?_|refine zH ?_|refine zI ?_|refine zJ ?_|refine zK ?_|refine zL rfl ?_|refine zM rfl ?_))
   refine DW.loopI (fun k : Nat => k ≤ a.length ∧ lexC (a.drop k) (b.drop k) = lexC a b) (fun k => [(1, intsD a), (2, intsD b), (9, I k)]) (fun _ => H) (fun k => a.length - k) 0 ⟨Nat.zero_le _, rfl⟩ rfl ⟨rfl, rfl, rfl, trivial⟩ fun k ⟨hk, hg⟩ => ?_
   (repeat(first|refine zC ?_|refine zD ?_|refine zE rfl (by decide) rfl ?_|refine zF ?_|refine zG ?_|refine zH ?_|refine zI ?_|refine zJ ?_|refine zK ?_|refine zL rfl ?_|refine zM rfl ?_))
   refine DW.cond rfl (fun hc => ?_) (fun hc => ?_)
   ·have hlt : k < a.length := by have := of_decide_eq_true hc; omega
    have hlt2 : k < b.length := by omega
    rw [lexC_drop hlt hlt2] at hg
    (repeat(first|refine zC ?_|refine zD ?_|refine zE rfl (by decide) rfl ?_|refine zF ?_|refine zG ?_|refine zH ?_|refine zI ?_|refine zJ ?_|refine zK ?_|refine zL rfl ?_|refine zM rfl ?_))
    refine DW.drawS 9 Tryz.mixed (by kernel_rfl) (by decide) ?_
    dsimp only [List.take, List.drop]
    (repeat(first|refine zP ?_|refine zQ ?_|refine zR rfl (by decide) rfl ?_|refine zS ?_))
    (repeat(first|refine zC ?_|refine zD ?_|refine zE rfl (by decide) rfl ?_|refine zF ?_|refine zG ?_|refine zH ?_|refine zI ?_|refine zJ ?_|refine zK ?_|refine zL rfl ?_|refine zM rfl ?_))
    refine DW.cond rfl (fun hc => ?_) (fun hc => ?_)
    ·have hne : a[k] ≠ b[k] := by simpa using hc
     have : decide (0 < lexC a b) = decide (b[k] < a[k]) := by
      rw [← hg, decide_eq_decide]
      split
      ·omega
      ·rw [if_pos (by omega)]; omega
     rw [this]
     (repeat(first|refine zC ?_|refine zD ?_|refine zE rfl (by decide) rfl ?_|refine zF ?_|refine zG ?_|refine zH ?_|refine zI ?_|refine zJ ?_|refine zK ?_|refine zL rfl ?_|refine zM rfl ?_))
     refine DW.drawS 9 Tryz.mixed (by kernel_rfl) (by decide) ?_
     dsimp only [List.take, List.drop]
     (repeat(first|refine zP ?_|refine zQ ?_|refine zR rfl (by decide) rfl ?_|refine zS ?_))
     (repeat(first|refine zC ?_|refine zD ?_|refine zE rfl (by decide) rfl ?_|refine zF ?_|refine zG ?_|refine zH ?_|refine zI ?_|refine zJ ?_|refine zK ?_|refine zL rfl ?_|refine zM rfl ?_))
     exact DW.ret ⟨.inl rfl, _, rfl, Over.refl _, .same _⟩
    ·have he : a[k] = b[k] := by simpa using hc
     rw [if_neg (by omega), if_neg (by omega)] at hg
     (repeat(first|refine zC ?_|refine zD ?_|refine zE rfl (by decide) rfl ?_|refine zF ?_|refine zG ?_|refine zH ?_|refine zI ?_|refine zJ ?_|refine zK ?_|refine zL rfl ?_|refine zM rfl ?_))
     exact ⟨k + 1, ⟨hlt, hg⟩, by dsimp only; omega, rfl, rfl, rfl, rfl, trivial⟩
   ·have hge : k = a.length := by have := of_decide_eq_false hc; omega
    subst hge
    have : lexC a b = 0 := by rw [← hg]; simp [lexC]
    rw [this]
    (repeat(first|refine zC ?_|refine zD ?_|refine zE rfl (by decide) rfl ?_|refine zF ?_|refine zG ?_|refine zH ?_|refine zI ?_|refine zJ ?_|refine zK ?_|refine zL rfl ?_|refine zM rfl ?_))
    exact DW.ret ⟨.inl rfl, _, rfl, Over.refl _, .same _⟩
  ·have h2 : ¬ r.order = 2 := by simpa using hc
   have hv : cmpM r.order a b = lexC b.reverse a.reverse := by unfold cmpM; rw [if_pos h, if_neg h2]
   rw [hv]
   (repeat(first|refine zC ?_|refine zD ?_|refine zE rfl (by decide) rfl ?_|refine zF ?_|refine zG ?_|refine zH ?_|refine zI ?_|refine zJ ?_|refine zK ?_|refine zL rfl ?_|refine zM rfl ?_))
   refine DW.loopI (fun i : Int => -1 ≤ i ∧ i < a.length ∧ lexC (b.take (i + 1).toNat).reverse (a.take (i + 1).toNat).reverse = lexC b.reverse a.reverse) (fun i => [(1, intsD a), (2, intsD b), (10, I i)]) (fun _ => H) (fun i => (i + 1).toNat) ((a.length : Int) - 1)
    ⟨by omega, by omega, by
     have : ((a.length : Int) - 1 + 1).toNat = a.length := by omega
     rw [this, List.take_length, hab, List.take_length]⟩ rfl ⟨rfl, rfl, rfl, trivial⟩ fun i ⟨hi1, hi2, hg⟩ => ?_
   (repeat(first|refine zC ?_|refine zD ?_|refine zE rfl (by decide) rfl ?_|refine zF ?_|refine zG ?_|refine zH ?_|refine zI ?_|refine zJ ?_|refine zK ?_|refine zL rfl ?_|refine zM rfl ?_))
   refine DW.cond rfl (fun hc => ?_) (fun hc => ?_)
   ·obtain ⟨k, rfl⟩ : ∃ k : Nat, i = k := ⟨i.toNat, by have := of_decide_eq_true hc; omega⟩
    have hlt : k < a.length := by omega
    have hlt2 : k < b.length := by omega
    have hk1 : ((k : Int) + 1).toNat = k + 1 := by omega
    rw [hk1, lexC_take_rev hlt hlt2] at hg
    (repeat(first|refine zC ?_|refine zD ?_|refine zE rfl (by decide) rfl ?_|refine zF ?_|refine zG ?_|refine zH ?_|refine zI ?_|refine zJ ?_|refine zK ?_|refine zL rfl ?_|refine zM rfl ?_))
    refine DW.drawS 9 Tryz.mixed (by kernel_rfl) (by decide) ?_
    dsimp only [List.take, List.drop]
    (repeat(first|refine zP ?_|refine zQ ?_|refine zR rfl (by decide) rfl ?_|refine zS ?_))
    (repeat(first|refine zC ?_|refine zD ?_|refine zE rfl (by decide) rfl ?_|refine zF ?_|refine zG ?_|refine zH ?_|refine zI ?_|refine zJ ?_|refine zK ?_|refine zL rfl ?_|refine zM rfl ?_))
    refine DW.cond rfl (fun hc => ?_) (fun hc => ?_)
    ·have hne : a[k] ≠ b[k] := by simpa using hc
     have : decide (0 < lexC b.reverse a.reverse) = decide (a[k] < b[k]) := by
      rw [← hg, decide_eq_decide]
      split
      ·omega
      ·rw [if_pos (by omega)]; omega
     rw [this]
     (repeat(first|refine zC ?_|refine zD ?_|refine zE rfl (by decide) rfl ?_|refine zF ?_|refine zG ?_|refine zH ?_|refine zI ?_|refine zJ ?_|refine zK ?_|refine zL rfl ?_|refine zM rfl ?_))
     refine DW.drawS 9 Tryz.mixed (by kernel_rfl) (by decide) ?_
     dsimp only [List.take, List.drop]
     (repeat(first|refine zP ?_|refine zQ ?_|refine zR rfl (by decide) rfl ?_|refine zS ?_))
     (repeat(first|refine zC ?_|refine zD ?_|refine zE rfl (by decide) rfl ?_|refine zF ?_|refine zG ?_|refine zH ?_|refine zI ?_|refine zJ ?_|refine zK ?_|refine zL rfl ?_|refine zM rfl ?_))
     exact DW.ret ⟨.inl rfl, _, rfl, Over.refl _, .same _⟩
    ·have he : a[k] = b[k] := by simpa using hc
     rw [if_neg (by omega), if_neg (by omega)] at hg
     (repeat(first|refine zC ?_|refine zD ?_|refine zE rfl (by decide) rfl ?_|refine zF ?_|refine zG ?_|refine zH ?_|refine zI ?_|refine zJ ?_|refine zK ?_|refine zL rfl ?_|refine zM rfl ?_))
     refine ⟨(k : Int) - 1, ⟨by omega, by omega, ?_⟩, by dsimp only; omega, rfl, rfl, rfl, rfl, trivial⟩
     have : ((k : Int) - 1 + 1).toNat = k := by omega
     rw [this]
     exact hg
   ·have hge : i = -1 := by have := of_decide_eq_false hc; omega
    subst hge
    have : lexC b.reverse a.reverse = 0 := by rw [← hg]; simp [lexC]
    rw [this]
    (repeat(first|refine zC ?_|refine zD ?_|refine zE rfl (by decide) rfl ?_|refine zF ?_|refine zG ?_|refine zH ?_|refine zI ?_|refine zJ ?_|refine zK ?_|refine zL rfl ?_|refine zM rfl ?_))
    exact DW.ret ⟨.inl rfl, _, rfl, Over.refl _, .same _⟩
end
section
open Go.RowKit
set_option maxHeartbeats 8000000

theorem pOwn_pure (r : Rg) (f : Pl) (hr : ringCk r = 0) (hl : f.length ≤ 4611686018427387904) : Pure Tryz.prog 98 [rgD r, plD f] (I (polyCk r f)) := by
 have hr2 := ringCk_ok hr
 intro H
 refine PureH.of_body Tryz.func98 rfl (by decide) (Nat.le_of_ble_eq_true rfl) fun w0 => ?_
 (repeat(first|refine zA ?_|refine zB ?_|refine zE rfl (by decide) rfl ?_|refine zF ?_|refine zG ?_|refine zH ?_|refine zI ?_|refine zJ ?_|refine zK ?_|refine zL rfl ?_|refine zM rfl ?_))
 refine DW.cond rfl (fun hb => ?_) (fun hb => ?_)
 ·have h : polyCk r f = 2 := by unfold polyCk; rw [if_pos (by have := of_decide_eq_true hb; omega)]
  rw [h]
  (repeat(first|refine zA ?_|refine zB ?_|refine zE rfl (by decide) rfl ?_|refine zF ?_|refine zG ?_|refine zH ?_|refine zI ?_|refine zJ ?_|refine zK ?_|refine zL rfl ?_|refine zM rfl ?_))
  exact DW.ret ⟨.inl rfl, _, rfl, Over.refl _, .same _⟩
 have hck : polyCk r f = polyGo r none f := by unfold polyCk; rw [if_neg (by have := of_decide_eq_false hb; omega)]
 rw [hck]
 clear hb
 (repeat(first|refine zA ?_|refine zB ?_|refine zE rfl (by decide) rfl ?_|refine zF ?_|refine zG ?_|refine zH ?_|refine zI ?_|refine zJ ?_|refine zK ?_|refine zL rfl ?_|refine zM rfl ?_))
 refine DW.loopG (fun k : Nat => k ≤ f.length ∧ polyGo r (prevAt f k) (f.drop k) = polyGo r none f ∧ ∀ (j : Nat) (hj : j < f.length), j < k → monoCk r f[j].e = 0) (fun k => [(1, plD f), (2, .ipt 4 [rgD r] 0 0), (11, plD f), (12, I f.length), (13, I k)]) (fun _ => H) (fun k => f.length - k) 0
  ⟨Nat.zero_le _, rfl, fun j hj h => absurd h (Nat.not_lt_zero _)⟩ (Heap.sub_refl _) (.one rfl (.one rfl (.one rfl (.one rfl (.one rfl trivial))))) fun k ⟨hk, hg, hm⟩ => ?_
 (repeat(first|refine zA ?_|refine zB ?_|refine zE rfl (by decide) rfl ?_|refine zF ?_|refine zG ?_|refine zH ?_|refine zI ?_|refine zJ ?_|refine zK ?_|refine zL rfl ?_|refine zM rfl ?_))
 refine DW.cond rfl (fun hb => ?_) (fun hb => ?_)
 ·have hlt : k < f.length := by have := of_decide_eq_true hb; omega
  rw [polyGo_drop hlt] at hg
  clear hb
  (repeat(first|refine zA ?_|refine zB ?_|refine zE rfl (by decide) rfl ?_|refine zF ?_|refine zG ?_|refine zH ?_|refine zI ?_|refine zJ ?_|refine zK ?_|refine zL rfl ?_|refine zM rfl ?_))
  (refine RO.dyn rfl (d_alloc fun bv hbv => ?_); (repeat(first|refine zA ?_|refine zB ?_|refine zE rfl (by decide) rfl ?_)); refine RO.dyn rfl (d_storeTm rfl rfl (Heap.set_self _ _ _) rfl ?_); rw [Heap.set_set])
  (repeat(first|refine zA ?_|refine zB ?_|refine zE rfl (by decide) rfl ?_|refine zF ?_|refine zG ?_|refine zH ?_|refine zI ?_|refine zJ ?_|refine zK ?_|refine zL rfl ?_|refine zM rfl ?_))
  cases h1 : decide (f[k].c < 1)
  case true =>
   rw [if_pos (.inl (of_decide_eq_true h1))] at hg
   rw [← hg]
   (repeat(first|refine zA ?_|refine zB ?_|refine zE rfl (by decide) rfl ?_|refine zF ?_|refine zG ?_|refine zH ?_|refine zI ?_|refine zJ ?_|refine zK ?_|refine zL rfl ?_|refine zM rfl ?_))
   exact DW.ret ⟨.inl rfl, _, rfl, (Over.refl _).set hbv, .same _⟩
  have g1 := of_decide_eq_false h1
  (repeat(first|refine zA ?_|refine zB ?_|refine zE rfl (by decide) rfl ?_|refine zF ?_|refine zG ?_|refine zH ?_|refine zI ?_|refine zJ ?_|refine zK ?_|refine zL rfl ?_|refine zM rfl ?_))
  cases h2 : decide (r.p ≤ f[k].c)
  case true =>
   rw [if_pos (.inr (of_decide_eq_true h2))] at hg
   rw [← hg]
   (repeat(first|refine zA ?_|refine zB ?_|refine zE rfl (by decide) rfl ?_|refine zF ?_|refine zG ?_|refine zH ?_|refine zI ?_|refine zJ ?_|refine zK ?_|refine zL rfl ?_|refine zM rfl ?_))
   exact DW.ret ⟨.inl rfl, _, rfl, (Over.refl _).set hbv, .same _⟩
  have g2 := of_decide_eq_false h2
  rw [if_neg (by omega)] at hg
  (repeat(first|refine zA ?_|refine zB ?_|refine zE rfl (by decide) rfl ?_|refine zF ?_|refine zG ?_|refine zH ?_|refine zI ?_|refine zJ ?_|refine zK ?_|refine zL rfl ?_|refine zM rfl ?_))
  refine RO.sta (sta_call rfl rfl (Own_pure r f[k].e hr2.2.1.2 _)) rfl ?_
  (repeat(first|refine zA ?_|refine zB ?_|refine zE rfl (by decide) rfl ?_|refine zF ?_|refine zG ?_|refine zH ?_|refine zI ?_|refine zJ ?_|refine zK ?_|refine zL rfl ?_|refine zM rfl ?_))
  by_cases hmk : monoCk r f[k].e = 0
  case neg =>
   rw [if_pos hmk] at hg
   rw [← hg, show (monoCk r f[k].e != 0) = true by simpa using hmk]
   (repeat(first|refine zA ?_|refine zB ?_|refine zE rfl (by decide) rfl ?_|refine zF ?_|refine zG ?_|refine zH ?_|refine zI ?_|refine zJ ?_|refine zK ?_|refine zL rfl ?_|refine zM rfl ?_))
   exact DW.ret ⟨.inl rfl, _, rfl, (Over.refl _).set hbv, .same _⟩
  rw [if_neg (by simpa using hmk)] at hg
  rw [show (monoCk r f[k].e != 0) = false by simpa using hmk]
  (repeat(first|refine zA ?_|refine zB ?_|refine zE rfl (by decide) rfl ?_|refine zF ?_|refine zG ?_|refine zH ?_|refine zI ?_|refine zJ ?_|refine zK ?_|refine zL rfl ?_|refine zM rfl ?_))
  refine DW.drawS 15 Tryz.mixed (by kernel_rfl) (by decide) ?_
  dsimp only [List.take, List.drop]
  (repeat(first|refine zN ?_|refine zO ?_|refine zR rfl (by decide) rfl ?_|refine zS ?_))
  have next : behind r.order (prevAt f k) f[k] = false → polyGo r (prevAt f (k + 1)) (f.drop (k + 1)) = polyGo r none f ∧ ∀ (j : Nat) (hj : j < f.length), j < k + 1 → monoCk r f[j].e = 0 := fun h => by
   rw [if_neg (by rw [h]; simp)] at hg
   refine ⟨hg, fun j hj hjk => ?_⟩
   by_cases hjk2 : j = k
   ·subst hjk2; exact hmk
   ·exact hm j hj (by omega)
  cases h3 : decide ((0 : Int) < (k : Int))
  case false =>
   have hk0 : k = 0 := by have := of_decide_eq_false h3; omega
   have hbf : behind r.order (prevAt f k) f[k] = false := by rw [show prevAt f k = none by simp [prevAt, hk0]]; rfl
   obtain ⟨n1, n2⟩ := next hbf
   (repeat(first|refine zN ?_|refine zO ?_|refine zR rfl (by decide) rfl ?_|refine zS ?_))
   (repeat(first|refine zA ?_|refine zB ?_|refine zE rfl (by decide) rfl ?_|refine zF ?_|refine zG ?_|refine zH ?_|refine zI ?_|refine zJ ?_|refine zK ?_|refine zL rfl ?_|refine zM rfl ?_))
   exact ⟨k + 1, ⟨hlt, n1, n2⟩, by dsimp only; omega, Heap.sub_set _ hbv, .one rfl (.one rfl (.one rfl (.one rfl (.one rfl trivial))))⟩
  have hk0 : 0 < k := by have := of_decide_eq_true h3; omega
  have hpv : prevAt f k = some (f[k - 1]'(by omega)) := by
   unfold prevAt
   rw [if_neg (by omega), List.getElem?_eq_getElem (by omega)]
  obtain ⟨m1, m2, _, _⟩ := MOk.of hr2.2.1.2 hmk
  obtain ⟨p1, p2, _, _⟩ := MOk.of hr2.2.1.2 (hm (k - 1) (by omega) (by omega))
  (repeat(first|refine zN ?_|refine zO ?_|refine zR rfl (by decide) rfl ?_|refine zS ?_))
  refine RS.yes rfl (fun H' hov => s_indexI (i := k - 1) rfl rfl (by omega) (by omega)) rfl ?_
  (repeat(first|refine zN ?_|refine zO ?_|refine zR rfl (by decide) rfl ?_|refine zS ?_))
  refine RS.yes rfl (fun H' hov => sta_call rfl rfl (Compare_pure r m1 p1 (by omega) _)) rfl ?_
  (repeat(first|refine zN ?_|refine zO ?_|refine zR rfl (by decide) rfl ?_|refine zS ?_))
  cases h4 : decide (0 ≤ cmpM r.order f[k].e (f[k - 1]'(by omega)).e)
  case true =>
   have hbt : behind r.order (prevAt f k) f[k] = true := by rw [hpv]; exact h4
   rw [if_pos hbt] at hg
   rw [← hg]
   (repeat(first|refine zA ?_|refine zB ?_|refine zE rfl (by decide) rfl ?_|refine zF ?_|refine zG ?_|refine zH ?_|refine zI ?_|refine zJ ?_|refine zK ?_|refine zL rfl ?_|refine zM rfl ?_))
   exact DW.ret ⟨.inl rfl, _, rfl, (Over.refl _).set hbv, .same _⟩
  have hbf : behind r.order (prevAt f k) f[k] = false := by rw [hpv]; exact h4
  obtain ⟨n1, n2⟩ := next hbf
  (repeat(first|refine zA ?_|refine zB ?_|refine zE rfl (by decide) rfl ?_|refine zF ?_|refine zG ?_|refine zH ?_|refine zI ?_|refine zJ ?_|refine zK ?_|refine zL rfl ?_|refine zM rfl ?_))
  exact ⟨k + 1, ⟨hlt, n1, n2⟩, by dsimp only; omega, Heap.sub_set _ hbv, .one rfl (.one rfl (.one rfl (.one rfl (.one rfl trivial))))⟩
 ·have hke : k = f.length := by have := of_decide_eq_false hb; omega
  have h0 : polyGo r none f = 0 := by rw [← hg, hke, List.drop_length]; rfl
  rw [h0]
  (repeat(first|refine zA ?_|refine zB ?_|refine zE rfl (by decide) rfl ?_|refine zF ?_|refine zG ?_|refine zH ?_|refine zI ?_|refine zJ ?_|refine zK ?_|refine zL rfl ?_|refine zM rfl ?_))
  exact DW.ret ⟨.inl rfl, _, rfl, Over.refl _, .same _⟩

theorem CheckOne_pure (r : Rg) (f : Pl) (hr : ringCk r = 0) (hl : f.length ≤ 4611686018427387904) : Pure Tryz.prog 79 [rgD r, plD f] (I (polyCk r f)) := by
 have hr2 := ringCk_ok hr
 have hp2 := ckP_ok hr2.1
 intro H
 refine PureH.of_body Tryz.func79 rfl (by decide) (Nat.le_of_ble_eq_true rfl) fun w0 => ?_
 (repeat(first|refine zA ?_|refine zB ?_|refine zE rfl (by decide) rfl ?_|refine zF ?_|refine zG ?_|refine zH ?_|refine zI ?_|refine zJ ?_|refine zK ?_|refine zL rfl ?_|refine zM rfl ?_))
 refine DW.cond rfl (fun hb => ?_) (fun hb => ?_)
 ·have h : polyCk r f = 2 := by unfold polyCk; rw [if_pos (by have := of_decide_eq_true hb; omega)]
  rw [h]
  (repeat(first|refine zA ?_|refine zB ?_|refine zE rfl (by decide) rfl ?_|refine zF ?_|refine zG ?_|refine zH ?_|refine zI ?_|refine zJ ?_|refine zK ?_|refine zL rfl ?_|refine zM rfl ?_))
  exact DW.ret ⟨.inl rfl, _, rfl, Over.refl _, .same _⟩
 have hck : polyCk r f = polyGo r none f := by unfold polyCk; rw [if_neg (by have := of_decide_eq_false hb; omega)]
 rw [hck]
 clear hb
 (repeat(first|refine zA ?_|refine zB ?_|refine zE rfl (by decide) rfl ?_|refine zF ?_|refine zG ?_|refine zH ?_|refine zI ?_|refine zJ ?_|refine zK ?_|refine zL rfl ?_|refine zM rfl ?_))
 refine DW.loopI (fun k : Nat => k ≤ f.length ∧ polyGo r (prevAt f k) (f.drop k) = polyGo r none f ∧ ∀ (j : Nat) (hj : j < f.length), j < k → monoCk r f[j].e = 0) (fun k => [(1, plD f), (2, .ipt 4 [rgD r] 0 0), (5, I k)]) (fun _ => H) (fun k => f.length - k) 0
  ⟨Nat.zero_le _, rfl, fun j hj h => absurd h (Nat.not_lt_zero _)⟩ rfl ⟨rfl, rfl, rfl, trivial⟩ fun k ⟨hk, hg, hm⟩ => ?_
 (repeat(first|refine zA ?_|refine zB ?_|refine zE rfl (by decide) rfl ?_|refine zF ?_|refine zG ?_|refine zH ?_|refine zI ?_|refine zJ ?_|refine zK ?_|refine zL rfl ?_|refine zM rfl ?_))
 refine DW.cond rfl (fun hb => ?_) (fun hb => ?_)
 ·have hlt : k < f.length := by have := of_decide_eq_true hb; omega
  rw [polyGo_drop hlt] at hg
  clear hb
  (repeat(first|refine zA ?_|refine zB ?_|refine zE rfl (by decide) rfl ?_|refine zF ?_|refine zG ?_|refine zH ?_|refine zI ?_|refine zJ ?_|refine zK ?_|refine zL rfl ?_|refine zM rfl ?_))
  refine DW.drawS 10 Tryz.mixed (by kernel_rfl) (by decide) ?_
  dsimp only [List.take, List.drop]
  (repeat(first|refine zN ?_|refine zO ?_|refine zR rfl (by decide) rfl ?_|refine zS ?_))
  refine RS.sta (fun H' hov => sta_call rfl rfl (between_pure _ _ _ _)) rfl ?_
  (repeat(first|refine zN ?_|refine zO ?_|refine zR rfl (by decide) rfl ?_|refine zS ?_))
  cases h1 : (decide (1 ≤ f[k].c) && decide (f[k].c ≤ r.p - 1))
  case false =>
   have hbad : f[k].c < 1 ∨ r.p ≤ f[k].c := by
    simp only [Bool.and_eq_false_iff, decide_eq_false_iff_not] at h1
    omega
   rw [if_pos hbad] at hg
   rw [← hg]
   (repeat(first|refine zA ?_|refine zB ?_|refine zE rfl (by decide) rfl ?_|refine zF ?_|refine zG ?_|refine zH ?_|refine zI ?_|refine zJ ?_|refine zK ?_|refine zL rfl ?_|refine zM rfl ?_))
   exact DW.ret ⟨.inl rfl, _, rfl, Over.refl _, .same _⟩
  have hgood : ¬ (f[k].c < 1 ∨ r.p ≤ f[k].c) := by
   simp only [Bool.and_eq_true, decide_eq_true_eq] at h1
   omega
  rw [if_neg hgood] at hg
  (repeat(first|refine zA ?_|refine zB ?_|refine zE rfl (by decide) rfl ?_|refine zF ?_|refine zG ?_|refine zH ?_|refine zI ?_|refine zJ ?_|refine zK ?_|refine zL rfl ?_|refine zM rfl ?_))
  refine DW.drawS 8 Tryz.mixed (by kernel_rfl) (by decide) ?_
  dsimp only [List.take, List.drop]
  (repeat(first|refine zN ?_|refine zO ?_|refine zR rfl (by decide) rfl ?_|refine zS ?_))
  refine RS.sta (fun H' hov => sta_call rfl rfl (CheckMono_pure r f[k].e hr2.2.1.2 _)) rfl ?_
  (repeat(first|refine zN ?_|refine zO ?_|refine zR rfl (by decide) rfl ?_|refine zS ?_))
  (repeat(first|refine zA ?_|refine zB ?_|refine zE rfl (by decide) rfl ?_|refine zF ?_|refine zG ?_|refine zH ?_|refine zI ?_|refine zJ ?_|refine zK ?_|refine zL rfl ?_|refine zM rfl ?_))
  by_cases hmk : monoCk r f[k].e = 0
  case neg =>
   rw [if_pos hmk] at hg
   rw [← hg, show (monoCk r f[k].e != 0) = true by simpa using hmk]
   (repeat(first|refine zA ?_|refine zB ?_|refine zE rfl (by decide) rfl ?_|refine zF ?_|refine zG ?_|refine zH ?_|refine zI ?_|refine zJ ?_|refine zK ?_|refine zL rfl ?_|refine zM rfl ?_))
   exact DW.ret ⟨.inl rfl, _, rfl, Over.refl _, .same _⟩
  rw [if_neg (by simpa using hmk)] at hg
  rw [show (monoCk r f[k].e != 0) = false by simpa using hmk]
  (repeat(first|refine zA ?_|refine zB ?_|refine zE rfl (by decide) rfl ?_|refine zF ?_|refine zG ?_|refine zH ?_|refine zI ?_|refine zJ ?_|refine zK ?_|refine zL rfl ?_|refine zM rfl ?_))
  refine DW.drawS 18 Tryz.mixed (by kernel_rfl) (by decide) ?_
  dsimp only [List.take, List.drop]
  (repeat(first|refine zN ?_|refine zO ?_|refine zR rfl (by decide) rfl ?_|refine zS ?_))
  have next : behind r.order (prevAt f k) f[k] = false → polyGo r (prevAt f (k + 1)) (f.drop (k + 1)) = polyGo r none f ∧ ∀ (j : Nat) (hj : j < f.length), j < k + 1 → monoCk r f[j].e = 0 := fun h => by
   rw [if_neg (by rw [h]; simp)] at hg
   refine ⟨hg, fun j hj hjk => ?_⟩
   by_cases hjk2 : j = k
   ·subst hjk2; exact hmk
   ·exact hm j hj (by omega)
  cases h3 : decide ((0 : Int) < (k : Int))
  case false =>
   have hk0 : k = 0 := by have := of_decide_eq_false h3; omega
   have hbf : behind r.order (prevAt f k) f[k] = false := by rw [show prevAt f k = none by simp [prevAt, hk0]]; rfl
   obtain ⟨n1, n2⟩ := next hbf
   (repeat(first|refine zN ?_|refine zO ?_|refine zR rfl (by decide) rfl ?_|refine zS ?_))
   (repeat(first|refine zA ?_|refine zB ?_|refine zE rfl (by decide) rfl ?_|refine zF ?_|refine zG ?_|refine zH ?_|refine zI ?_|refine zJ ?_|refine zK ?_|refine zL rfl ?_|refine zM rfl ?_))
   exact ⟨k + 1, ⟨hlt, n1, n2⟩, by dsimp only; omega, rfl, rfl, rfl, rfl, trivial⟩
  have hk0 : 0 < k := by have := of_decide_eq_true h3; omega
  have hpv : prevAt f k = some (f[k - 1]'(by omega)) := by
   unfold prevAt
   rw [if_neg (by omega), List.getElem?_eq_getElem (by omega)]
  obtain ⟨m1, m2, _, _⟩ := MOk.of hr2.2.1.2 hmk
  obtain ⟨p1, p2, _, _⟩ := MOk.of hr2.2.1.2 (hm (k - 1) (by omega) (by omega))
  (repeat(first|refine zN ?_|refine zO ?_|refine zR rfl (by decide) rfl ?_|refine zS ?_))
  refine RS.yes rfl (fun H' hov => s_indexI (i := k - 1) rfl rfl (by omega) (by omega)) rfl ?_
  (repeat(first|refine zN ?_|refine zO ?_|refine zR rfl (by decide) rfl ?_|refine zS ?_))
  refine RS.yes rfl (fun H' hov => sta_call rfl rfl (More_pure r p1 m1 (by omega) _)) rfl ?_
  (repeat(first|refine zN ?_|refine zO ?_|refine zR rfl (by decide) rfl ?_|refine zS ?_))
  have hanti := cmpM_anti r.order (f[k - 1]'(by omega)).e f[k].e
  cases h4 : decide (0 < cmpM r.order (f[k - 1]'(by omega)).e f[k].e)
  case false =>
   have hbt : behind r.order (prevAt f k) f[k] = true := by rw [hpv]; exact decide_eq_true (by have := of_decide_eq_false h4; omega)
   rw [if_pos hbt] at hg
   rw [← hg]
   (repeat(first|refine zA ?_|refine zB ?_|refine zE rfl (by decide) rfl ?_|refine zF ?_|refine zG ?_|refine zH ?_|refine zI ?_|refine zJ ?_|refine zK ?_|refine zL rfl ?_|refine zM rfl ?_))
   exact DW.ret ⟨.inl rfl, _, rfl, Over.refl _, .same _⟩
  have hbf : behind r.order (prevAt f k) f[k] = false := by rw [hpv]; exact decide_eq_false (by have := of_decide_eq_true h4; omega)
  obtain ⟨n1, n2⟩ := next hbf
  (repeat(first|refine zA ?_|refine zB ?_|refine zE rfl (by decide) rfl ?_|refine zF ?_|refine zG ?_|refine zH ?_|refine zI ?_|refine zJ ?_|refine zK ?_|refine zL rfl ?_|refine zM rfl ?_))
  exact ⟨k + 1, ⟨hlt, n1, n2⟩, by dsimp only; omega, rfl, rfl, rfl, rfl, trivial⟩
 ·have hke : k = f.length := by have := of_decide_eq_false hb; omega
  have h0 : polyGo r none f = 0 := by rw [← hg, hke, List.drop_length]; rfl
  rw [h0]
  (repeat(first|refine zA ?_|refine zB ?_|refine zE rfl (by decide) rfl ?_|refine zF ?_|refine zG ?_|refine zH ?_|refine zI ?_|refine zJ ?_|refine zK ?_|refine zL rfl ?_|refine zM rfl ?_))
  exact DW.ret ⟨.inl rfl, _, rfl, Over.refl _, .same _⟩
end
section
open Go.RowKit
set_option maxHeartbeats 8000000

instance : BuildT Tryz.prog 55 [I 0, .nil] #[(0, 1), (1, 1)] := .of (by kernel_rfl) Tryz.underlying55 (by kernel_rfl) rfl
instance : SizeT Tryz.prog 55 2 := .of (by kernel_rfl)

theorem top_pure (f : Pl) (hl : f.length ≤ 4000000000000) (hm : ∀ t ∈ f, MOk t.e) : Pure Tryz.prog 58 [plD f] (I (topT f)) := by
 intro H
 refine PureH.of_body Tryz.func58 rfl (by decide) (Nat.le_of_ble_eq_true rfl) fun w0 => ?_
 (repeat(first|refine zA ?_|refine zB ?_|refine zE rfl (by decide) rfl ?_|refine zF ?_|refine zG ?_|refine zH ?_|refine zI ?_|refine zJ ?_|refine zK ?_|refine zL rfl ?_|refine zM rfl ?_))
 cases f with
 | nil =>
  (repeat(first|refine zA ?_|refine zB ?_|refine zE rfl (by decide) rfl ?_|refine zF ?_|refine zG ?_|refine zH ?_|refine zI ?_|refine zJ ?_|refine zK ?_|refine zL rfl ?_|refine zM rfl ?_))
  exact DW.ret ⟨.inl rfl, _, rfl, Over.refl _, .same _⟩
 | cons t f =>
  have h0 : 0 < (t :: f).length := by simp
  rw [show (((t :: f).length : Int) == 0) = false by rw [beq_eq_false_iff_ne]; simp; omega]
  (repeat(first|refine zA ?_|refine zB ?_|refine zE rfl (by decide) rfl ?_|refine zF ?_|refine zG ?_|refine zH ?_|refine zI ?_|refine zJ ?_|refine zK ?_|refine zL rfl ?_|refine zM rfl ?_))
  refine RO.sta (sta_call rfl rfl (Degree_pure (hm t (by simp)) _)) rfl ?_
  (repeat(first|refine zA ?_|refine zB ?_|refine zE rfl (by decide) rfl ?_|refine zF ?_|refine zG ?_|refine zH ?_|refine zI ?_|refine zJ ?_|refine zK ?_|refine zL rfl ?_|refine zM rfl ?_))
  exact DW.ret ⟨.inl rfl, _, rfl, Over.refl _, .same _⟩

theorem TopOf_pure (f : Pl) (hl : f.length ≤ 4000000000000) (hm : ∀ t ∈ f, MOk t.e) (ht : ∀ t ∈ f, t.e.sum ≤ topT f) : Pure Tryz.prog 37 [plD f] (I (topT f)) := by
 intro H
 refine PureH.of_body Tryz.func37 rfl (by decide) (Nat.le_of_ble_eq_true rfl) fun w0 => ?_
 (repeat(first|refine zA ?_|refine zB ?_|refine zE rfl (by decide) rfl ?_|refine zF ?_|refine zG ?_|refine zH ?_|refine zI ?_|refine zJ ?_|refine zK ?_|refine zL rfl ?_|refine zM rfl ?_))
 refine DW.loopI (fun x : Nat × Int => x.1 ≤ f.length ∧ (x.1 = 0 → x.2 = -1) ∧ (x.1 ≠ 0 → x.2 = topT f)) (fun x => [(0, plD f), (3, I x.2), (4, I x.1)]) (fun _ => H) (fun x => f.length - x.1) (0, -1) ⟨Nat.zero_le _, fun _ => rfl, fun h => absurd rfl h⟩ rfl ⟨rfl, rfl, rfl, trivial⟩ fun ⟨k, out⟩ ⟨hk, h0, h1⟩ => ?_
 dsimp only at hk h0 h1
 dsimp only
 (repeat(first|refine zA ?_|refine zB ?_|refine zE rfl (by decide) rfl ?_|refine zF ?_|refine zG ?_|refine zH ?_|refine zI ?_|refine zJ ?_|refine zK ?_|refine zL rfl ?_|refine zM rfl ?_))
 refine DW.cond rfl (fun hb => ?_) (fun hb => ?_)
 ·have hlt : k < f.length := by have := of_decide_eq_true hb; omega
  have hmk := hm _ (List.getElem_mem hlt)
  have hs := hmk.sum
  have htk := ht _ (List.getElem_mem hlt)
  clear hb
  (repeat(first|refine zA ?_|refine zB ?_|refine zE rfl (by decide) rfl ?_|refine zF ?_|refine zG ?_|refine zH ?_|refine zI ?_|refine zJ ?_|refine zK ?_|refine zL rfl ?_|refine zM rfl ?_))
  refine RO.sta (sta_call rfl rfl (DegreeOf_pure hmk _)) rfl ?_
  (repeat(first|refine zA ?_|refine zB ?_|refine zE rfl (by decide) rfl ?_|refine zF ?_|refine zG ?_|refine zH ?_|refine zI ?_|refine zJ ?_|refine zK ?_|refine zL rfl ?_|refine zM rfl ?_))
  by_cases hk0 : k = 0
  ·subst hk0
   have ho : out = -1 := h0 rfl
   have hf0 : f[0].e.sum = topT f := by
    cases f with
    | nil => simp at hlt
    | cons t f => rfl
   rw [show decide (out < f[0].e.sum) = true from decide_eq_true (by omega)]
   (repeat(first|refine zA ?_|refine zB ?_|refine zE rfl (by decide) rfl ?_|refine zF ?_|refine zG ?_|refine zH ?_|refine zI ?_|refine zJ ?_|refine zK ?_|refine zL rfl ?_|refine zM rfl ?_))
   refine RO.sta (sta_call rfl rfl (DegreeOf_pure hmk _)) rfl ?_
   (repeat(first|refine zA ?_|refine zB ?_|refine zE rfl (by decide) rfl ?_|refine zF ?_|refine zG ?_|refine zH ?_|refine zI ?_|refine zJ ?_|refine zK ?_|refine zL rfl ?_|refine zM rfl ?_))
   exact ⟨(1, f[0].e.sum), ⟨hlt, fun h => by simp at h, fun _ => hf0⟩, by dsimp only; omega, rfl, rfl, rfl, rfl, trivial⟩
  ·have ho := h1 hk0
   rw [show decide (out < f[k].e.sum) = false from decide_eq_false (by omega)]
   (repeat(first|refine zA ?_|refine zB ?_|refine zE rfl (by decide) rfl ?_|refine zF ?_|refine zG ?_|refine zH ?_|refine zI ?_|refine zJ ?_|refine zK ?_|refine zL rfl ?_|refine zM rfl ?_))
   exact ⟨(k + 1, out), ⟨hlt, fun h => by simp at h, fun _ => ho⟩, by dsimp only; omega, rfl, rfl, rfl, rfl, trivial⟩
 ·have hke : k = f.length := by have := of_decide_eq_false hb; omega
  have ho : out = topT f := by
   by_cases hk0 : k = 0
   ·have : f = [] := List.eq_nil_of_length_eq_zero (by omega)
    rw [h0 hk0, this]; rfl
   ·exact h1 hk0
  rw [← ho]
  (repeat(first|refine zA ?_|refine zB ?_|refine zE rfl (by decide) rfl ?_|refine zF ?_|refine zG ?_|refine zH ?_|refine zI ?_|refine zJ ?_|refine zK ?_|refine zL rfl ?_|refine zM rfl ?_))
  exact DW.ret ⟨.inl rfl, _, rfl, Over.refl _, .same _⟩
end
end Go.Proofs.YtfjmdhemlfafbaaGreat
