/-
  The law of orders, walked. No condition.
-/
import Derived.Test.YtcdihmhmoddppaaGreatKBt18
import Derived.Test.YtcdihmhmoddppaaGreatKBt19
import Derived.Test.YtcdihmhmoddppaaGreatKBt10
import Derived.Test.YtcdihmhmoddppaaGreatKBt16

namespace Go.Proofs.YtcdihmhmoddppaaGreat
open Go.RowKit
set_option linter.unusedVariables false
set_option linter.unusedSimpArgs false
set_option maxHeartbeats 8000000

theorem empty_drop {v : Vc} {k : Nat} (h : k < v.length) : emptyT (v.drop k) = (v[k].isEmpty && emptyT (v.drop (k + 1))) := by
  unfold emptyT
  rw [List.drop_eq_getElem_cons h, List.all_cons]

theorem isEmpty_len (f : Pl) : decide ((0 : Int) < (f.length : Int)) = !f.isEmpty := by cases f <;> simp <;> omega

theorem vIs_pure (v : Vc) (hl : v.length ≤ 4611686018427387904) : Pure Tryz.prog 38 [vcD v] (.bool (emptyT v)) := by
  intro H
  refine PureH.of_body Tryz.func38 rfl (by decide) (Nat.le_of_ble_eq_true rfl) fun w0 => ?_
  (repeat (first | refine RO.Sv ?_ | refine RO.Yv ?_ | refine RO.no rfl (by decide) rfl ?_ | refine RO.nil ?_ | refine DW.region ?_ | refine DW.seq ?_ | refine DW.block ?_ | refine DW.skip ?_ | refine DW.exit ?_ | refine DW.condT rfl ?_ | refine DW.condF rfl ?_))
  refine DW.loopI (fun k : Nat => k ≤ v.length ∧ emptyT (v.drop k) = emptyT v) (fun k => [(5, vcD v), (6, I v.length), (7, I k)]) (fun _ => H) (fun k => v.length - k) 0 ⟨Nat.zero_le _, rfl⟩ rfl ⟨rfl, rfl, rfl, trivial⟩ fun k ⟨hk, hg⟩ => ?_
  (repeat (first | refine RO.Sv ?_ | refine RO.Yv ?_ | refine RO.no rfl (by decide) rfl ?_ | refine RO.nil ?_ | refine DW.region ?_ | refine DW.seq ?_ | refine DW.block ?_ | refine DW.skip ?_ | refine DW.exit ?_ | refine DW.condT rfl ?_ | refine DW.condF rfl ?_))
  refine DW.cond rfl (fun hb => ?_) (fun hb => ?_)
  · have hlt : k < v.length := by have := of_decide_eq_true hb; omega
    clear hb
    rw [empty_drop hlt] at hg
    (repeat (first | refine RO.Sv ?_ | refine RO.Yv ?_ | refine RO.no rfl (by decide) rfl ?_ | refine RO.nil ?_ | refine DW.region ?_ | refine DW.seq ?_ | refine DW.block ?_ | refine DW.skip ?_ | refine DW.exit ?_ | refine DW.condT rfl ?_ | refine DW.condF rfl ?_))
    rw [isEmpty_len]
    cases he : v[k].isEmpty
    case false =>
      rw [he, Bool.false_and] at hg
      rw [← hg]
      (repeat (first | refine RO.Sv ?_ | refine RO.Yv ?_ | refine RO.no rfl (by decide) rfl ?_ | refine RO.nil ?_ | refine DW.region ?_ | refine DW.seq ?_ | refine DW.block ?_ | refine DW.skip ?_ | refine DW.exit ?_ | refine DW.condT rfl ?_ | refine DW.condF rfl ?_))
      exact DW.ret ⟨.inl rfl, _, rfl, Over.refl _, .same _⟩
    rw [he, Bool.true_and] at hg
    (repeat (first | refine RO.Sv ?_ | refine RO.Yv ?_ | refine RO.no rfl (by decide) rfl ?_ | refine RO.nil ?_ | refine DW.region ?_ | refine DW.seq ?_ | refine DW.block ?_ | refine DW.skip ?_ | refine DW.exit ?_ | refine DW.condT rfl ?_ | refine DW.condF rfl ?_))
    exact ⟨k + 1, ⟨hlt, hg⟩, by dsimp only; omega, rfl, rfl, rfl, rfl, trivial⟩
  · have hge : k = v.length := by have := of_decide_eq_false hb; omega
    rw [hge, List.drop_length] at hg
    rw [← hg]
    (repeat (first | refine RO.Sv ?_ | refine RO.Yv ?_ | refine RO.no rfl (by decide) rfl ?_ | refine RO.nil ?_ | refine DW.region ?_ | refine DW.seq ?_ | refine DW.block ?_ | refine DW.skip ?_ | refine DW.exit ?_ | refine DW.condT rfl ?_ | refine DW.condF rfl ?_))
    exact DW.ret ⟨.inl rfl, _, rfl, Over.refl _, .same _⟩

theorem Empty_pure (v : Vc) (hl : v.length ≤ 4611686018427387904) : Pure Tryz.prog 26 [vcD v] (.bool (emptyT v)) := by
  intro H
  refine PureH.of_body Tryz.func26 rfl (by decide) (Nat.le_of_ble_eq_true rfl) fun w0 => ?_
  (repeat (first | refine RO.Sv ?_ | refine RO.Yv ?_ | refine RO.no rfl (by decide) rfl ?_ | refine RO.nil ?_ | refine DW.region ?_ | refine DW.seq ?_ | refine DW.block ?_ | refine DW.skip ?_ | refine DW.exit ?_ | refine DW.condT rfl ?_ | refine DW.condF rfl ?_))
  refine DW.loopI (fun k : Nat => k ≤ v.length ∧ emptyT (v.drop k) = emptyT v) (fun k => [(0, vcD v), (3, I k)]) (fun _ => H) (fun k => v.length - k) 0 ⟨Nat.zero_le _, rfl⟩ rfl ⟨rfl, rfl, trivial⟩ fun k ⟨hk, hg⟩ => ?_
  (repeat (first | refine RO.Sv ?_ | refine RO.Yv ?_ | refine RO.no rfl (by decide) rfl ?_ | refine RO.nil ?_ | refine DW.region ?_ | refine DW.seq ?_ | refine DW.block ?_ | refine DW.skip ?_ | refine DW.exit ?_ | refine DW.condT rfl ?_ | refine DW.condF rfl ?_))
  refine DW.cond rfl (fun hb => ?_) (fun hb => ?_)
  · have hlt : k < v.length := by have := of_decide_eq_true hb; omega
    clear hb
    rw [empty_drop hlt] at hg
    (repeat (first | refine RO.Sv ?_ | refine RO.Yv ?_ | refine RO.no rfl (by decide) rfl ?_ | refine RO.nil ?_ | refine DW.region ?_ | refine DW.seq ?_ | refine DW.block ?_ | refine DW.skip ?_ | refine DW.exit ?_ | refine DW.condT rfl ?_ | refine DW.condF rfl ?_))
    rw [isEmpty_len]
    cases he : v[k].isEmpty
    case false =>
      rw [he, Bool.false_and] at hg
      rw [← hg]
      (repeat (first | refine RO.Sv ?_ | refine RO.Yv ?_ | refine RO.no rfl (by decide) rfl ?_ | refine RO.nil ?_ | refine DW.region ?_ | refine DW.seq ?_ | refine DW.block ?_ | refine DW.skip ?_ | refine DW.exit ?_ | refine DW.condT rfl ?_ | refine DW.condF rfl ?_))
      exact DW.ret ⟨.inl rfl, _, rfl, Over.refl _, .same _⟩
    rw [he, Bool.true_and] at hg
    (repeat (first | refine RO.Sv ?_ | refine RO.Yv ?_ | refine RO.no rfl (by decide) rfl ?_ | refine RO.nil ?_ | refine DW.region ?_ | refine DW.seq ?_ | refine DW.block ?_ | refine DW.skip ?_ | refine DW.exit ?_ | refine DW.condT rfl ?_ | refine DW.condF rfl ?_))
    exact ⟨k + 1, ⟨hlt, hg⟩, by dsimp only; omega, rfl, rfl, rfl, trivial⟩
  · have hge : k = v.length := by have := of_decide_eq_false hb; omega
    rw [hge, List.drop_length] at hg
    rw [← hg]
    (repeat (first | refine RO.Sv ?_ | refine RO.Yv ?_ | refine RO.no rfl (by decide) rfl ?_ | refine RO.nil ?_ | refine DW.region ?_ | refine DW.seq ?_ | refine DW.block ?_ | refine DW.skip ?_ | refine DW.exit ?_ | refine DW.condT rfl ?_ | refine DW.condF rfl ?_))
    exact DW.ret ⟨.inl rfl, _, rfl, Over.refl _, .same _⟩

theorem isBasis11_pure (f : Pl) (hl : f.length ≤ 4000000000000) (hm : ∀ t ∈ f, MOk t.e) : Pure Tryz.prog 16 [plD f] (.bool (big40 f)) := by
  intro H
  refine PureH.of_body Tryz.func16 rfl (by decide) (Nat.le_of_ble_eq_true rfl) fun w0 => ?_
  (repeat (first | refine RO.Sv ?_ | refine RO.Yv ?_ | refine RO.no rfl (by decide) rfl ?_ | refine RO.nil ?_ | refine DW.region ?_ | refine DW.seq ?_ | refine DW.block ?_ | refine DW.skip ?_ | refine DW.exit ?_ | refine DW.condT rfl ?_ | refine DW.condF rfl ?_))
  refine RO.sta (sta_call rfl rfl (top_pure f hl hm _)) rfl ?_
  (repeat (first | refine RO.Sv ?_ | refine RO.Yv ?_ | refine RO.no rfl (by decide) rfl ?_ | refine RO.nil ?_ | refine DW.region ?_ | refine DW.seq ?_ | refine DW.block ?_ | refine DW.skip ?_ | refine DW.exit ?_ | refine DW.condT rfl ?_ | refine DW.condF rfl ?_))
  exact DW.ret ⟨.inl rfl, _, rfl, Over.refl _, .same _⟩

theorem idx_any {α : Type} (g : α → Bool) (l : List α) : decide (0 ≤ idxD g l) = l.any g := by
  unfold idxD
  cases hx : l.findIdx? g with
  | none =>
    rw [List.findIdx?_eq_none_iff] at hx
    have : l.any g = false := by rw [List.any_eq_false]; intro x hm; simp [hx x hm]
    rw [this]; rfl
  | some i =>
    rw [List.findIdx?_eq_some_iff_getElem] at hx
    obtain ⟨h1, h2, _⟩ := hx
    have : l.any g = true := List.any_eq_true.2 ⟨_, List.getElem_mem h1, h2⟩
    rw [this]
    show decide (0 ≤ (i : Int)) = true
    exact decide_eq_true (by omega)

theorem indexFunc_vec {H : Heap} {f : FuncId} {caps : List D} (l : Vc) (g : Pl → Bool) (hl : l.length ≤ 4611686018427387904) (hg : ∀ x, x ∈ l → PureH Tryz.prog H f (plD x :: caps) (.bool (g x))) :
    PureH Tryz.prog H 45 [vcD l, .fn f caps] (I (idxD g l)) := by
  refine PureH.of_body Tryz.func45 rfl (by decide) (Nat.le_of_ble_eq_true rfl) fun w0 => ?_
  (repeat (first | refine RO.S ?_ | refine RO.Y ?_ | refine RO.no rfl (by decide) rfl ?_ | refine RO.nil ?_ | refine DW.region ?_ | refine DW.seq ?_ | refine DW.block ?_ | refine DW.skip ?_ | refine DW.exit ?_ | refine DW.condT rfl ?_ | refine DW.condF rfl ?_))
  refine DW.loopI (fun k : Nat => k ≤ l.length ∧ ∀ (j : Nat) (hj : j < l.length), j < k → g l[j] = false) (fun k => [(0, vcD l), (1, .fn f caps), (7, I l.length), (8, I k)]) (fun _ => H) (fun k => l.length - k) 0 ⟨Nat.zero_le _, fun j hj h => by omega⟩ rfl ⟨rfl, rfl, rfl, rfl, trivial⟩ fun k ⟨hk, hk2⟩ => ?_
  (repeat (first | refine RO.S ?_ | refine RO.Y ?_ | refine RO.no rfl (by decide) rfl ?_ | refine RO.nil ?_ | refine DW.region ?_ | refine DW.seq ?_ | refine DW.block ?_ | refine DW.skip ?_ | refine DW.exit ?_ | refine DW.condT rfl ?_ | refine DW.condF rfl ?_))
  refine DW.cond rfl (fun hb => ?_) (fun hb => ?_)
  · have hlt : k < l.length := by have := of_decide_eq_true hb; omega
    (repeat (first | refine RO.S ?_ | refine RO.Y ?_ | refine RO.no rfl (by decide) rfl ?_ | refine RO.nil ?_ | refine DW.region ?_ | refine DW.seq ?_ | refine DW.block ?_ | refine DW.skip ?_ | refine DW.exit ?_ | refine DW.condT rfl ?_ | refine DW.condF rfl ?_))
    refine RO.sta (sta_call rfl rfl (hg _ (List.getElem_mem hlt))) rfl ?_
    (repeat (first | refine RO.S ?_ | refine RO.Y ?_ | refine RO.no rfl (by decide) rfl ?_ | refine RO.nil ?_ | refine DW.region ?_ | refine DW.seq ?_ | refine DW.block ?_ | refine DW.skip ?_ | refine DW.exit ?_ | refine DW.condT rfl ?_ | refine DW.condF rfl ?_))
    refine DW.cond rfl (fun hb => ?_) (fun hb => ?_)
    · (repeat (first | refine RO.S ?_ | refine RO.Y ?_ | refine RO.no rfl (by decide) rfl ?_ | refine RO.nil ?_ | refine DW.region ?_ | refine DW.seq ?_ | refine DW.block ?_ | refine DW.skip ?_ | refine DW.exit ?_ | refine DW.condT rfl ?_ | refine DW.condF rfl ?_))
      rw [idxD_at hlt hk2 hb]
      exact DW.ret ⟨.inl rfl, _, rfl, Over.refl _, .same _⟩
    · (repeat (first | refine RO.S ?_ | refine RO.Y ?_ | refine RO.no rfl (by decide) rfl ?_ | refine RO.nil ?_ | refine DW.region ?_ | refine DW.seq ?_ | refine DW.block ?_ | refine DW.skip ?_ | refine DW.exit ?_ | refine DW.condT rfl ?_ | refine DW.condF rfl ?_))
      refine ⟨k + 1, ⟨by omega, fun j hj hjk => ?_⟩, by dsimp only; omega, rfl, rfl, rfl, rfl, rfl, trivial⟩
      by_cases h : j = k
      · subst h; exact hb
      · exact hk2 j hj (by omega)
  · (repeat (first | refine RO.S ?_ | refine RO.Y ?_ | refine RO.no rfl (by decide) rfl ?_ | refine RO.nil ?_ | refine DW.region ?_ | refine DW.seq ?_ | refine DW.block ?_ | refine DW.skip ?_ | refine DW.exit ?_ | refine DW.condT rfl ?_ | refine DW.condF rfl ?_))
    have hn : ¬ k < l.length := by have := of_decide_eq_false hb; omega
    rw [idxD_none fun j hj => hk2 j hj (by omega)]
    exact DW.ret ⟨.inl rfl, _, rfl, Over.refl _, .same _⟩

theorem indexFunc_vecs {H : Heap} {f : FuncId} {caps : List D} (l : List Vc) (g : Vc → Bool) (hl : l.length ≤ 4611686018427387904) (hg : ∀ x, x ∈ l → PureH Tryz.prog H f (vcD x :: caps) (.bool (g x))) :
    PureH Tryz.prog H 47 [vcsD l, .fn f caps] (I (idxD g l)) := by
  refine PureH.of_body Tryz.func47 rfl (by decide) (Nat.le_of_ble_eq_true rfl) fun w0 => ?_
  (repeat (first | refine RO.S ?_ | refine RO.Y ?_ | refine RO.no rfl (by decide) rfl ?_ | refine RO.nil ?_ | refine DW.region ?_ | refine DW.seq ?_ | refine DW.block ?_ | refine DW.skip ?_ | refine DW.exit ?_ | refine DW.condT rfl ?_ | refine DW.condF rfl ?_))
  refine DW.loopI (fun k : Nat => k ≤ l.length ∧ ∀ (j : Nat) (hj : j < l.length), j < k → g l[j] = false) (fun k => [(0, vcsD l), (1, .fn f caps), (7, I l.length), (8, I k)]) (fun _ => H) (fun k => l.length - k) 0 ⟨Nat.zero_le _, fun j hj h => by omega⟩ rfl ⟨rfl, rfl, rfl, rfl, trivial⟩ fun k ⟨hk, hk2⟩ => ?_
  (repeat (first | refine RO.S ?_ | refine RO.Y ?_ | refine RO.no rfl (by decide) rfl ?_ | refine RO.nil ?_ | refine DW.region ?_ | refine DW.seq ?_ | refine DW.block ?_ | refine DW.skip ?_ | refine DW.exit ?_ | refine DW.condT rfl ?_ | refine DW.condF rfl ?_))
  refine DW.cond rfl (fun hb => ?_) (fun hb => ?_)
  · have hlt : k < l.length := by have := of_decide_eq_true hb; omega
    (repeat (first | refine RO.S ?_ | refine RO.Y ?_ | refine RO.no rfl (by decide) rfl ?_ | refine RO.nil ?_ | refine DW.region ?_ | refine DW.seq ?_ | refine DW.block ?_ | refine DW.skip ?_ | refine DW.exit ?_ | refine DW.condT rfl ?_ | refine DW.condF rfl ?_))
    refine RO.sta (sta_call rfl rfl (hg _ (List.getElem_mem hlt))) rfl ?_
    (repeat (first | refine RO.S ?_ | refine RO.Y ?_ | refine RO.no rfl (by decide) rfl ?_ | refine RO.nil ?_ | refine DW.region ?_ | refine DW.seq ?_ | refine DW.block ?_ | refine DW.skip ?_ | refine DW.exit ?_ | refine DW.condT rfl ?_ | refine DW.condF rfl ?_))
    refine DW.cond rfl (fun hb => ?_) (fun hb => ?_)
    · (repeat (first | refine RO.S ?_ | refine RO.Y ?_ | refine RO.no rfl (by decide) rfl ?_ | refine RO.nil ?_ | refine DW.region ?_ | refine DW.seq ?_ | refine DW.block ?_ | refine DW.skip ?_ | refine DW.exit ?_ | refine DW.condT rfl ?_ | refine DW.condF rfl ?_))
      rw [idxD_at hlt hk2 hb]
      exact DW.ret ⟨.inl rfl, _, rfl, Over.refl _, .same _⟩
    · (repeat (first | refine RO.S ?_ | refine RO.Y ?_ | refine RO.no rfl (by decide) rfl ?_ | refine RO.nil ?_ | refine DW.region ?_ | refine DW.seq ?_ | refine DW.block ?_ | refine DW.skip ?_ | refine DW.exit ?_ | refine DW.condT rfl ?_ | refine DW.condF rfl ?_))
      refine ⟨k + 1, ⟨by omega, fun j hj hjk => ?_⟩, by dsimp only; omega, rfl, rfl, rfl, rfl, rfl, trivial⟩
      by_cases h : j = k
      · subst h; exact hb
      · exact hk2 j hj (by omega)
  · (repeat (first | refine RO.S ?_ | refine RO.Y ?_ | refine RO.no rfl (by decide) rfl ?_ | refine RO.nil ?_ | refine DW.region ?_ | refine DW.seq ?_ | refine DW.block ?_ | refine DW.skip ?_ | refine DW.exit ?_ | refine DW.condT rfl ?_ | refine DW.condF rfl ?_))
    have hn : ¬ k < l.length := by have := of_decide_eq_false hb; omega
    rw [idxD_none fun j hj => hk2 j hj (by omega)]
    exact DW.ret ⟨.inl rfl, _, rfl, Over.refl _, .same _⟩

theorem containsFunc_vec {H : Heap} {f : FuncId} {caps : List D} (l : Vc) (g : Pl → Bool) (hl : l.length ≤ 4611686018427387904) (hg : ∀ x, x ∈ l → PureH Tryz.prog H f (plD x :: caps) (.bool (g x))) :
    PureH Tryz.prog H 15 [vcD l, .fn f caps] (.bool (l.any g)) := by
  refine PureH.of_body Tryz.func15 rfl (by decide) (Nat.le_of_ble_eq_true rfl) fun w0 => ?_
  (repeat (first | refine RO.S ?_ | refine RO.Y ?_ | refine RO.no rfl (by decide) rfl ?_ | refine RO.nil ?_ | refine DW.region ?_ | refine DW.seq ?_ | refine DW.block ?_ | refine DW.skip ?_ | refine DW.exit ?_ | refine DW.condT rfl ?_ | refine DW.condF rfl ?_))
  refine RO.sta (sta_call rfl rfl (indexFunc_vec l g hl hg)) rfl ?_
  (repeat (first | refine RO.S ?_ | refine RO.Y ?_ | refine RO.no rfl (by decide) rfl ?_ | refine RO.nil ?_ | refine DW.region ?_ | refine DW.seq ?_ | refine DW.block ?_ | refine DW.skip ?_ | refine DW.exit ?_ | refine DW.condT rfl ?_ | refine DW.condF rfl ?_))
  rw [← idx_any]
  exact DW.ret ⟨.inl rfl, _, rfl, Over.refl _, .same _⟩

theorem containsFunc_vecs {H : Heap} {f : FuncId} {caps : List D} (l : List Vc) (g : Vc → Bool) (hl : l.length ≤ 4611686018427387904) (hg : ∀ x, x ∈ l → PureH Tryz.prog H f (vcD x :: caps) (.bool (g x))) :
    PureH Tryz.prog H 18 [vcsD l, .fn f caps] (.bool (l.any g)) := by
  refine PureH.of_body Tryz.func18 rfl (by decide) (Nat.le_of_ble_eq_true rfl) fun w0 => ?_
  (repeat (first | refine RO.S ?_ | refine RO.Y ?_ | refine RO.no rfl (by decide) rfl ?_ | refine RO.nil ?_ | refine DW.region ?_ | refine DW.seq ?_ | refine DW.block ?_ | refine DW.skip ?_ | refine DW.exit ?_ | refine DW.condT rfl ?_ | refine DW.condF rfl ?_))
  refine RO.sta (sta_call rfl rfl (indexFunc_vecs l g hl hg)) rfl ?_
  (repeat (first | refine RO.S ?_ | refine RO.Y ?_ | refine RO.no rfl (by decide) rfl ?_ | refine RO.nil ?_ | refine DW.region ?_ | refine DW.seq ?_ | refine DW.block ?_ | refine DW.skip ?_ | refine DW.exit ?_ | refine DW.condT rfl ?_ | refine DW.condF rfl ?_))
  rw [← idx_any]
  exact DW.ret ⟨.inl rfl, _, rfl, Over.refl _, .same _⟩

theorem isBasis1_pure (v : Vc) (hl : v.length ≤ 1000000) (hm : ∀ f ∈ v, f.length ≤ 4000000000000 ∧ ∀ t ∈ f, MOk t.e) : Pure Tryz.prog 14 [vcD v] (.bool (v.any big40)) := by
  intro H
  refine PureH.of_body Tryz.func14 rfl (by decide) (Nat.le_of_ble_eq_true rfl) fun w0 => ?_
  (repeat (first | refine RO.Sv ?_ | refine RO.Yv ?_ | refine RO.no rfl (by decide) rfl ?_ | refine RO.nil ?_ | refine DW.region ?_ | refine DW.seq ?_ | refine DW.block ?_ | refine DW.skip ?_ | refine DW.exit ?_ | refine DW.condT rfl ?_ | refine DW.condF rfl ?_))
  refine RO.sta (sta_call rfl rfl (containsFunc_vec v big40 (by omega) fun x hx => isBasis11_pure x (hm x hx).1 (hm x hx).2 H)) rfl ?_
  (repeat (first | refine RO.Sv ?_ | refine RO.Yv ?_ | refine RO.no rfl (by decide) rfl ?_ | refine RO.nil ?_ | refine DW.region ?_ | refine DW.seq ?_ | refine DW.block ?_ | refine DW.skip ?_ | refine DW.exit ?_ | refine DW.condT rfl ?_ | refine DW.condF rfl ?_))
  exact DW.ret ⟨.inl rfl, _, rfl, Over.refl _, .same _⟩

theorem Up_pure (r : Rg) (v : Vc) (e : List Int) (hp : 2 ≤ r.p ∧ r.p ≤ 101) (hc : 0 ≤ (tmOf (topV r v)).c ∧ (tmOf (topV r v)).c < r.p) (he : MOk e) (hw : MOk (tmOf (topV r v)).e) (hl : e.length = (tmOf (topV r v)).e.length) :
    Pure Tryz.prog 51 [rgD r, dvD r v, intsD e] (tmD (upT r (tmOf (topV r v)) e)) := by
  intro H
  refine PureH.of_bodyCell (r := 6) (t := 50) (T0 := 50) (cells := tmCl (upT r (tmOf (topV r v)) e)) Tryz.func51 rfl (by decide) (Nat.le_of_ble_eq_true rfl) rfl fun w0 => ?_
  (repeat (first | refine RO.Sv ?_ | refine RO.Yv ?_ | refine RO.no rfl (by decide) rfl ?_ | refine RO.nil ?_ | refine DW.region ?_ | refine DW.seq ?_ | refine DW.block ?_ | refine DW.skip ?_ | refine DW.exit ?_ | refine DW.condT rfl ?_ | refine DW.condF rfl ?_))
  refine RO.dyn rfl (d_alloc fun b hb => ?_)
  refine RO.nil ?_
  (repeat (first | refine RO.Sv ?_ | refine RO.Yv ?_ | refine RO.no rfl (by decide) rfl ?_ | refine RO.nil ?_ | refine DW.region ?_ | refine DW.seq ?_ | refine DW.block ?_ | refine DW.skip ?_ | refine DW.exit ?_ | refine DW.condT rfl ?_ | refine DW.condF rfl ?_))
  refine DW.drawS 12 Tryz.mixed (by kernel_rfl) (by decide) ?_
  dsimp only [List.take, List.drop]
  (repeat (first | refine RS.Sv ?_ | refine RS.Yv ?_ | refine RS.no rfl (by decide) rfl ?_ | refine RS.nil ?_))
  refine RS.sta (fun H' hov => sta_call rfl rfl (turn_pure r.p (tmOf (topV r v)).c hp.1 hp.2 hc.1 hc.2 _)) rfl ?_
  (repeat (first | refine RS.Sv ?_ | refine RS.Yv ?_ | refine RS.no rfl (by decide) rfl ?_ | refine RS.nil ?_))
  refine RS.sta (fun H' hov => sta_call rfl rfl (Quotient_pure he hw hl _)) rfl ?_
  refine RS.sta (fun H' hov => s_buildT (out := tmCl (upT r (tmOf (topV r v)) e)) rfl rfl) rfl ?_
  (repeat (first | refine RS.Sv ?_ | refine RS.Yv ?_ | refine RS.no rfl (by decide) rfl ?_ | refine RS.nil ?_))
  refine RO.dyn rfl (d_store (k := 2) rfl rfl rfl (Heap.set_self _ _ _) (by show 0 + 2 ≤ 2; omega) (by simp [cellsOf, D.isCell, intsD]) ?_)
  rw [Heap.set_set]
  (repeat (first | refine RO.Sv ?_ | refine RO.Yv ?_ | refine RO.no rfl (by decide) rfl ?_ | refine RO.nil ?_ | refine DW.region ?_ | refine DW.seq ?_ | refine DW.block ?_ | refine DW.skip ?_ | refine DW.exit ?_ | refine DW.condT rfl ?_ | refine DW.condF rfl ?_))
  exact DW.ret ⟨.inl rfl, b, rfl, Heap.set_self _ _ _, (Over.refl _).set hb, hb⟩

theorem lessen_pure (r : Rg) (v w : Vc) (a b : Tm) {n : Nat} {B C : Int} {L : Nat} (hn : n ≤ 3) (hB : B + C ≤ 1000000) (hB0 : 0 ≤ B) (hC0 : 0 ≤ C) (hr : ckP r.p = 0) (hpr : Prm r.p) (hl : v.length ≤ 1000000) (hvw : v.length = w.length) (hL : L ≤ 1000000000000) (hv : VB r n B L v) (hw : VB r n B L w) (ha : TB 1 r.p n C a) (hb : TB 1 r.p n C b) :
    Pure Tryz.prog 50 [rgD r, vcD v, vcD w, tmD a, tmD b] (vcD (lessT r v w a b)) := by
  intro H
  have hp := ckP_ok hr
  have hnb : TB 1 r.p n C (negT r b) := ⟨by have := hb.hi; show 1 ≤ r.p - b.c; omega, by have := hb.lo; show r.p - b.c < r.p; omega, hb.len, hb.mem⟩
  have hva := VB.by (by omega) hpr hv (ha.mono (by omega) (Int.le_refl _))
  have hwb := VB.by (by omega) hpr hw (hnb.mono (by omega) (Int.le_refl _))
  have hb0 := hb.lo
  have hb1 := hb.hi
  refine PureH.of_body Tryz.func50 rfl (by decide) (Nat.le_of_ble_eq_true rfl) fun w0 => ?_
  (repeat (first | refine RO.Sv ?_ | refine RO.Yv ?_ | refine RO.no rfl (by decide) rfl ?_ | refine RO.nil ?_ | refine DW.region ?_ | refine DW.seq ?_ | refine DW.block ?_ | refine DW.skip ?_ | refine DW.exit ?_ | refine DW.condT rfl ?_ | refine DW.condF rfl ?_))
  refine DW.drawS 17 Tryz.mixed (by kernel_rfl) (by decide) ?_
  dsimp only [List.take, List.drop]
  (repeat (first | refine RS.Sv ?_ | refine RS.Yv ?_ | refine RS.no rfl (by decide) rfl ?_ | refine RS.nil ?_))
  refine RS.sta (fun H' hov => sta_call rfl rfl (vBy_pure r v a hn (B := B) (C := C) (L := L) (by omega) (by omega) hp hl (by omega) hv (ha.mono (by omega) (Int.le_refl _)) _)) rfl ?_
  (repeat (first | refine RS.Sv ?_ | refine RS.Yv ?_ | refine RS.no rfl (by decide) rfl ?_ | refine RS.nil ?_))
  refine RS.sta (fun H' hov => s_buildT (out := tmCl (negT r b)) rfl rfl) rfl ?_
  refine RS.sta (fun H' hov => sta_call rfl rfl (vBy_pure r w (negT r b) hn (B := B) (C := C) (L := L) (by omega) (by omega) hp (by omega) (by omega) hw (hnb.mono (by omega) (Int.le_refl _)) _)) rfl ?_
  refine RS.sta (fun H' hov => sta_call rfl rfl (vSum_pure r (vbyT r v a) (vbyT r w (negT r b)) hn (B := B + C) (L := L) (M := L) (by omega) hp (by simp [vbyT]; omega) (by simp [vbyT]; omega) (by omega) hva hwb _)) rfl ?_
  (repeat (first | refine RS.Sv ?_ | refine RS.Yv ?_ | refine RS.no rfl (by decide) rfl ?_ | refine RS.nil ?_))
  (repeat (first | refine RO.Sv ?_ | refine RO.Yv ?_ | refine RO.no rfl (by decide) rfl ?_ | refine RO.nil ?_ | refine DW.region ?_ | refine DW.seq ?_ | refine DW.block ?_ | refine DW.skip ?_ | refine DW.exit ?_ | refine DW.condT rfl ?_ | refine DW.condF rfl ?_))
  exact DW.ret ⟨.inl rfl, _, rfl, Over.refl _, .same _⟩

theorem isNo_call {r : Rg} {l : List Vc} {H : Heap} : Told r l H (fun _ => False) 53 [] (fun _ _ => True) :=
  ⟨fun c h => h.elim, trivial, fun _ _ _ _ _ => trivial, fun σ H i t _ _ hi ht hm => by
    refine CallD.of_body Tryz.func53 rfl (by decide) (Nat.le_of_ble_eq_true rfl) fun w0 => ?_
    (repeat (first | refine RO.Sv ?_ | refine RO.Yv ?_ | refine RO.no rfl (by decide) rfl ?_ | refine RO.nil ?_ | refine DW.region ?_ | refine DW.seq ?_ | refine DW.block ?_ | refine DW.skip ?_ | refine DW.exit ?_ | refine DW.condT rfl ?_ | refine DW.condF rfl ?_))
    exact ⟨.inr rfl, _, _, _, rfl, Heap.sub_refl _, .same _, trivial, fun _ h => h.elim, fun c z h _ => h⟩⟩

end Go.Proofs.YtcdihmhmoddppaaGreat

namespace Go.Proofs.YtcdihmhmoddppaaGreat
open Go.RowKit
set_option linter.unusedVariables false
set_option linter.unusedSimpArgs false

theorem zipE_max_comm : ∀ (a b : List Int), zipE max a b = zipE max b a
  | [], [] => rfl
  | [], _ :: _ => rfl
  | _ :: _, [] => rfl
  | x :: a, y :: b => by
    show max x y :: zipE max a b = max y x :: zipE max b a
    rw [zipE_max_comm a b, Int.max_comm]

theorem prod_one (p o : Int) (t : Tm) (g : Pl) : prodT p o [t] g = byT p g t := rfl

theorem vtimes_one (r : Rg) (t : Tm) (v : Vc) : vtimesT r [t] v = vbyT r v t := rfl

theorem sum_comm {p o : Int} {n : Nat} {B : Int} (hp : 0 < p) {f g : Pl} (hf : PB 1 p o n B f) (hg : PB 1 p o n B g) : sumT p o f g = sumT p o g f := by
  refine PB.uniq hp (sumT_ok hp _ _ hf hg) (sumT_ok hp _ _ hg hf) fun φ => ?_
  have h1 := sumT_L hp φ _ _ hf hg
  have h2 := sumT_L hp φ _ _ hg hf
  have := Int.dvd_sub h1 h2
  rwa [show ∀ a b x y : Int, a - (x + y) - (b - (y + x)) = a - b by intros; omega] at this

theorem vsum_comm {r : Rg} {n : Nat} {B : Int} (hp : 0 < r.p) : ∀ {v w : Vc}, (∀ f ∈ v, PB 1 r.p r.order n B f) → (∀ f ∈ w, PB 1 r.p r.order n B f) → vsumT r v w = vsumT r w v
  | [], [], _, _ => rfl
  | [], _ :: _, _, _ => rfl
  | _ :: _, [], _, _ => rfl
  | f :: v, g :: w, h1, h2 => by
    have ih := vsum_comm hp (v := v) (w := w) (fun x hx => h1 x (by simp [hx])) (fun x hx => h2 x (by simp [hx]))
    show sumT r.p r.order f g :: vsumT r v w = sumT r.p r.order g f :: vsumT r w v
    rw [ih, sum_comm hp (h1 f (by simp)) (h2 g (by simp))]

/-- What the document's pair comes to. -/
def betT (r : Rg) (v w : Vc) : Vc := vsumT r (vtimesT r [upT r (tmOf (topV r v)) (zipE max (tmOf (topV r v)).e (tmOf (topV r w)).e)] v) (vtimesT r [negT r (upT r (tmOf (topV r w)) (zipE max (tmOf (topV r v)).e (tmOf (topV r w)).e))] w)

/-- Two vectors of a list that have leads. -/
structure Two (r : Rg) (rank : Nat) (l : List Vc) (x y : Vc) (a b : Nat) (u w : Tm) : Prop where
  d40 : D40 r rank l
  hx : x ∈ l
  hy : y ∈ l
  lx : LeadIs r x a u
  ly : LeadIs r y b w

theorem by_pb {r : Rg} {rank : Nat} {v : Vc} {t : Tm} (hp : 1 < r.p) (hpr : Prm r.p) (hv : VOk r rank v) (ht : TB 1 r.p r.n.toNat 200 t) : ∀ f ∈ vbyT r v t, PB 1 r.p r.order r.n.toNat 400 f := fun f hf => by
  unfold vbyT at hf
  obtain ⟨g, hg, rfl⟩ := List.mem_map.1 hf
  exact byT_ok hp hpr (hv.all g hg).ok (ht.mono (by omega) (Int.le_refl _))

theorem neg_tb {r : Rg} {n : Nat} {B : Int} {t : Tm} (h : TB 1 r.p n B t) : TB 1 r.p n B (negT r t) := h.ng

theorem ng_ng {r : Rg} (t : Tm) : ngT r.p (negT r t) = t := by
  unfold ngT negT
  obtain ⟨c, e⟩ := t
  congr 1
  show r.p - (r.p - c) = c
  omega

theorem Two.bet {r : Rg} {rank : Nat} {l : List Vc} {x y : Vc} {a b : Nat} {u w : Tm} (h : Two r rank l x y a b u w) : betT r y x = ngV r.p (pairV r x y) := by
  obtain ⟨hp, hn3, hn1, hpr, hck⟩ := h.d40.dl.rg
  have ux := up_ok hck h.lx.tb h.ly.tb h.lx.deg h.ly.deg (w := u) (.inl rfl)
  have uy := up_ok hck h.lx.tb h.ly.tb h.lx.deg h.ly.deg (w := w) (.inr rfl)
  have hvx := h.d40.dl.vecs x h.hx
  have hvy := h.d40.dl.vecs y h.hy
  unfold betT pairV lessT
  rw [h.lx.at_, h.ly.at_]
  show vsumT r (vtimesT r [upT r w (zipE max w.e u.e)] y) (vtimesT r [negT r (upT r u (zipE max w.e u.e))] x) = ngV r.p (vsumT r (vbyT r x (upT r u (zipE max u.e w.e))) (vbyT r y (negT r (upT r w (zipE max u.e w.e)))))
  rw [zipE_max_comm w.e u.e, vtimes_one, vtimes_one]
  generalize hU : upT r u (zipE max u.e w.e) = U
  generalize hW : upT r w (zipE max u.e w.e) = W
  have tU : TB 1 r.p r.n.toNat 200 U := hU ▸ ux.tb
  have tW : TB 1 r.p r.n.toNat 200 W := hW ▸ uy.tb
  have p1 := by_pb (by omega) hpr hvx tU
  have p2 := by_pb (by omega) hpr hvy (neg_tb tW)
  have q1 := by_pb (by omega) hpr hvx (neg_tb tU)
  have q2 := by_pb (by omega) hpr hvy tW
  rw [← vsumT_ng (n := r.n.toNat) (B := 400) (by omega) p1 p2, ← vbyT_ng (n := r.n.toNat) (B := 200) (C := 200) (by omega) hpr (fun f hf => (hvx.all f hf).ok) tU, ← vbyT_ng (n := r.n.toNat) (B := 200) (C := 200) (by omega) hpr (fun f hf => (hvy.all f hf).ok) (neg_tb tW), ng_ng]
  exact vsum_comm (n := r.n.toNat) (B := 400) (by omega) q2 q1

/-- What a pair comes to may be divided. -/
theorem Two.vin {r : Rg} {rank : Nat} {l : List Vc} {x y : Vc} {a b : Nat} {u w : Tm} (h : Two r rank l x y a b u w) : VIn r rank (pairV r x y) := by
  obtain ⟨hp, hn3, hn1, hpr, hck⟩ := h.d40.dl.rg
  have hrk := h.d40.dl.rank2
  have ux := up_ok hck h.lx.tb h.ly.tb h.lx.deg h.ly.deg (w := u) (.inl rfl)
  have uy := up_ok hck h.lx.tb h.ly.tb h.lx.deg h.ly.deg (w := w) (.inr rfl)
  have hvx := h.d40.dl.vecs x h.hx
  have hvy := h.d40.dl.vecs y h.hy
  have lx := hvx.len
  have ly := hvy.len
  unfold pairV lessT
  rw [h.lx.at_, h.ly.at_]
  show VIn r rank (vsumT r (vbyT r x (upT r u (zipE max u.e w.e))) (vbyT r y (negT r (upT r w (zipE max u.e w.e)))))
  have dU := ux.deg
  have eU := ux.len
  have dW := uy.deg
  have eW := uy.len
  have tU := ux.tb
  have tW := neg_tb uy.tb
  generalize upT r u (zipE max u.e w.e) = U at *
  have dN : (negT r (upT r w (zipE max u.e w.e))).e.sum ≤ 80 := dW
  have eN : (negT r (upT r w (zipE max u.e w.e))).e.length = r.n.toNat := eW
  generalize negT r (upT r w (zipE max u.e w.e)) = W at *
  have l1 : (vbyT r x U).length = rank := by simp [vbyT, lx]
  have l2 : (vbyT r y W).length = rank := by simp [vbyT, ly]
  have hlen : (vsumT r (vbyT r x U) (vbyT r y W)).length = rank := by rw [vsumT_len' (by omega), l1]
  have p1 := by_pb (by omega) hpr hvx tU
  have p2 := by_pb (by omega) hpr hvy tW
  have d1 : ∀ f ∈ vbyT r x U, DB 200 f := fun f hf => by
    unfold vbyT at hf
    obtain ⟨g, hg, rfl⟩ := List.mem_map.1 hf
    exact (DB.byT (h.d40.deg x h.hx g hg) fun z hz => by rw [((hvx.all g hg).ok.all z hz).len, eU]).mono (by omega)
  have d2 : ∀ f ∈ vbyT r y W, DB 200 f := fun f hf => by
    unfold vbyT at hf
    obtain ⟨g, hg, rfl⟩ := List.mem_map.1 hf
    exact (DB.byT (h.d40.deg y h.hy g hg) fun z hz => by rw [((hvy.all g hg).ok.all z hz).len, eN]).mono (by omega)
  refine ⟨⟨hn3, by omega, fun i hi => ?_, fun i hi => ?_⟩, hlen⟩
  · have hi1 : i < (vbyT r x U).length := by omega
    have hi2 : i < (vbyT r y W).length := by omega
    have e : (vsumT r (vbyT r x U) (vbyT r y W))[i] = sumT r.p r.order (vbyT r x U)[i] (vbyT r y W)[i] := by simp [vsumT]
    rw [e]
    exact (sumT_ok (by omega) _ _ (p1 _ (List.getElem_mem hi1)) (p2 _ (List.getElem_mem hi2))).mono (by omega) (by omega)
  · have hi1 : i < (vbyT r x U).length := by omega
    have hi2 : i < (vbyT r y W).length := by omega
    have e : (vsumT r (vbyT r x U) (vbyT r y W))[i] = sumT r.p r.order (vbyT r x U)[i] (vbyT r y W)[i] := by simp [vsumT]
    rw [e]
    exact (DB.sum (d1 _ (List.getElem_mem hi1)) (d2 _ (List.getElem_mem hi2))).mono (degB_range r (by omega)).1

/-- The document's division leaves nothing just if the program's does. -/
theorem Two.same {r : Rg} {rank : Nat} {l : List Vc} {x y : Vc} {a b : Nat} {u w : Tm} (h : Two r rank l x y a b u w) : emptyT (divT r rank l (betT r y x)).left = emptyT (divT r rank l (pairV r x y)).left := by
  rw [h.bet, divT_ng h.d40.dl h.vin, empty_ng]

theorem VIn.ng {r : Rg} {rank : Nat} {v : Vc} (h : VIn r rank v) : VIn r rank (ngV r.p v) := by
  refine ⟨⟨h.vd.n3, by simpa [ngV] using h.vd.len, fun i hi => ?_, fun i hi => ?_⟩, by simpa [ngV] using h.len⟩
  · have hi2 : i < v.length := by simpa [ngV] using hi
    rw [show (ngV r.p v)[i] = ngP r.p v[i] by simp [ngV]]
    exact (h.vd.all i hi2).ng
  · have hi2 : i < v.length := by simpa [ngV] using hi
    rw [show (ngV r.p v)[i] = ngP r.p v[i] by simp [ngV]]
    intro t ht
    obtain ⟨s, hs, rfl⟩ := List.mem_map.1 ht
    exact h.vd.deg i hi2 s hs

end Go.Proofs.YtcdihmhmoddppaaGreat

namespace Go.Proofs.YtcdihmhmoddppaaGreat
open Go.RowKit
set_option linter.unusedVariables false
set_option linter.unusedSimpArgs false
set_option maxHeartbeats 8000000

theorem no_two {P : Nat → Nat → Prop} {k : Nat} (h : ∀ k', k' < k → ∀ j, j < k' → P j k') (hk : ∀ j, j < k → P j k) : ∀ k', k' < k + 1 → ∀ j, j < k' → P j k' := fun k' hk' j hj => by
  by_cases he : k' = k
  · subst he; exact hk j hj
  · exact h k' (by omega) j hj

theorem bad_at {r : Rg} {rank : Nat} {l : List Vc} {j k : Nat} (hj : j < l.length) (hk : k < l.length) : badP r rank l j k =
    (decide (0 ≤ atOf (topV r l[j])) && ((atOf (topV r l[j]) == atOf (topV r l[k])) && !emptyT (divT r rank l (pairV r l[j] l[k])).left)) := by
  unfold badP
  rw [List.getD_eq_getElem?_getD, List.getElem?_eq_getElem hj, List.getD_eq_getElem?_getD, List.getElem?_eq_getElem hk]
  rfl

theorem Is_pure (r : Rg) {rank : Nat} (l : List Vc) (h40 : D40 r rank l) : Pure Tryz.prog 19 [rgD r, vcsD l] (.bool (isBasisT r rank l)) := by
  intro H
  obtain ⟨hp, hn3, hn1, hpr, hck⟩ := h40.dl.rg
  have hrk := h40.dl.rank2
  have hll := h40.dl.len
  have hvd : ∀ v ∈ l, VD r r.n.toNat v := fun v hv => (h40.dl.vecs v hv).vd hn3 hrk
  refine PureH.of_body Tryz.func19 rfl (by decide) (Nat.le_of_ble_eq_true rfl) fun w0 => ?_
  (repeat (first | refine RO.Sv ?_ | refine RO.Yv ?_ | refine RO.no rfl (by decide) rfl ?_ | refine RO.nil ?_ | refine DW.region ?_ | refine DW.seq ?_ | refine DW.block ?_ | refine DW.skip ?_ | refine DW.exit ?_ | refine DW.condT rfl ?_ | refine DW.condF rfl ?_))
  refine RO.sta (sta_call rfl rfl (dvAll_pure r l (by omega) hvd _)) rfl ?_
  (repeat (first | refine RO.Sv ?_ | refine RO.Yv ?_ | refine RO.no rfl (by decide) rfl ?_ | refine RO.nil ?_ | refine DW.region ?_ | refine DW.seq ?_ | refine DW.block ?_ | refine DW.skip ?_ | refine DW.exit ?_ | refine DW.condT rfl ?_ | refine DW.condF rfl ?_))
  refine DW.loopG (fun k : Nat => k ≤ l.length ∧ ∀ k', k' < k → ∀ j, j < k' → badP r rank l j k' = false) (fun k => [(2, .ipt 4 [rgD r] 0 0), (5, dvsD r l), (15, dvsD r l), (16, I l.length), (17, I k)]) (fun _ => H) (fun k => l.length - k) 0 ⟨Nat.zero_le _, fun k' h => by omega⟩ (Heap.sub_refl _) (by repeat first | exact trivial | refine HasG.one rfl ?_ | refine HasN.one rfl ?_) fun k ⟨hk, hno⟩ => ?_
  (repeat (first | refine RO.Sv ?_ | refine RO.Yv ?_ | refine RO.no rfl (by decide) rfl ?_ | refine RO.nil ?_ | refine DW.region ?_ | refine DW.seq ?_ | refine DW.block ?_ | refine DW.skip ?_ | refine DW.exit ?_ | refine DW.condT rfl ?_ | refine DW.condF rfl ?_))
  refine DW.cond rfl (fun hb => ?_) (fun hb => ?_)
  · have hlt : k < l.length := by have := of_decide_eq_true hb; omega
    clear hb
    (repeat (first | refine RO.Sv ?_ | refine RO.Yv ?_ | refine RO.no rfl (by decide) rfl ?_ | refine RO.nil ?_ | refine DW.region ?_ | refine DW.seq ?_ | refine DW.block ?_ | refine DW.skip ?_ | refine DW.exit ?_ | refine DW.condT rfl ?_ | refine DW.condF rfl ?_))
    refine RO.sta (s_loadAgg (ds := dvC r l[k]) rfl (by simp [hlt, dvD]) rfl) rfl ?_
    refine RO.dyn rfl (d_alloc fun b7 hb7 => ?_)
    (repeat (first | refine RO.Sv ?_ | refine RO.Yv ?_ | refine RO.no rfl (by decide) rfl ?_ | refine RO.nil ?_ | refine DW.region ?_ | refine DW.seq ?_ | refine DW.block ?_ | refine DW.skip ?_ | refine DW.exit ?_ | refine DW.condT rfl ?_ | refine DW.condF rfl ?_))
    refine RO.dyn rfl (d_store (k := 4) rfl rfl rfl (Heap.set_self _ _ _) (Nat.le_refl _) (by simp [cellsOf, dvC, D.isCell, vcD, intsD]) ?_)
    rw [Heap.set_set]
    (repeat (first | refine RO.Sv ?_ | refine RO.Yv ?_ | refine RO.no rfl (by decide) rfl ?_ | refine RO.nil ?_ | refine DW.region ?_ | refine DW.seq ?_ | refine DW.block ?_ | refine DW.skip ?_ | refine DW.exit ?_ | refine DW.condT rfl ?_ | refine DW.condF rfl ?_))
    refine RO.sta (s_slice (k := 4) (l := l.map (dvD r)) (a := 0) (b := k) rfl rfl rfl (Nat.zero_le _) (by simp; omega)) rfl ?_
    rw [List.drop_zero, ← List.map_take]
    (repeat (first | refine RO.Sv ?_ | refine RO.Yv ?_ | refine RO.no rfl (by decide) rfl ?_ | refine RO.nil ?_ | refine DW.region ?_ | refine DW.seq ?_ | refine DW.block ?_ | refine DW.skip ?_ | refine DW.exit ?_ | refine DW.condT rfl ?_ | refine DW.condF rfl ?_))
    have hD := Heap.set_self H b7 (84, dvC r l[k])
    refine DW.loopG (fun j : Nat => j ≤ k ∧ ∀ j', j' < j → badP r rank l j' k = false) (fun j => [(2, .ipt 4 [rgD r] 0 0), (5, dvsD r l), (6, I k), (7, .ptr b7 0), (15, dvsD r l), (16, I l.length), (17, I k), (24, .list 4 ((l.take k).map (dvD r))), (25, I k), (26, I j)]) (fun _ => H.set b7 (84, dvC r l[k])) (fun j => k - j) 0 ⟨Nat.zero_le _, fun j' h => by omega⟩ (Heap.sub_refl _)
      (by rw [show (l.take k).length = k by rw [List.length_take]; omega]; exact (by repeat first | exact trivial | refine HasG.one rfl ?_ | refine HasN.one rfl ?_)) fun j ⟨hj, hno2⟩ => ?_
    have hkl : (l.take k).length = k := by rw [List.length_take]; omega
    (repeat (first | refine RO.Sv ?_ | refine RO.Yv ?_ | refine RO.no rfl (by decide) rfl ?_ | refine RO.nil ?_ | refine DW.region ?_ | refine DW.seq ?_ | refine DW.block ?_ | refine DW.skip ?_ | refine DW.exit ?_ | refine DW.condT rfl ?_ | refine DW.condF rfl ?_))
    refine DW.cond rfl (fun hb => ?_) (fun hb => ?_)
    · have hjk : j < k := by have := of_decide_eq_true hb; omega
      have hjl : j < l.length := by omega
      have hgt : (l.take k)[j]? = some l[j] := by rw [List.getElem?_take, if_pos hjk, List.getElem?_eq_getElem hjl]
      clear hb
      have hbad := bad_at (r := r) (rank := rank) hjl hlt
      (repeat (first | refine RO.Sv ?_ | refine RO.Yv ?_ | refine RO.no rfl (by decide) rfl ?_ | refine RO.nil ?_ | refine DW.region ?_ | refine DW.seq ?_ | refine DW.block ?_ | refine DW.skip ?_ | refine DW.exit ?_ | refine DW.condT rfl ?_ | refine DW.condF rfl ?_))
      refine RO.sta (s_loadAgg (ds := dvC r l[j]) rfl (by rw [List.getElem?_map, hgt]; rfl) rfl) rfl ?_
      refine RO.dyn rfl (d_alloc fun b9 hb9 => ?_)
      have hne : b7 ≠ b9 := fun e => by rw [← e, Heap.set_self] at hb9; cases hb9
      refine RO.dyn rfl (d_store (k := 4) rfl rfl rfl (Heap.set_self _ _ _) (Nat.le_refl _) (by simp [cellsOf, dvC, D.isCell, vcD, intsD]) ?_)
      rw [Heap.set_set]
      refine RO.nil ?_
      refine DW.asH (fun H2 => H2 b7 = some (84, dvC r l[k]) ∧ H2 b9 = some (84, dvC r l[j]) ∧ Over (H.set b7 (84, dvC r l[k])) H2 ∧ Over H H2) ⟨by rw [Heap.set_other _ _ hne]; exact hD, by rw [Heap.set_self]; rfl, Over.other hb9, ((Over.refl H).set hb7).set (Heap.none_of_set hne hb9)⟩ fun H2 ⟨g7, g9, gv7, gov⟩ => ?_
      (repeat (first | refine RO.Sv ?_ | refine RO.Yv ?_ | refine RO.no rfl (by decide) rfl ?_ | refine RO.nil ?_ | refine DW.region ?_ | refine DW.seq ?_ | refine DW.block ?_ | refine DW.skip ?_ | refine DW.exit ?_ | refine DW.condT rfl ?_ | refine DW.condF rfl ?_))
      refine RO.sta (s_loadMut (d := I (atOf (topV r l[j]))) rfl g9 rfl) rfl ?_
      (repeat (first | refine RO.Sv ?_ | refine RO.Yv ?_ | refine RO.no rfl (by decide) rfl ?_ | refine RO.nil ?_ | refine DW.region ?_ | refine DW.seq ?_ | refine DW.block ?_ | refine DW.skip ?_ | refine DW.exit ?_ | refine DW.condT rfl ?_ | refine DW.condF rfl ?_))
      cases hneg : decide (atOf (topV r l[j]) < 0)
      case true =>
        have hbf : badP r rank l j k = false := by rw [hbad, decide_eq_false (by have := of_decide_eq_true hneg; omega)]; rfl
        (repeat (first | refine RO.Sv ?_ | refine RO.Yv ?_ | refine RO.no rfl (by decide) rfl ?_ | refine RO.nil ?_ | refine DW.region ?_ | refine DW.seq ?_ | refine DW.block ?_ | refine DW.skip ?_ | refine DW.exit ?_ | refine DW.condT rfl ?_ | refine DW.condF rfl ?_))
        exact ⟨j + 1, ⟨hjk, no_succ hno2 hbf⟩, by dsimp only; omega, gv7.sub, (by repeat first | exact trivial | refine HasG.one rfl ?_ | refine HasN.one rfl ?_)⟩
      have h0 : 0 ≤ atOf (topV r l[j]) := by have := of_decide_eq_false hneg; omega
      rw [decide_eq_true h0, Bool.true_and] at hbad
      (repeat (first | refine RO.Sv ?_ | refine RO.Yv ?_ | refine RO.no rfl (by decide) rfl ?_ | refine RO.nil ?_ | refine DW.region ?_ | refine DW.seq ?_ | refine DW.block ?_ | refine DW.skip ?_ | refine DW.exit ?_ | refine DW.condT rfl ?_ | refine DW.condF rfl ?_))
      refine RO.yes rfl rfl (OpD.of_sta (s_loadMut (d := I (atOf (topV r l[j]))) rfl g9 rfl) ?_)
      (repeat (first | refine RO.Sv ?_ | refine RO.Yv ?_ | refine RO.no rfl (by decide) rfl ?_ | refine RO.nil ?_ | refine DW.region ?_ | refine DW.seq ?_ | refine DW.block ?_ | refine DW.skip ?_ | refine DW.exit ?_ | refine DW.condT rfl ?_ | refine DW.condF rfl ?_))
      refine RO.yes rfl rfl (OpD.of_sta (s_loadMut (d := I (atOf (topV r l[k]))) rfl g7 rfl) ?_)
      (repeat (first | refine RO.Sv ?_ | refine RO.Yv ?_ | refine RO.no rfl (by decide) rfl ?_ | refine RO.nil ?_ | refine DW.region ?_ | refine DW.seq ?_ | refine DW.block ?_ | refine DW.skip ?_ | refine DW.exit ?_ | refine DW.condT rfl ?_ | refine DW.condF rfl ?_))
      cases hq : (atOf (topV r l[j]) != atOf (topV r l[k]))
      case true =>
        have hbf : badP r rank l j k = false := by rw [hbad, show (atOf (topV r l[j]) == atOf (topV r l[k])) = false by simpa using hq]; rfl
        (repeat (first | refine RO.Sv ?_ | refine RO.Yv ?_ | refine RO.no rfl (by decide) rfl ?_ | refine RO.nil ?_ | refine DW.region ?_ | refine DW.seq ?_ | refine DW.block ?_ | refine DW.skip ?_ | refine DW.exit ?_ | refine DW.condT rfl ?_ | refine DW.condF rfl ?_))
        exact ⟨j + 1, ⟨hjk, no_succ hno2 hbf⟩, by dsimp only; omega, gv7.sub, (by repeat first | exact trivial | refine HasG.one rfl ?_ | refine HasN.one rfl ?_)⟩
      have hq' : atOf (topV r l[j]) = atOf (topV r l[k]) := by simpa using hq
      rw [show (atOf (topV r l[j]) == atOf (topV r l[k])) = true by simpa using hq', Bool.true_and] at hbad
      obtain ⟨a, u, lx⟩ := h40.lead (List.getElem_mem hjl) h0
      obtain ⟨b, w, ly⟩ := h40.lead (List.getElem_mem hlt) (by omega)
      have htwo : Two r rank l l[j] l[k] a b u w := ⟨h40, List.getElem_mem hjl, List.getElem_mem hlt, lx, ly⟩
      have ux := up_ok hck lx.tb ly.tb lx.deg ly.deg (w := u) (.inl rfl)
      have uy := up_ok hck lx.tb ly.tb lx.deg ly.deg (w := w) (.inr rfl)
      have mu := lx.tb.mok hn3 (by omega)
      have mw := ly.tb.mok hn3 (by omega)
      have tx : tmOf (topV r l[j]) = u := by rw [lx.at_]; rfl
      have ty : tmOf (topV r l[k]) = w := by rw [ly.at_]; rfl
      have hlen : u.e.length = w.e.length := by rw [lx.tb.len, ly.tb.len]
      obtain ⟨s1, s2, s3, s4⟩ := max_sum hlen (fun x hx => (lx.tb.mem x hx).1) (fun x hx => (ly.tb.mem x hx).1)
      have hel : (zipE max u.e w.e).length = u.e.length := zipE_len hlen
      have me : MOk (zipE max u.e w.e) := ⟨by rw [hel]; exact mu.len, fun x hx => ⟨s4 x hx, by have := mem_le_sum s4 x hx; have := lx.deg; have := ly.deg; omega⟩⟩
      (repeat (first | refine RO.Sv ?_ | refine RO.Yv ?_ | refine RO.no rfl (by decide) rfl ?_ | refine RO.nil ?_ | refine DW.region ?_ | refine DW.seq ?_ | refine DW.block ?_ | refine DW.skip ?_ | refine DW.exit ?_ | refine DW.condT rfl ?_ | refine DW.condF rfl ?_))
      refine RO.sta (s_loadMut (d := intsD (tmOf (topV r l[j])).e) rfl g9 rfl) rfl ?_
      (repeat (first | refine RO.Sv ?_ | refine RO.Yv ?_ | refine RO.no rfl (by decide) rfl ?_ | refine RO.nil ?_ | refine DW.region ?_ | refine DW.seq ?_ | refine DW.block ?_ | refine DW.skip ?_ | refine DW.exit ?_ | refine DW.condT rfl ?_ | refine DW.condF rfl ?_))
      refine RO.sta (s_loadMut (d := intsD (tmOf (topV r l[k])).e) rfl g7 rfl) rfl ?_
      rw [tx, ty]
      refine RO.sta (sta_call rfl rfl (Common_pure mu hlen _)) rfl ?_
      (repeat (first | refine RO.Sv ?_ | refine RO.Yv ?_ | refine RO.no rfl (by decide) rfl ?_ | refine RO.nil ?_ | refine DW.region ?_ | refine DW.seq ?_ | refine DW.block ?_ | refine DW.skip ?_ | refine DW.exit ?_ | refine DW.condT rfl ?_ | refine DW.condF rfl ?_))
      have vx := (h40.dl.vecs _ (List.getElem_mem hjl))
      have vy := (h40.dl.vecs _ (List.getElem_mem hlt))
      have lnx := vx.len
      have lny := vy.len
      have c1 := Up_pure r l[j] (zipE max u.e w.e) hp (by rw [tx]; exact ⟨by have := lx.tb.lo; omega, lx.tb.hi⟩) me (by rw [tx]; exact mu) (by rw [tx]; exact hel)
      have c2 := Up_pure r l[k] (zipE max u.e w.e) hp (by rw [ty]; exact ⟨by have := ly.tb.lo; omega, ly.tb.hi⟩) me (by rw [ty]; exact mw) (by rw [ty]; omega)
      rw [tx] at c1
      rw [ty] at c2
      have c3 := lessen_pure r l[j] l[k] (upT r u (zipE max u.e w.e)) (upT r w (zipE max u.e w.e)) (n := r.n.toNat) (B := 200) (C := 200) (L := 2000) hn3 (by omega) (by omega) (by omega) hck hpr (by omega) (by omega) (by omega) vx.vb vy.vb ux.tb uy.tb
      have hpv : lessT r l[j] l[k] (upT r u (zipE max u.e w.e)) (upT r w (zipE max u.e w.e)) = pairV r l[j] l[k] := by unfold pairV; rw [tx, ty]
      rw [hpv] at c3
      refine DW.drawS 15 Tryz.mixed (by kernel_rfl) (by decide) ?_
      dsimp only [List.take, List.drop]
      (repeat (first | refine RS.Sv ?_ | refine RS.Yv ?_ | refine RS.no rfl (by decide) rfl ?_ | refine RS.nil ?_))
      refine RS.sta (r_loadMut (d := vcD l[j]) rfl g9 rfl) rfl ?_
      (repeat (first | refine RS.Sv ?_ | refine RS.Yv ?_ | refine RS.no rfl (by decide) rfl ?_ | refine RS.nil ?_))
      refine RS.sta (r_loadMut (d := vcD l[k]) rfl g7 rfl) rfl ?_
      (repeat (first | refine RS.Sv ?_ | refine RS.Yv ?_ | refine RS.no rfl (by decide) rfl ?_ | refine RS.nil ?_))
      refine RS.sta (r_loadMutAgg (ds := dvC r l[j]) rfl g9 rfl rfl) rfl ?_
      (repeat (first | refine RS.Sv ?_ | refine RS.Yv ?_ | refine RS.no rfl (by decide) rfl ?_ | refine RS.nil ?_))
      refine RS.sta (fun H' hov => sta_call rfl rfl (c1 _)) rfl ?_
      (repeat (first | refine RS.Sv ?_ | refine RS.Yv ?_ | refine RS.no rfl (by decide) rfl ?_ | refine RS.nil ?_))
      refine RS.sta (r_loadMutAgg (ds := dvC r l[k]) rfl g7 rfl rfl) rfl ?_
      (repeat (first | refine RS.Sv ?_ | refine RS.Yv ?_ | refine RS.no rfl (by decide) rfl ?_ | refine RS.nil ?_))
      refine RS.sta (fun H' hov => sta_call rfl rfl (c2 _)) rfl ?_
      refine RS.sta (fun H' hov => sta_call rfl rfl (c3 _)) rfl ?_
      (repeat (first | refine RS.Sv ?_ | refine RS.Yv ?_ | refine RS.no rfl (by decide) rfl ?_ | refine RS.nil ?_))
      (repeat (first | refine RO.Sv ?_ | refine RO.Yv ?_ | refine RO.no rfl (by decide) rfl ?_ | refine RO.nil ?_ | refine DW.region ?_ | refine DW.seq ?_ | refine DW.block ?_ | refine DW.skip ?_ | refine DW.exit ?_ | refine DW.condT rfl ?_ | refine DW.condF rfl ?_))
      have hvin := htwo.vin
      refine RO.dyn rfl ((opD_call rfl rfl (left_call h40.dl hvin isNo_call)).mono fun d H3 ⟨hd3, σ, hσ, _, hfr⟩ => ?_)
      subst hd3
      have hH3 : H3 = H2 := funext fun c => hfr c (fun h => h)
      subst hH3
      obtain ⟨fin, fin0⟩ := divT_ok h40.dl hvin
      have hll2 := fin.llen
      refine RO.sta (sta_call rfl rfl (vIs_pure (divT r rank l (pairV r l[j] l[k])).left (by omega) _)) rfl ?_
      (repeat (first | refine RO.Sv ?_ | refine RO.Yv ?_ | refine RO.no rfl (by decide) rfl ?_ | refine RO.nil ?_ | refine DW.region ?_ | refine DW.seq ?_ | refine DW.block ?_ | refine DW.skip ?_ | refine DW.exit ?_ | refine DW.condT rfl ?_ | refine DW.condF rfl ?_))
      cases hem : emptyT (divT r rank l (pairV r l[j] l[k])).left
      case false =>
        rw [hem] at hbad
        rw [isBasis_no hlt hjk hbad]
        (repeat (first | refine RO.Sv ?_ | refine RO.Yv ?_ | refine RO.no rfl (by decide) rfl ?_ | refine RO.nil ?_ | refine DW.region ?_ | refine DW.seq ?_ | refine DW.block ?_ | refine DW.skip ?_ | refine DW.exit ?_ | refine DW.condT rfl ?_ | refine DW.condF rfl ?_))
        exact DW.ret ⟨.inl rfl, _, rfl, gov, .same _⟩
      rw [hem] at hbad
      (repeat (first | refine RO.Sv ?_ | refine RO.Yv ?_ | refine RO.no rfl (by decide) rfl ?_ | refine RO.nil ?_ | refine DW.region ?_ | refine DW.seq ?_ | refine DW.block ?_ | refine DW.skip ?_ | refine DW.exit ?_ | refine DW.condT rfl ?_ | refine DW.condF rfl ?_))
      exact ⟨j + 1, ⟨hjk, no_succ hno2 hbad⟩, by dsimp only; omega, gv7.sub, (by repeat first | exact trivial | refine HasG.one rfl ?_ | refine HasN.one rfl ?_)⟩
    · have hge : j = k := by have := of_decide_eq_false hb; omega
      subst hge
      (repeat (first | refine RO.Sv ?_ | refine RO.Yv ?_ | refine RO.no rfl (by decide) rfl ?_ | refine RO.nil ?_ | refine DW.region ?_ | refine DW.seq ?_ | refine DW.block ?_ | refine DW.skip ?_ | refine DW.exit ?_ | refine DW.condT rfl ?_ | refine DW.condF rfl ?_))
      exact ⟨j + 1, ⟨hlt, no_two hno hno2⟩, by dsimp only; omega, Heap.sub_set _ hb7, (by repeat first | exact trivial | refine HasG.one rfl ?_ | refine HasN.one rfl ?_)⟩
  · have hge : k = l.length := by have := of_decide_eq_false hb; omega
    subst hge
    rw [isBasis_yes hno]
    (repeat (first | refine RO.Sv ?_ | refine RO.Yv ?_ | refine RO.no rfl (by decide) rfl ?_ | refine RO.nil ?_ | refine DW.region ?_ | refine DW.seq ?_ | refine DW.block ?_ | refine DW.skip ?_ | refine DW.exit ?_ | refine DW.condT rfl ?_ | refine DW.condF rfl ?_))
    exact DW.ret ⟨.inl rfl, _, rfl, Over.refl _, .same _⟩

/-- What is wrong with a list that is asked about. -/
def tellCk (r : Rg) (rank : Int) (l : List Vc) : Int := if vecsCk r rank l = 0 then (if (decide ((30 : Int) < (l.length : Int)) || l.any (fun v => v.any big40)) = true then 2 else 0) else vecsCk r rank l

def tellT (r : Rg) (rank : Int) (l : List Vc) : Bool := if tellCk r rank l = 0 then isBasisT r rank.toNat l else false

theorem tellCk_ok {r : Rg} {rank : Int} {l : List Vc} (h : tellCk r rank l = 0) : D40 r rank.toNat l ∧ rank = rank.toNat := by
  unfold tellCk at h
  by_cases h1 : vecsCk r rank l = 0
  · rw [if_pos h1] at h
    obtain ⟨a, b, c, d, e⟩ := vecsCk_ok h1
    have hbig : l.any (fun v => v.any big40) = false := by
      split at h
      · cases h
      · rename_i hn
        cases hx : l.any (fun v => v.any big40)
        · rfl
        · rw [hx, Bool.or_true] at hn; exact absurd rfl hn
    refine ⟨⟨⟨a, by omega, by omega, d, e⟩, fun v hv f hf t ht => ?_⟩, by omega⟩
    have h2 := List.any_eq_false.1 hbig v hv
    have h3 : v.any big40 = false := by simpa using h2
    have h4 := List.any_eq_false.1 h3 f hf
    have h5 : ¬ 40 < topT f := by simpa [big40] using h4
    have := topT_ge ((e v hv).all f hf).ok t ht
    omega
  · rw [if_neg h1] at h; exact absurd h h1

theorem IsBasis_pure (r : Rg) (rank : Int) (l : List Vc) (hl : l.length ≤ 4611686018427387904) (hv : ∀ v ∈ l, v.length ≤ 4611686018427387904 ∧ ∀ f ∈ v, f.length ≤ 4611686018427387904) :
    Pure Tryz.prog 5 [rgD r, I rank, vcsD l] (.tup [.bool (tellT r rank l), I (tellCk r rank l)]) := by
  intro H
  refine PureH.of_body Tryz.func5 rfl (by decide) (Nat.le_of_ble_eq_true rfl) fun w0 => ?_
  (repeat (first | refine RO.Sv ?_ | refine RO.Yv ?_ | refine RO.no rfl (by decide) rfl ?_ | refine RO.nil ?_ | refine DW.region ?_ | refine DW.seq ?_ | refine DW.block ?_ | refine DW.skip ?_ | refine DW.exit ?_ | refine DW.condT rfl ?_ | refine DW.condF rfl ?_))
  refine RO.sta (sta_call rfl rfl (vCheck_pure r rank l hl hv _)) rfl ?_
  (repeat (first | refine RO.Sv ?_ | refine RO.Yv ?_ | refine RO.no rfl (by decide) rfl ?_ | refine RO.nil ?_ | refine DW.region ?_ | refine DW.seq ?_ | refine DW.block ?_ | refine DW.skip ?_ | refine DW.exit ?_ | refine DW.condT rfl ?_ | refine DW.condF rfl ?_))
  by_cases hck : vecsCk r rank l = 0
  case neg =>
    have e1 : tellCk r rank l = vecsCk r rank l := by unfold tellCk; rw [if_neg hck]
    have e2 : tellT r rank l = false := by unfold tellT; rw [e1, if_neg hck]
    rw [e2, e1, show (vecsCk r rank l != 0) = true by simpa using hck]
    (repeat (first | refine RO.Sv ?_ | refine RO.Yv ?_ | refine RO.no rfl (by decide) rfl ?_ | refine RO.nil ?_ | refine DW.region ?_ | refine DW.seq ?_ | refine DW.block ?_ | refine DW.skip ?_ | refine DW.exit ?_ | refine DW.condT rfl ?_ | refine DW.condF rfl ?_))
    exact DW.ret ⟨.inl rfl, _, rfl, Over.refl _, .same _⟩
  rw [show (vecsCk r rank l != 0) = false by simpa using hck]
  obtain ⟨hr, hr1, hr2, hlen, hok⟩ := vecsCk_ok hck
  have hr3 := ringCk_ok hr
  have e0 : tellCk r rank l = if (decide ((30 : Int) < (l.length : Int)) || l.any (fun v => v.any big40)) = true then 2 else 0 := by unfold tellCk; rw [if_pos hck]
  have hcall := containsFunc_vecs (H := H) (f := 14) (caps := []) l (fun v => v.any big40) hl fun v hv => isBasis1_pure v (by have := (hok v hv).len; omega) (fun f hf => by
    have hfo := (hok v hv).all f hf
    exact ⟨by have := hfo.len; omega, fun t ht => (hfo.ok.all t ht).mok (by omega) (by omega)⟩) H
  (repeat (first | refine RO.Sv ?_ | refine RO.Yv ?_ | refine RO.no rfl (by decide) rfl ?_ | refine RO.nil ?_ | refine DW.region ?_ | refine DW.seq ?_ | refine DW.block ?_ | refine DW.skip ?_ | refine DW.exit ?_ | refine DW.condT rfl ?_ | refine DW.condF rfl ?_))
  cases hm : decide ((30 : Int) < (l.length : Int))
  case true =>
    rw [hm, Bool.true_or, if_pos rfl] at e0
    have e2 : tellT r rank l = false := by unfold tellT; rw [e0, if_neg (by decide)]
    rw [e2, e0]
    (repeat (first | refine RO.Sv ?_ | refine RO.Yv ?_ | refine RO.no rfl (by decide) rfl ?_ | refine RO.nil ?_ | refine DW.region ?_ | refine DW.seq ?_ | refine DW.block ?_ | refine DW.skip ?_ | refine DW.exit ?_ | refine DW.condT rfl ?_ | refine DW.condF rfl ?_))
    exact DW.ret ⟨.inl rfl, _, rfl, Over.refl _, .same _⟩
  rw [hm, Bool.false_or] at e0
  (repeat (first | refine RO.Sv ?_ | refine RO.Yv ?_ | refine RO.no rfl (by decide) rfl ?_ | refine RO.nil ?_ | refine DW.region ?_ | refine DW.seq ?_ | refine DW.block ?_ | refine DW.skip ?_ | refine DW.exit ?_ | refine DW.condT rfl ?_ | refine DW.condF rfl ?_))
  refine RO.yes rfl rfl (OpD.of_sta (sta_call rfl rfl hcall) ?_)
  (repeat (first | refine RO.Sv ?_ | refine RO.Yv ?_ | refine RO.no rfl (by decide) rfl ?_ | refine RO.nil ?_ | refine DW.region ?_ | refine DW.seq ?_ | refine DW.block ?_ | refine DW.skip ?_ | refine DW.exit ?_ | refine DW.condT rfl ?_ | refine DW.condF rfl ?_))
  cases hbg : l.any (fun v => v.any big40)
  case true =>
    rw [hbg, if_pos rfl] at e0
    have e2 : tellT r rank l = false := by unfold tellT; rw [e0, if_neg (by decide)]
    rw [e2, e0]
    (repeat (first | refine RO.Sv ?_ | refine RO.Yv ?_ | refine RO.no rfl (by decide) rfl ?_ | refine RO.nil ?_ | refine DW.region ?_ | refine DW.seq ?_ | refine DW.block ?_ | refine DW.skip ?_ | refine DW.exit ?_ | refine DW.condT rfl ?_ | refine DW.condF rfl ?_))
    exact DW.ret ⟨.inl rfl, _, rfl, Over.refl _, .same _⟩
  rw [hbg, if_neg (by decide)] at e0
  obtain ⟨h40, hrank⟩ := tellCk_ok e0
  have e2 : tellT r rank l = isBasisT r rank.toNat l := by unfold tellT; rw [if_pos e0]
  rw [e2, e0]
  (repeat (first | refine RO.Sv ?_ | refine RO.Yv ?_ | refine RO.no rfl (by decide) rfl ?_ | refine RO.nil ?_ | refine DW.region ?_ | refine DW.seq ?_ | refine DW.block ?_ | refine DW.skip ?_ | refine DW.exit ?_ | refine DW.condT rfl ?_ | refine DW.condF rfl ?_))
  refine RO.sta (sta_call rfl rfl (Is_pure r l h40 _)) rfl ?_
  (repeat (first | refine RO.Sv ?_ | refine RO.Yv ?_ | refine RO.no rfl (by decide) rfl ?_ | refine RO.nil ?_ | refine DW.region ?_ | refine DW.seq ?_ | refine DW.block ?_ | refine DW.skip ?_ | refine DW.exit ?_ | refine DW.condT rfl ?_ | refine DW.condF rfl ?_))
  exact DW.ret ⟨.inl rfl, _, rfl, Over.refl _, .same _⟩

end Go.Proofs.YtcdihmhmoddppaaGreat

namespace Go.Proofs.YtcdihmhmoddppaaGreat
open Go.RowKit
set_option linter.unusedVariables false
set_option linter.unusedSimpArgs false
set_option maxHeartbeats 4000000

theorem s_ints2 {P : Program} {H : Heap} {e : Env} {dst : Option Tmp} {ty : TypeId} {pos : String} {af : Array Edge} {gd : Option (Nat × Bool)} {t E : TypeId} {x y : Operand} {a b : Int} {bytes : Nat} {zd : List D} [SliceT P t E] [ElT P E 1 zd bytes] (hx : e.ev x = some (I a)) (hy : e.ev y = some (I b)) :
    Sta P H e ⟨dst, .buildSlice t 2 #[(0, x), (1, y)], ty, pos, af, gd⟩ (intsD [a, b]) := by
  have hz : zd.length = 1 := (ElT.z (P := P) (E := E) (k := 1) (zd := zd) (bytes := bytes)).len
  obtain ⟨z, rfl⟩ : ∃ z, zd = [z] := by
    match zd, hz with
    | [z], _ => exact ⟨z, rfl⟩
  exact s_lit (P := P) (t := t) (E := E) (bytes := bytes) (zd := [z]) (pd := [(0, I a), (1, I b)]) (ds := [I a, I b]) (by decide) (by decide) (by simp [evParts, hx, hy]) rfl (fun d hd => by simp at hd; rcases hd with rfl | rfl <;> rfl) rfl

end Go.Proofs.YtcdihmhmoddppaaGreat

namespace Go.Proofs.YtcdihmhmoddppaaGreat
open Go.RowKit
set_option linter.unusedVariables false
set_option linter.unusedSimpArgs false
set_option maxHeartbeats 8000000

theorem s_makeInts {P : Program} {H : Heap} {e : Env} {dst : Option Tmp} {ty : TypeId} {pos : String} {af : Array Edge} {gd : Option (Nat × Bool)} {t E : TypeId} {x y : Operand} {bytes : Nat} {m : Int} {n : Nat} [SliceT P t E] [ElT P E 1 [I 0] bytes]
    (hx : e.ev x = some (I m)) (hy : e.ev y = some (I m)) (hm : m = n) (hb : bytes * n ≤ 281474976710656) (hc : n ≤ 4611686018427387904) : Sta P H e ⟨dst, .makeSlice t x y, ty, pos, af, gd⟩ (intsD (List.replicate n 0)) := by
  subst hm
  have := s_make (P := P) (H := H) (dst := dst) (ty := ty) (pos := pos) (af := af) (gd := gd) (t := t) (E := E) (bytes := bytes) (el := I 0) (k := 1) rfl hx hy hb hc
  unfold intsD
  rw [List.map_replicate]
  exact this

theorem orderR_ok {r : Rg} {a b : List Int} (h : ((orderR r a b).2 != 0) = false) : monosCk r [a, b] = 0 ∧ orderR r a b = (cmpM r.order a b, 0) := by
  unfold orderR at *
  split at h
  · rename_i hm
    exact ⟨hm, if_pos hm⟩
  · simp at h; contradiction

theorem le_sum : ∀ {l : List Int}, (∀ x ∈ l, 0 ≤ x) → ∀ x ∈ l, x ≤ l.sum
  | [], _, x, hx => by cases hx
  | y :: l, h, x, hx => by
    have h0 := sum_nonneg (a := l) (fun z hz => h z (by simp [hz]))
    have hy := h y (by simp)
    simp only [List.sum_cons]
    rcases List.mem_cons.1 hx with rfl | hx
    · omega
    · have := le_sum (l := l) (fun z hz => h z (by simp [hz])) x hx
      omega

theorem monoCk_of {r : Rg} {e : List Int} (hl : (e.length : Int) = r.n) (h0 : ∀ x ∈ e, 0 ≤ x) (hs : e.sum ≤ 200) : monoCk r e = 0 := by
  unfold monoCk
  rw [if_pos hl, if_pos]
  simp only [Bool.and_eq_true, decide_eq_true_eq, List.all_eq_true]
  refine ⟨fun x hx => inE_iff.2 ⟨h0 x hx, ?_⟩, hs⟩
  have := le_sum h0 x hx
  omega

theorem orderR_two {r : Rg} {a b : List Int} (hr : ringCk r = 0) (ha : monoCk r a = 0) (hb : monoCk r b = 0) : orderR r a b = (cmpM r.order a b, 0) := by
  unfold orderR
  rw [if_pos]
  unfold monosCk
  rw [if_pos hr]
  simp [monosGo, ha, hb]

theorem madeR_ok {r : Rg} {a c : List Int} (h : ((madeR r a c (zipE (· + ·) a c)).2 != 0) = false) (hl : a.length = c.length) : monoCk r (zipE (· + ·) a c) = 0 ∧ madeR r a c (zipE (· + ·) a c) = (zipE (· + ·) a c, 0) := by
  unfold madeR at *
  split at h
  · rename_i hm
    split at h
    · simp at h
    · rename_i hs
      rw [if_pos hm, if_neg hs]
      obtain ⟨_, _, _, _, hn⟩ := two_ok hm
      obtain ⟨ha, hc⟩ := two_in hm
      refine ⟨monoCk_of (by rw [zipE_len hl]; exact hn) (fun x hx => ?_) (by omega), rfl⟩
      obtain ⟨i, hi, rfl⟩ := List.mem_iff_getElem.1 hx
      rw [zipE_get]
      have h1 := ha _ (List.getElem_mem (show i < a.length by rw [zipE_len hl] at hi; exact hi))
      have h2 := hc _ (List.getElem_mem (show i < c.length by rw [zipE_len hl] at hi; omega))
      omega
  · simp at h; contradiction

end Go.Proofs.YtcdihmhmoddppaaGreat
