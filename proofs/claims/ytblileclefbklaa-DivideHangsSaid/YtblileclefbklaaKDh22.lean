/-
  Package divide: Divide. No condition.
-/
import Derived.Test.YtblileclefbklaaKDh21

namespace Go.Proofs.Ytblileclefbklaa
open Go.RowKit
set_option linter.unusedVariables false
set_option linter.unusedSimpArgs false
set_option maxHeartbeats 8000000

theorem IsNormal_pure (r : Rg) (v : Vc) (l : List Vc) {n : Nat} (hl : l.length ≤ 1000000) (hd : ∀ v ∈ l, VD r n v) (hv : VD r n v) : Pure Try.prog 40 [vcD v, dvsD r l] (.bool (normalT r l v)) := by
  intro H
  have hvl := hv.len
  refine PureH.of_body Try.func40 rfl (by decide) (Nat.le_of_ble_eq_true rfl) fun w0 => ?_
  (repeat (first | refine RO.Sv ?_ | refine RO.Yv ?_ | refine RO.no rfl (by decide) rfl ?_ | refine RO.nil ?_ | refine DW.region ?_ | refine DW.seq ?_ | refine DW.block ?_ | refine DW.skip ?_ | refine DW.exit ?_ | refine DW.condT rfl ?_ | refine DW.condF rfl ?_))
  refine DW.loopG (fun k : Nat => k ≤ v.length ∧ normGo r l k (v.drop k) = normalT r l v) (fun k => [(1, dvsD r l), (9, vcD v), (10, I v.length), (11, I k)]) (fun _ => H) (fun k => v.length - k) 0 ⟨Nat.zero_le _, rfl⟩ (Heap.sub_refl _) (by repeat first | exact trivial | refine HasG.one rfl ?_ | refine HasN.one rfl ?_) fun k ⟨hk, hg⟩ => ?_
  (repeat (first | refine RO.Sv ?_ | refine RO.Yv ?_ | refine RO.no rfl (by decide) rfl ?_ | refine RO.nil ?_ | refine DW.region ?_ | refine DW.seq ?_ | refine DW.block ?_ | refine DW.skip ?_ | refine DW.exit ?_ | refine DW.condT rfl ?_ | refine DW.condF rfl ?_))
  refine DW.cond rfl (fun hb => ?_) (fun hb => ?_)
  · have hlt : k < v.length := by have := of_decide_eq_true hb; omega
    have hme := hv.me hlt
    have hlong := hv.long hlt
    rw [normGo_drop hlt] at hg
    clear hb
    (repeat (first | refine RO.Sv ?_ | refine RO.Yv ?_ | refine RO.no rfl (by decide) rfl ?_ | refine RO.nil ?_ | refine DW.region ?_ | refine DW.seq ?_ | refine DW.block ?_ | refine DW.skip ?_ | refine DW.exit ?_ | refine DW.condT rfl ?_ | refine DW.condF rfl ?_))
    refine DW.loopG (fun j : Nat => j ≤ v[k].length ∧ (rowNormal r l k (v[k].drop j) && normGo r l (k + 1) (v.drop (k + 1))) = normalT r l v) (fun j => [(1, dvsD r l), (5, I k), (9, vcD v), (10, I v.length), (11, I k), (16, plD v[k]), (17, I v[k].length), (18, I j)]) (fun _ => H) (fun j => v[k].length - j) 0 ⟨Nat.zero_le _, hg⟩ (Heap.sub_refl _) (by repeat first | exact trivial | refine HasG.one rfl ?_ | refine HasN.one rfl ?_) fun j ⟨hj, hgj⟩ => ?_
    (repeat (first | refine RO.Sv ?_ | refine RO.Yv ?_ | refine RO.no rfl (by decide) rfl ?_ | refine RO.nil ?_ | refine DW.region ?_ | refine DW.seq ?_ | refine DW.block ?_ | refine DW.skip ?_ | refine DW.exit ?_ | refine DW.condT rfl ?_ | refine DW.condF rfl ?_))
    refine DW.cond rfl (fun hb => ?_) (fun hb => ?_)
    · have hjl : j < v[k].length := by have := of_decide_eq_true hb; omega
      rw [rowNormal_drop hjl] at hgj
      clear hb
      (repeat (first | refine RO.Sv ?_ | refine RO.Yv ?_ | refine RO.no rfl (by decide) rfl ?_ | refine RO.nil ?_ | refine DW.region ?_ | refine DW.seq ?_ | refine DW.block ?_ | refine DW.skip ?_ | refine DW.exit ?_ | refine DW.condT rfl ?_ | refine DW.condF rfl ?_))
      refine RO.dyn rfl (d_alloc fun b8 hb8 => ?_)
      (repeat (first | refine RO.Sv ?_ | refine RO.Yv ?_ | refine RO.no rfl (by decide) rfl ?_ | refine RO.nil ?_ | refine DW.region ?_ | refine DW.seq ?_ | refine DW.block ?_ | refine DW.skip ?_ | refine DW.exit ?_ | refine DW.condT rfl ?_ | refine DW.condF rfl ?_))
      refine RO.dyn rfl (d_storeTm (tm := v[k][j]) rfl rfl (Heap.set_self _ _ _) rfl ?_)
      rw [Heap.set_set]
      (repeat (first | refine RO.Sv ?_ | refine RO.Yv ?_ | refine RO.no rfl (by decide) rfl ?_ | refine RO.nil ?_ | refine DW.region ?_ | refine DW.seq ?_ | refine DW.block ?_ | refine DW.skip ?_ | refine DW.exit ?_ | refine DW.condT rfl ?_ | refine DW.condF rfl ?_))
      refine RO.sta (sta_call rfl rfl (goes_pure r l k v[k][j] hl hd (hme _ (List.getElem_mem hjl)) _)) rfl ?_
      (repeat (first | refine RO.Sv ?_ | refine RO.Yv ?_ | refine RO.no rfl (by decide) rfl ?_ | refine RO.nil ?_ | refine DW.region ?_ | refine DW.seq ?_ | refine DW.block ?_ | refine DW.skip ?_ | refine DW.exit ?_ | refine DW.condT rfl ?_ | refine DW.condF rfl ?_))
      cases hgo : goesT r l k v[k][j].e with
      | none =>
        rw [hgo] at hgj
        (repeat (first | refine RO.Sv ?_ | refine RO.Yv ?_ | refine RO.no rfl (by decide) rfl ?_ | refine RO.nil ?_ | refine DW.region ?_ | refine DW.seq ?_ | refine DW.block ?_ | refine DW.skip ?_ | refine DW.exit ?_ | refine DW.condT rfl ?_ | refine DW.condF rfl ?_))
        exact ⟨j + 1, ⟨hjl, by simpa using hgj⟩, by dsimp only; omega, Heap.sub_set _ hb8, (by repeat first | exact trivial | refine HasG.one rfl ?_ | refine HasN.one rfl ?_)⟩
      | some i =>
        rw [hgo] at hgj
        have h0 : decide ((0 : Int) ≤ goIdx (some i)) = true := decide_eq_true (by show (0 : Int) ≤ (i : Int); omega)
        have h1 : decide (goIdx (some i) ≥ (0 : Int)) = true := h0
        rw [show normalT r l v = false by rw [← hgj]; rfl]
        simp only [h0, h1]
        (repeat (first | refine RO.Sv ?_ | refine RO.Yv ?_ | refine RO.no rfl (by decide) rfl ?_ | refine RO.nil ?_ | refine DW.region ?_ | refine DW.seq ?_ | refine DW.block ?_ | refine DW.skip ?_ | refine DW.exit ?_ | refine DW.condT rfl ?_ | refine DW.condF rfl ?_))
        exact DW.ret ⟨.inl rfl, _, rfl, (Over.refl _).set hb8, .same _⟩
    · have hge : j = v[k].length := by have := of_decide_eq_false hb; omega
      rw [hge, List.drop_length] at hgj
      (repeat (first | refine RO.Sv ?_ | refine RO.Yv ?_ | refine RO.no rfl (by decide) rfl ?_ | refine RO.nil ?_ | refine DW.region ?_ | refine DW.seq ?_ | refine DW.block ?_ | refine DW.skip ?_ | refine DW.exit ?_ | refine DW.condT rfl ?_ | refine DW.condF rfl ?_))
      exact ⟨k + 1, ⟨hlt, by simpa [rowNormal] using hgj⟩, by dsimp only; omega, Heap.sub_refl _, (by repeat first | exact trivial | refine HasG.one rfl ?_ | refine HasN.one rfl ?_)⟩
  · have hge : k = v.length := by have := of_decide_eq_false hb; omega
    rw [hge, List.drop_length] at hg
    rw [← hg]
    (repeat (first | refine RO.Sv ?_ | refine RO.Yv ?_ | refine RO.no rfl (by decide) rfl ?_ | refine RO.nil ?_ | refine DW.region ?_ | refine DW.seq ?_ | refine DW.block ?_ | refine DW.skip ?_ | refine DW.exit ?_ | refine DW.condT rfl ?_ | refine DW.condF rfl ?_))
    exact DW.ret ⟨.inl rfl, _, rfl, Over.refl _, .same _⟩

theorem NormalOf_pure (r : Rg) (v : Vc) (l : List Vc) {n : Nat} (hl : l.length ≤ 1000000) (hd : ∀ v ∈ l, VD r n v) (hv : VD r n v) : Pure Try.prog 11 [rgD r, vcD v, vcsD l] (.bool (normalT r l v)) := by
  intro H
  have hvl := hv.len
  refine PureH.of_body Try.func11 rfl (by decide) (Nat.le_of_ble_eq_true rfl) fun w0 => ?_
  (repeat (first | refine RO.Sv ?_ | refine RO.Yv ?_ | refine RO.no rfl (by decide) rfl ?_ | refine RO.nil ?_ | refine DW.region ?_ | refine DW.seq ?_ | refine DW.block ?_ | refine DW.skip ?_ | refine DW.exit ?_ | refine DW.condT rfl ?_ | refine DW.condF rfl ?_))
  refine DW.loopG (fun k : Nat => k ≤ v.length ∧ normGo r l k (v.drop k) = normalT r l v) (fun k => [(1, vcD v), (2, vcsD l), (3, .ipt 4 [rgD r] 0 0), (7, I k)]) (fun _ => H) (fun k => v.length - k) 0 ⟨Nat.zero_le _, rfl⟩ (Heap.sub_refl _) (by repeat first | exact trivial | refine HasG.one rfl ?_ | refine HasN.one rfl ?_) fun k ⟨hk, hg⟩ => ?_
  (repeat (first | refine RO.Sv ?_ | refine RO.Yv ?_ | refine RO.no rfl (by decide) rfl ?_ | refine RO.nil ?_ | refine DW.region ?_ | refine DW.seq ?_ | refine DW.block ?_ | refine DW.skip ?_ | refine DW.exit ?_ | refine DW.condT rfl ?_ | refine DW.condF rfl ?_))
  refine DW.cond rfl (fun hb => ?_) (fun hb => ?_)
  · have hlt : k < v.length := by have := of_decide_eq_true hb; omega
    have hme := hv.me hlt
    have hlong := hv.long hlt
    rw [normGo_drop hlt] at hg
    clear hb
    (repeat (first | refine RO.Sv ?_ | refine RO.Yv ?_ | refine RO.no rfl (by decide) rfl ?_ | refine RO.nil ?_ | refine DW.region ?_ | refine DW.seq ?_ | refine DW.block ?_ | refine DW.skip ?_ | refine DW.exit ?_ | refine DW.condT rfl ?_ | refine DW.condF rfl ?_))
    refine DW.loopG (fun j : Nat => j ≤ v[k].length ∧ (rowNormal r l k (v[k].drop j) && normGo r l (k + 1) (v.drop (k + 1))) = normalT r l v) (fun j => [(1, vcD v), (2, vcsD l), (3, .ipt 4 [rgD r] 0 0), (7, I k), (8, I j)]) (fun _ => H) (fun j => v[k].length - j) 0 ⟨Nat.zero_le _, hg⟩ (Heap.sub_refl _) (by repeat first | exact trivial | refine HasG.one rfl ?_ | refine HasN.one rfl ?_) fun j ⟨hj, hgj⟩ => ?_
    (repeat (first | refine RO.Sv ?_ | refine RO.Yv ?_ | refine RO.no rfl (by decide) rfl ?_ | refine RO.nil ?_ | refine DW.region ?_ | refine DW.seq ?_ | refine DW.block ?_ | refine DW.skip ?_ | refine DW.exit ?_ | refine DW.condT rfl ?_ | refine DW.condF rfl ?_))
    refine DW.cond rfl (fun hb => ?_) (fun hb => ?_)
    · have hjl : j < v[k].length := by have := of_decide_eq_true hb; omega
      rw [rowNormal_drop hjl] at hgj
      clear hb
      (repeat (first | refine RO.Sv ?_ | refine RO.Yv ?_ | refine RO.no rfl (by decide) rfl ?_ | refine RO.nil ?_ | refine DW.region ?_ | refine DW.seq ?_ | refine DW.block ?_ | refine DW.skip ?_ | refine DW.exit ?_ | refine DW.condT rfl ?_ | refine DW.condF rfl ?_))
      refine DW.drawS 12 Try.mixed (by kernel_rfl) (by decide) ?_
      dsimp only [List.take, List.drop]
      (repeat (first | refine RS.Sv ?_ | refine RS.Yv ?_ | refine RS.no rfl (by decide) rfl ?_ | refine RS.nil ?_))
      refine RS.sta (fun H' hov => sta_call rfl rfl (Divisor_pure r l k v[k][j] hl hd (hme _ (List.getElem_mem hjl)) _)) rfl ?_
      (repeat (first | refine RS.Sv ?_ | refine RS.Yv ?_ | refine RS.no rfl (by decide) rfl ?_ | refine RS.nil ?_))
      cases hgo : goesT r l k v[k][j].e with
      | none =>
        rw [hgo] at hgj
        (repeat (first | refine RO.Sv ?_ | refine RO.Yv ?_ | refine RO.no rfl (by decide) rfl ?_ | refine RO.nil ?_ | refine DW.region ?_ | refine DW.seq ?_ | refine DW.block ?_ | refine DW.skip ?_ | refine DW.exit ?_ | refine DW.condT rfl ?_ | refine DW.condF rfl ?_))
        exact ⟨j + 1, ⟨hjl, by simpa using hgj⟩, by dsimp only; omega, Heap.sub_refl _, (by repeat first | exact trivial | refine HasG.one rfl ?_ | refine HasN.one rfl ?_)⟩
      | some i =>
        rw [hgo] at hgj
        have h0 : decide ((0 : Int) ≤ goIdx (some i)) = true := decide_eq_true (by show (0 : Int) ≤ (i : Int); omega)
        have h1 : decide (goIdx (some i) ≥ (0 : Int)) = true := h0
        rw [show normalT r l v = false by rw [← hgj]; rfl]
        simp only [h0, h1]
        (repeat (first | refine RO.Sv ?_ | refine RO.Yv ?_ | refine RO.no rfl (by decide) rfl ?_ | refine RO.nil ?_ | refine DW.region ?_ | refine DW.seq ?_ | refine DW.block ?_ | refine DW.skip ?_ | refine DW.exit ?_ | refine DW.condT rfl ?_ | refine DW.condF rfl ?_))
        exact DW.ret ⟨.inl rfl, _, rfl, Over.refl _, .same _⟩
    · have hge : j = v[k].length := by have := of_decide_eq_false hb; omega
      rw [hge, List.drop_length] at hgj
      (repeat (first | refine RO.Sv ?_ | refine RO.Yv ?_ | refine RO.no rfl (by decide) rfl ?_ | refine RO.nil ?_ | refine DW.region ?_ | refine DW.seq ?_ | refine DW.block ?_ | refine DW.skip ?_ | refine DW.exit ?_ | refine DW.condT rfl ?_ | refine DW.condF rfl ?_))
      exact ⟨k + 1, ⟨hlt, by simpa [rowNormal] using hgj⟩, by dsimp only; omega, Heap.sub_refl _, (by repeat first | exact trivial | refine HasG.one rfl ?_ | refine HasN.one rfl ?_)⟩
  · have hge : k = v.length := by have := of_decide_eq_false hb; omega
    rw [hge, List.drop_length] at hg
    rw [← hg]
    (repeat (first | refine RO.Sv ?_ | refine RO.Yv ?_ | refine RO.no rfl (by decide) rfl ?_ | refine RO.nil ?_ | refine DW.region ?_ | refine DW.seq ?_ | refine DW.block ?_ | refine DW.skip ?_ | refine DW.exit ?_ | refine DW.condT rfl ?_ | refine DW.condF rfl ?_))
    exact DW.ret ⟨.inl rfl, _, rfl, Over.refl _, .same _⟩

/-- What Normal answers. -/
def normE (r : Rg) (rank : Int) (v : Vc) (l : List Vc) : Bool × Int := if readyCk r rank v l ≠ 0 then (false, readyCk r rank v l) else (normalT r l v, 0)
def boolE (x : Bool × Int) : D := .tup [.bool x.1, I x.2]

theorem dNormal_pure (r : Rg) (rank : Int) (v : Vc) (l : List Vc) (hv : v.length ≤ 4611686018427387904 ∧ ∀ f ∈ v, f.length ≤ 4611686018427387904) (hl : l.length ≤ 4611686018427387904 ∧ ∀ v ∈ l, v.length ≤ 4611686018427387904 ∧ ∀ f ∈ v, f.length ≤ 4611686018427387904) :
    Pure Try.prog 8 [rgD r, I rank, vcD v, vcsD l] (boolE (normE r rank v l)) := by
  intro H
  refine PureH.of_body Try.func8 rfl (by decide) (Nat.le_of_ble_eq_true rfl) fun w0 => ?_
  unfold normE
  (repeat (first | refine RO.Sv ?_ | refine RO.Yv ?_ | refine RO.no rfl (by decide) rfl ?_ | refine RO.nil ?_ | refine DW.region ?_ | refine DW.seq ?_ | refine DW.block ?_ | refine DW.skip ?_ | refine DW.exit ?_ | refine DW.condT rfl ?_ | refine DW.condF rfl ?_))
  refine RO.sta (sta_call rfl rfl (ready_pure r rank v l hv hl _)) rfl ?_
  (repeat (first | refine RO.Sv ?_ | refine RO.Yv ?_ | refine RO.no rfl (by decide) rfl ?_ | refine RO.nil ?_ | refine DW.region ?_ | refine DW.seq ?_ | refine DW.block ?_ | refine DW.skip ?_ | refine DW.exit ?_ | refine DW.condT rfl ?_ | refine DW.condF rfl ?_))
  by_cases h1 : readyCk r rank v l = 0
  · obtain ⟨h2, h3, h4⟩ := readyCk_ok h1
    obtain ⟨hp, hn3, hn1, hpr, hck⟩ := h2.rg
    have hd : ∀ d ∈ l, VD r r.n.toNat d := fun d hd => (h2.vecs d hd).vd hn3 h2.rank2
    have hll := h2.len
    rw [if_neg (by simpa using h1), show (readyCk r rank v l != 0) = false by simpa using h1]
    (repeat (first | refine RO.Sv ?_ | refine RO.Yv ?_ | refine RO.no rfl (by decide) rfl ?_ | refine RO.nil ?_ | refine DW.region ?_ | refine DW.seq ?_ | refine DW.block ?_ | refine DW.skip ?_ | refine DW.exit ?_ | refine DW.condT rfl ?_ | refine DW.condF rfl ?_))
    refine RO.sta (sta_call rfl rfl (dvAll_pure r l (by omega) hd _)) rfl ?_
    refine RO.sta (sta_call rfl rfl (IsNormal_pure r v l (by omega) hd (h3.vd hn3 h2.rank2) _)) rfl ?_
    (repeat (first | refine RO.Sv ?_ | refine RO.Yv ?_ | refine RO.no rfl (by decide) rfl ?_ | refine RO.nil ?_ | refine DW.region ?_ | refine DW.seq ?_ | refine DW.block ?_ | refine DW.skip ?_ | refine DW.exit ?_ | refine DW.condT rfl ?_ | refine DW.condF rfl ?_))
    exact DW.ret ⟨.inl rfl, _, rfl, Over.refl _, .same _⟩
  · rw [if_pos h1, show (readyCk r rank v l != 0) = true by simpa using h1]
    (repeat (first | refine RO.Sv ?_ | refine RO.Yv ?_ | refine RO.no rfl (by decide) rfl ?_ | refine RO.nil ?_ | refine DW.region ?_ | refine DW.seq ?_ | refine DW.block ?_ | refine DW.skip ?_ | refine DW.exit ?_ | refine DW.condT rfl ?_ | refine DW.condF rfl ?_))
    exact DW.ret ⟨.inl rfl, _, rfl, Over.refl _, .same _⟩

end Go.Proofs.Ytblileclefbklaa

namespace Go.Proofs.Ytblileclefbklaa
open Go.RowKit
set_option linter.unusedVariables false
set_option linter.unusedSimpArgs false
set_option maxHeartbeats 8000000

instance : ElT Try.prog 24 1 [.nil] 24 := .of (z := .slice none 0 0) (by kernel_rfl) rfl rfl rfl (by decide)
instance : SizeT Try.prog 24 1 := .of (by kernel_rfl)

theorem set_map_pl (q : Vc) (i : Nat) (f : Pl) (h : i < q.length) : setMany (q.map plD) (0 + i * 1) (cellsOf (plD f)) = (q.set i f).map plD := by
  rw [show 0 + i * 1 = i by omega, setManyD _ _ _ rfl (by simpa using h), List.map_set]

/-- What Divide's function has written. -/
structure DvR (r : Rg) (n bv bq : Nat) (σ : List (Nat × Tm)) (H : Heap) : Prop where
  var : H bv = some (24, [.ref bq 0 n 1])
  row : H bq = some (41, (qOf r n σ).map plD)
  len : (qOf r n σ).length = n
  all : ∀ f ∈ qOf r n σ, PB 1 r.p r.order r.n.toNat 8000 f ∧ DB 8000 f

theorem divide1_call {r : Rg} {n bv bq : Nat} {σ : List (Nat × Tm)} {H : Heap} {i : Nat} {t : Tm} (hne : bv ≠ bq) (hp : 2 ≤ r.p ∧ r.p ≤ 101) (hn3 : r.n.toNat ≤ 3) (h : DvR r n bv bq σ H) (hi : i < n) (ht : TB 1 r.p r.n.toNat 8000 t) (hm : ME r.n.toNat t.e) :
    CallD Try.prog H 36 [I i, tmD t, .ipt 4 [rgD r] 0 0, .ptr bv 0] fun d H' => DvR r n bv bq (σ ++ [(i, t)]) H' ∧ ∀ c, c ≠ bq → H' c = H c := by
  have hlen := h.len
  have hi2 : i < (qOf r n σ).length := by omega
  obtain ⟨q1, q2⟩ := h.all _ (List.getElem_mem hi2)
  have ql := len_le8 q1 q2 hn3 (by omega)
  have hgd : (qOf r n σ).getD i [] = (qOf r n σ)[i] := by rw [List.getD_eq_getElem?_getD, List.getElem?_eq_getElem hi2]; rfl
  refine CallD.of_body Try.func36 rfl (by decide) (Nat.le_of_ble_eq_true rfl) fun w0 => ?_
  (repeat (first | refine RO.Sv ?_ | refine RO.Yv ?_ | refine RO.no rfl (by decide) rfl ?_ | refine RO.nil ?_ | refine DW.region ?_ | refine DW.seq ?_ | refine DW.block ?_ | refine DW.skip ?_ | refine DW.exit ?_ | refine DW.condT rfl ?_ | refine DW.condF rfl ?_))
  refine DW.drawS 10 Try.mixed (by kernel_rfl) (by decide) ?_
  dsimp only [List.take, List.drop]
  refine RS.sta (r_loadMut (d := .ref bq 0 n 1) rfl h.var rfl) rfl ?_
  (repeat (first | refine RS.Sv ?_ | refine RS.Yv ?_ | refine RS.no rfl (by decide) rfl ?_ | refine RS.nil ?_))
  refine RS.sta (r_loadMut (d := .ref bq 0 n 1) rfl h.var rfl) rfl ?_
  (repeat (first | refine RS.Sv ?_ | refine RS.Yv ?_ | refine RS.no rfl (by decide) rfl ?_ | refine RS.nil ?_))
  refine RS.sta (fun H' hov => s_indexRef (i := i) rfl rfl hi) rfl ?_
  refine RS.sta (r_loadMut (d := plD (qOf r n σ)[i]) rfl h.row (by rw [show 0 + i * 1 = i by omega, List.getElem?_map, List.getElem?_eq_getElem hi2]; rfl)) rfl ?_
  (repeat (first | refine RS.Sv ?_ | refine RS.Yv ?_ | refine RS.no rfl (by decide) rfl ?_ | refine RS.nil ?_))
  refine RS.sta (fun H' hov => sta_call rfl rfl (sum_pure r (qOf r n σ)[i] [t] (n := r.n.toNat) (B := 8000) hn3 (by omega) hp (by simp; omega) q1 (PB.one ht) _)) rfl ?_
  refine RS.nil ?_
  refine RO.sta (s_indexRef (i := i) rfl rfl hi) rfl ?_
  refine RO.dyn rfl (d_store (k := 1) rfl rfl rfl h.row (by simp [cellsOf, plD]; omega) (by simp [cellsOf, D.isCell, plD]) ?_)
  rw [set_map_pl _ _ _ hi2]
  refine RO.nil ?_
  refine ⟨.inr rfl, _, _, _, rfl, Heap.sub_refl _, .same _, ⟨by rw [Heap.set_other _ _ hne]; exact h.var, ?_, ?_, fun f hf => ?_⟩, fun c hc => Heap.set_other _ _ hc⟩
  · rw [Heap.set_self, qOf_snoc, hgd]
  · rw [qOf_snoc]; simpa using hlen
  · rw [qOf_snoc, hgd] at hf
    rcases List.mem_or_eq_of_mem_set hf with hf | rfl
    · exact h.all f hf
    · exact ⟨sumT_ok (by omega) _ _ q1 (PB.one ht), DB.sum q2 fun s hs => by rw [List.mem_singleton.1 hs]; exact hm.deg⟩

def divE (x : Vc × Vc × Int) : D := .tup [vcD x.1, vcD x.2.1, I x.2.2]

theorem vgreat_any (v : Vc) : vgreatT v = v.any greatT := rfl

theorem divide_pure (r : Rg) (rank : Int) (v : Vc) (l : List Vc) (hv : v.length ≤ 4611686018427387904 ∧ ∀ f ∈ v, f.length ≤ 4611686018427387904) (hl : l.length ≤ 4611686018427387904 ∧ ∀ v ∈ l, v.length ≤ 4611686018427387904 ∧ ∀ f ∈ v, f.length ≤ 4611686018427387904) :
    Pure Try.prog 7 [rgD r, I rank, vcD v, vcsD l] (divE (divideT r rank v l)) := by
  intro H
  refine PureH.of_body Try.func7 rfl (by decide) (Nat.le_of_ble_eq_true rfl) fun w0 => ?_
  (repeat (first | refine RO.Sv ?_ | refine RO.Yv ?_ | refine RO.no rfl (by decide) rfl ?_ | refine RO.nil ?_ | refine DW.region ?_ | refine DW.seq ?_ | refine DW.block ?_ | refine DW.skip ?_ | refine DW.exit ?_ | refine DW.condT rfl ?_ | refine DW.condF rfl ?_))
  refine RO.sta (sta_call rfl rfl (ready_pure r rank v l hv hl _)) rfl ?_
  (repeat (first | refine RO.Sv ?_ | refine RO.Yv ?_ | refine RO.no rfl (by decide) rfl ?_ | refine RO.nil ?_ | refine DW.region ?_ | refine DW.seq ?_ | refine DW.block ?_ | refine DW.skip ?_ | refine DW.exit ?_ | refine DW.condT rfl ?_ | refine DW.condF rfl ?_))
  by_cases h1 : readyCk r rank v l = 0
  case neg =>
    have hd : divideT r rank v l = ([], [], readyCk r rank v l) := if_pos h1
    rw [hd, show (readyCk r rank v l != 0) = true by simpa using h1]
    (repeat (first | refine RO.Sv ?_ | refine RO.Yv ?_ | refine RO.no rfl (by decide) rfl ?_ | refine RO.nil ?_ | refine DW.region ?_ | refine DW.seq ?_ | refine DW.block ?_ | refine DW.skip ?_ | refine DW.exit ?_ | refine DW.condT rfl ?_ | refine DW.condF rfl ?_))
    exact DW.ret ⟨.inl rfl, _, rfl, Over.refl _, .tup3 (.nil _) (.nil _) (.same _)⟩
  obtain ⟨h2, h3, h4⟩ := readyCk_ok h1
  obtain ⟨hp, hn3, hn1, hpr, hck⟩ := h2.rg
  have hrk := h2.rank2
  have hdl : ∀ d ∈ l, VD r r.n.toNat d := fun d hd => (h2.vecs d hd).vd hn3 hrk
  have hll := h2.len
  obtain ⟨fin, fin0⟩ := divT_ok h2 h3
  have hdv : divideT r rank v l = if (vgreatT (divT r rank.toNat l v).left || vgreatT (divT r rank.toNat l v).q) = true then ([], [], 2) else ((divT r rank.toNat l v).q, (divT r rank.toNat l v).left, 0) := if_neg (by simpa using h1)
  rw [hdv, show (readyCk r rank v l != 0) = false by simpa using h1]
  clear hdv
  (repeat (first | refine RO.Sv ?_ | refine RO.Yv ?_ | refine RO.no rfl (by decide) rfl ?_ | refine RO.nil ?_ | refine DW.region ?_ | refine DW.seq ?_ | refine DW.block ?_ | refine DW.skip ?_ | refine DW.exit ?_ | refine DW.condT rfl ?_ | refine DW.condF rfl ?_))
  refine RO.dyn rfl (d_make rfl rfl (Nat.le_refl _) (by omega) (by omega) fun bq hbq => ?_)
  rw [flatten_replicate1]
  (repeat (first | refine RO.Sv ?_ | refine RO.Yv ?_ | refine RO.no rfl (by decide) rfl ?_ | refine RO.nil ?_ | refine DW.region ?_ | refine DW.seq ?_ | refine DW.block ?_ | refine DW.skip ?_ | refine DW.exit ?_ | refine DW.condT rfl ?_ | refine DW.condF rfl ?_))
  refine RO.dyn rfl (d_alloc fun bv hbv => ?_)
  have hne : bv ≠ bq := fun e => by rw [e, Heap.set_self] at hbv; cases hbv
  have hbv' : H bv = none := Heap.none_of_set hne.symm hbv
  (repeat (first | refine RO.Sv ?_ | refine RO.Yv ?_ | refine RO.no rfl (by decide) rfl ?_ | refine RO.nil ?_ | refine DW.region ?_ | refine DW.seq ?_ | refine DW.block ?_ | refine DW.skip ?_ | refine DW.exit ?_ | refine DW.condT rfl ?_ | refine DW.condF rfl ?_))
  refine RO.dyn rfl (d_store (k := 1) rfl rfl rfl (Heap.set_self _ _ _) (Nat.le_refl _) (by simp [cellsOf, D.isCell]) ?_)
  rw [Heap.set_set]
  refine RO.nil ?_
  refine DW.seeCells ((List.replicate l.length []).map plD) (by rw [Heap.set_other _ _ hne.symm, Heap.set_self]) (by simp) (fun j x x' hx hx' => by
    have hj : j < l.length := by have := (List.getElem?_eq_some_iff.1 hx).1; simpa using this
    rw [List.getElem?_replicate, if_pos hj] at hx
    rw [List.getElem?_map, List.getElem?_replicate, if_pos hj] at hx'
    cases hx; cases hx'
    exact ⟨rfl, .inr ⟨rfl, 2, rfl⟩⟩) ?_
  refine DW.asH (fun H2 => DvR r l.length bv bq [] H2 ∧ ∀ c, c ≠ bv → c ≠ bq → H2 c = H c) ⟨⟨by rw [Heap.set_other _ _ hne, Heap.set_self]; rfl, by rw [Heap.set_self]; rfl, by simp [qOf], fun f hf => by
    rw [List.eq_of_mem_replicate hf]; exact ⟨PB.nil _ _ _ _ _, fun t h => by cases h⟩⟩, fun c c1 c2 => by rw [Heap.set_other _ _ c2, Heap.set_other _ _ c1, Heap.set_other _ _ c2]⟩ fun H2 ⟨hR, hfr⟩ => ?_
  have told : Told r l H2 (fun c => c = bv ∨ c = bq) 36 [.ipt 4 [rgD r] 0 0, .ptr bv 0] (fun σ H => DvR r l.length bv bq σ H) :=
    ⟨fun c hc => by
      rcases hc with rfl | rfl
      · rw [hR.var]; simp
      · rw [hR.row]; simp, hR, fun σ A B h hs => ⟨by rw [hs _ (.inl rfl)]; exact h.var, by rw [hs _ (.inr rfl)]; exact h.row, h.len, h.all⟩,
      fun σ A i t h _ hi ht hm => ⟨(divide1_call hne hp hn3 h hi ht hm).body, fun w args ho ha => ((divide1_call hne hp hn3 h hi ht hm).calls w args ho ha).mono fun en w' ⟨vv, d, H', e1, ⟨e2, e3⟩, e4⟩ => ⟨vv, d, H', e1, ⟨e2, fun c hc => by
        rcases hc with rfl | rfl
        · rw [e2.var]; simp
        · rw [e2.row]; simp, fun c z hc hn => by rw [e3 c fun e => hn (.inr e)]; exact hc⟩, e4⟩⟩⟩
  (repeat (first | refine RO.Sv ?_ | refine RO.Yv ?_ | refine RO.no rfl (by decide) rfl ?_ | refine RO.nil ?_ | refine DW.region ?_ | refine DW.seq ?_ | refine DW.block ?_ | refine DW.skip ?_ | refine DW.exit ?_ | refine DW.condT rfl ?_ | refine DW.condF rfl ?_))
  refine DW.drawS 6 Try.mixed (by kernel_rfl) (by decide) ?_
  dsimp only [List.take, List.drop]
  (repeat (first | refine RS.Sv ?_ | refine RS.Yv ?_ | refine RS.no rfl (by decide) rfl ?_ | refine RS.nil ?_))
  refine RS.sta (fun H' hov => sta_call rfl rfl (dvAll_pure r l (by omega) hdl _)) rfl ?_
  (repeat (first | refine RS.Sv ?_ | refine RS.Yv ?_ | refine RS.no rfl (by decide) rfl ?_ | refine RS.nil ?_))
  refine RO.dyn rfl ((opD_call rfl rfl (left_call h2 h3 told)).mono fun d H3 ⟨hd3, σ, hσ, hR3, hfr3⟩ => ?_)
  subst hd3
  generalize hDT : divT r rank.toNat l v = dt at *
  have hql : dt.q.length = l.length := fin.qlen
  have hleft : ∀ f ∈ dt.left, PB 1 r.p r.order r.n.toNat 8000 f ∧ f.length ≤ 512192024001 := fun f hf => by
    obtain ⟨j, hj, rfl⟩ := List.getElem_of_mem hf
    obtain ⟨l1, l2⟩ := fin.left j hj
    have := fin.llen
    exact ⟨l1, len_le8 l1 l2 hn3 (degB_range r (by omega)).2⟩
  have hq : ∀ f ∈ dt.q, PB 1 r.p r.order r.n.toNat 8000 f ∧ f.length ≤ 512192024001 := fun f hf => by
    obtain ⟨q1, q2⟩ := fin.q f hf
    exact ⟨q1, len_le8 q1 q2 hn3 (by omega)⟩
  have hvar := hR3.var
  have hrow := hR3.row
  rw [hσ] at hrow
  have hov3 : ∀ X, Over H (Heap.set H3 bq X) := fun X c z hc => by
    have c1 : c ≠ bv := fun e => by rw [e, hbv'] at hc; cases hc
    have c2 : c ≠ bq := fun e => by rw [e, hbq] at hc; cases hc
    rw [Heap.set_other _ _ c2, hfr3 c (fun e => e.elim c1 c2), hfr c c1 c2]; exact hc
  have hov0 : Over H H3 := fun c z hc => by
    have c1 : c ≠ bv := fun e => by rw [e, hbv'] at hc; cases hc
    have c2 : c ≠ bq := fun e => by rw [e, hbq] at hc; cases hc
    rw [hfr3 c (fun e => e.elim c1 c2), hfr c c1 c2]; exact hc
  (repeat (first | refine RO.Sv ?_ | refine RO.Yv ?_ | refine RO.no rfl (by decide) rfl ?_ | refine RO.nil ?_ | refine DW.region ?_ | refine DW.seq ?_ | refine DW.block ?_ | refine DW.skip ?_ | refine DW.exit ?_ | refine DW.condT rfl ?_ | refine DW.condF rfl ?_))
  refine RO.sta (sta_call rfl rfl (vDone_pure dt.left (by have := fin.llen; omega) (fun f hf => ⟨by have := (hleft f hf).2; omega, fun t ht => ((hleft f hf).1.all t ht).mok hn3 (by omega)⟩) _)) rfl ?_
  (repeat (first | refine RO.Sv ?_ | refine RO.Yv ?_ | refine RO.no rfl (by decide) rfl ?_ | refine RO.nil ?_ | refine DW.region ?_ | refine DW.seq ?_ | refine DW.block ?_ | refine DW.skip ?_ | refine DW.exit ?_ | refine DW.condT rfl ?_ | refine DW.condF rfl ?_))
  cases hg1 : vgreatT dt.left
  case true =>
    have e1 : vdoneT dt.left = ([], 2) := by unfold vdoneT; rw [if_pos hg1]
    rw [e1, Bool.true_or, if_pos rfl]
    (repeat (first | refine RO.Sv ?_ | refine RO.Yv ?_ | refine RO.no rfl (by decide) rfl ?_ | refine RO.nil ?_ | refine DW.region ?_ | refine DW.seq ?_ | refine DW.block ?_ | refine DW.skip ?_ | refine DW.exit ?_ | refine DW.condT rfl ?_ | refine DW.condF rfl ?_))
    exact DW.ret ⟨.inl rfl, _, rfl, hov0, .tup3 (.nil _) (.nil _) (.same _)⟩
  have e1 : vdoneT dt.left = (dt.left, 0) := by unfold vdoneT; rw [if_neg (by rw [hg1]; simp)]
  rw [e1, Bool.false_or]
  (repeat (first | refine RO.Sv ?_ | refine RO.Yv ?_ | refine RO.no rfl (by decide) rfl ?_ | refine RO.nil ?_ | refine DW.region ?_ | refine DW.seq ?_ | refine DW.block ?_ | refine DW.skip ?_ | refine DW.exit ?_ | refine DW.condT rfl ?_ | refine DW.condF rfl ?_))
  refine RO.sta (s_loadMut (d := .ref bq 0 l.length 1) rfl hvar rfl) rfl ?_
  refine RO.sta (s_len (n := l.length) rfl rfl) rfl ?_
  (repeat (first | refine RO.Sv ?_ | refine RO.Yv ?_ | refine RO.no rfl (by decide) rfl ?_ | refine RO.nil ?_ | refine DW.region ?_ | refine DW.seq ?_ | refine DW.block ?_ | refine DW.skip ?_ | refine DW.exit ?_ | refine DW.condT rfl ?_ | refine DW.condF rfl ?_))
  refine DW.loopG (fun k : Nat => k ≤ l.length ∧ (dt.q.drop k).any greatT = dt.q.any greatT) (fun k => [(12, .ptr bv 0), (13, vcD dt.left), (43, I l.length), (44, I k)]) (fun _ => H3) (fun k => l.length - k) 0 ⟨Nat.zero_le _, rfl⟩ (Heap.sub_refl _) (by repeat first | exact trivial | refine HasG.one rfl ?_ | refine HasN.one rfl ?_) fun k ⟨hk, hg⟩ => ?_
  (repeat (first | refine RO.Sv ?_ | refine RO.Yv ?_ | refine RO.no rfl (by decide) rfl ?_ | refine RO.nil ?_ | refine DW.region ?_ | refine DW.seq ?_ | refine DW.block ?_ | refine DW.skip ?_ | refine DW.exit ?_ | refine DW.condT rfl ?_ | refine DW.condF rfl ?_))
  refine DW.cond rfl (fun hb => ?_) (fun hb => ?_)
  · have hlt : k < l.length := by have := of_decide_eq_true hb; omega
    have hltq : k < dt.q.length := by omega
    clear hb
    obtain ⟨q1, q2⟩ := hq _ (List.getElem_mem hltq)
    rw [any_drop hltq] at hg
    (repeat (first | refine RO.Sv ?_ | refine RO.Yv ?_ | refine RO.no rfl (by decide) rfl ?_ | refine RO.nil ?_ | refine DW.region ?_ | refine DW.seq ?_ | refine DW.block ?_ | refine DW.skip ?_ | refine DW.exit ?_ | refine DW.condT rfl ?_ | refine DW.condF rfl ?_))
    refine DW.drawX [0, 1, 2, 3, 4, 5, 6, 7, 8, 9] [9] (fun _ => none) Try.mixed (by kernel_rfl) (Over.nul _) ?_
    refine RX.sta rfl (r_loadMut (d := .ref bq 0 l.length 1) rfl hvar rfl) rfl ?_
    (repeat (first | refine RX.A ?_ | refine RX.nil ?_))
    refine RX.sta rfl (r_loadMut (d := .ref bq 0 l.length 1) rfl hvar rfl) rfl ?_
    (repeat (first | refine RX.A ?_ | refine RX.nil ?_))
    refine RX.any (fun H' => s_indexRef (i := k) rfl rfl hlt) rfl ?_
    refine RX.sta rfl (r_loadMut (d := plD dt.q[k]) rfl hrow (by rw [show 0 + k * 1 = k by omega, List.getElem?_map, List.getElem?_eq_getElem hltq]; rfl)) rfl ?_
    refine RX.any (fun H' => sta_call rfl rfl (done_pure dt.q[k] (by omega) (fun t ht => (q1.all t ht).mok hn3 (by omega)) _)) rfl ?_
    (repeat (first | refine RX.A ?_ | refine RX.nil ?_))
    refine RY.sta (Over.nul _) (s_indexRef (i := k) rfl rfl hlt) rfl ?_
    refine RY.dyn rfl (d_store (k := 1) rfl rfl rfl hrow (by simp [cellsOf, plD]; omega) (by simp [cellsOf, D.isCell, plD]) ⟨Over.nul _, ?_⟩)
    rw [set_map_pl _ _ _ hltq]
    (repeat (first | refine RY.S ?_ | refine RY.nil ?_))
    (repeat (first | refine RO.Sv ?_ | refine RO.Yv ?_ | refine RO.no rfl (by decide) rfl ?_ | refine RO.nil ?_ | refine DW.region ?_ | refine DW.seq ?_ | refine DW.block ?_ | refine DW.skip ?_ | refine DW.exit ?_ | refine DW.condT rfl ?_ | refine DW.condF rfl ?_))
    cases hgk : greatT dt.q[k]
    case true =>
      have e2 : doneT dt.q[k] = ([], 2) := by unfold doneT; rw [if_pos hgk]
      rw [hgk, Bool.true_or] at hg
      have e3 : vgreatT dt.q = true := hg.symm
      rw [e2, e3, if_pos rfl]
      (repeat (first | refine RO.Sv ?_ | refine RO.Yv ?_ | refine RO.no rfl (by decide) rfl ?_ | refine RO.nil ?_ | refine DW.region ?_ | refine DW.seq ?_ | refine DW.block ?_ | refine DW.skip ?_ | refine DW.exit ?_ | refine DW.condT rfl ?_ | refine DW.condF rfl ?_))
      exact DW.ret ⟨.inl rfl, _, rfl, hov3 _, .tup3 (.nil _) (.nil _) (.same _)⟩
    have e2 : doneT dt.q[k] = (dt.q[k], 0) := by unfold doneT; rw [if_neg (by rw [hgk]; simp)]
    rw [hgk, Bool.false_or] at hg
    rw [e2]
    have hsame : (Heap.set H3 bq (41, (dt.q.set k dt.q[k]).map plD)) = H3 := by
      funext c
      by_cases hc : c = bq
      · rw [hc, Heap.set_self, List.set_getElem_self, hrow]
      · rw [Heap.set_other _ _ hc]
    rw [hsame]
    (repeat (first | refine RO.Sv ?_ | refine RO.Yv ?_ | refine RO.no rfl (by decide) rfl ?_ | refine RO.nil ?_ | refine DW.region ?_ | refine DW.seq ?_ | refine DW.block ?_ | refine DW.skip ?_ | refine DW.exit ?_ | refine DW.condT rfl ?_ | refine DW.condF rfl ?_))
    exact ⟨k + 1, ⟨hlt, hg⟩, by dsimp only; omega, Heap.sub_refl _, (by repeat first | exact trivial | refine HasG.one rfl ?_ | refine HasN.one rfl ?_)⟩
  · have hge : k = l.length := by have := of_decide_eq_false hb; omega
    rw [hge, ← hql, List.drop_length] at hg
    have e3 : vgreatT dt.q = false := hg.symm
    rw [e3, if_neg (by simp)]
    (repeat (first | refine RO.Sv ?_ | refine RO.Yv ?_ | refine RO.no rfl (by decide) rfl ?_ | refine RO.nil ?_ | refine DW.region ?_ | refine DW.seq ?_ | refine DW.block ?_ | refine DW.skip ?_ | refine DW.exit ?_ | refine DW.condT rfl ?_ | refine DW.condF rfl ?_))
    refine RO.sta (s_loadMut (d := .ref bq 0 l.length 1) rfl hvar rfl) rfl ?_
    (repeat (first | refine RO.Sv ?_ | refine RO.Yv ?_ | refine RO.no rfl (by decide) rfl ?_ | refine RO.nil ?_ | refine DW.region ?_ | refine DW.seq ?_ | refine DW.block ?_ | refine DW.skip ?_ | refine DW.exit ?_ | refine DW.condT rfl ?_ | refine DW.condF rfl ?_))
    exact DW.ret ⟨.inl rfl, _, rfl, hov0, .tup3 (Frz.list (T := 41) (by rw [hrow, flat_cells1 (fun _ => rfl)]) hbq (uni_pl _) (by simp [hql])) (.same _) (.same _)⟩

end Go.Proofs.Ytblileclefbklaa
