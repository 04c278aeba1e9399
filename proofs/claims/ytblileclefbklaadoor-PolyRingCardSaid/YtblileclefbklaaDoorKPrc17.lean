/-
  poly.Of and the document's look at terms. No condition.
-/
import Derived.Test.YtblileclefbklaaDoorKPrc16

namespace Go.Proofs.YtblileclefbklaaDoor
open Go.RowKit
set_option linter.unusedVariables false
set_option linter.unusedSimpArgs false
set_option maxHeartbeats 8000000

theorem power_pure (p a : Int) (k : Nat) (hp : 2 ≤ p ∧ p ≤ 101) (ha : 0 ≤ a ∧ a ≤ 100) (hk : k ≤ 1000) : Pure Tryd.prog 38 [I p, I a, I k] (I (a ^ k % p)) := by
  intro H
  refine PureH.of_body Tryd.func38 rfl (by decide) (Nat.le_of_ble_eq_true rfl) fun w0 => ?_
  (repeat (first | refine RO.S ?_ | refine RO.Y ?_ | refine RO.no rfl (by decide) rfl ?_ | refine RO.nil ?_ | refine DW.region ?_ | refine DW.seq ?_ | refine DW.block ?_ | refine DW.skip ?_ | refine DW.exit ?_ | refine DW.condT rfl ?_ | refine DW.condF rfl ?_))
  refine DW.loopI (fun j : Nat => j ≤ k) (fun j => [(0, I p), (1, I a), (7, I (a ^ j % p)), (8, I k), (9, I j)]) (fun _ => H) (fun j => k - j) 0 (Nat.zero_le _) rfl ⟨rfl, rfl, by
    rw [Int.pow_zero, Int.emod_eq_of_lt (by decide) (by omega)]; rfl, rfl, rfl, trivial⟩ fun j hj => ?_
  have hm := mul_range (mod_range (x := a ^ j) hp) ha
  have hs := one_step (p := p) (c := 1) (a := a) j
  rw [Int.one_mul, Int.one_mul] at hs
  (repeat (first | refine RO.S ?_ | refine RO.Y ?_ | refine RO.no rfl (by decide) rfl ?_ | refine RO.nil ?_ | refine DW.region ?_ | refine DW.seq ?_ | refine DW.block ?_ | refine DW.skip ?_ | refine DW.exit ?_ | refine DW.condT rfl ?_ | refine DW.condF rfl ?_))
  refine DW.cond rfl (fun hb => ?_) (fun hb => ?_)
  · have hlt : j < k := by have := of_decide_eq_true hb; omega
    clear hb
    (repeat (first | refine RO.S ?_ | refine RO.Y ?_ | refine RO.no rfl (by decide) rfl ?_ | refine RO.nil ?_ | refine DW.region ?_ | refine DW.seq ?_ | refine DW.block ?_ | refine DW.skip ?_ | refine DW.exit ?_ | refine DW.condT rfl ?_ | refine DW.condF rfl ?_))
    rw [hs]
    exact ⟨j + 1, hlt, by dsimp only; omega, rfl, rfl, rfl, rfl, rfl, rfl, trivial⟩
  · have hge : j = k := by have := of_decide_eq_false hb; omega
    subst hge
    (repeat (first | refine RO.S ?_ | refine RO.Y ?_ | refine RO.no rfl (by decide) rfl ?_ | refine RO.nil ?_ | refine DW.region ?_ | refine DW.seq ?_ | refine DW.block ?_ | refine DW.skip ?_ | refine DW.exit ?_ | refine DW.condT rfl ?_ | refine DW.condF rfl ?_))
    exact DW.ret ⟨.inl rfl, _, rfl, Over.refl _, .same _⟩

theorem Value_pure (r : Rg) (f : Pl) (at' : List Int) (hf : f.length ≤ 4611686018427387904) (hat : at'.length ≤ 4611686018427387904) : Pure Tryd.prog 15 [rgD r, plD f, intsD at'] (pairD (valueR r f at')) := by
  intro H
  refine PureH.of_body Tryd.func15 rfl (by decide) (Nat.le_of_ble_eq_true rfl) fun w0 => ?_
  (repeat (first | refine RO.Sv ?_ | refine RO.Yv ?_ | refine RO.no rfl (by decide) rfl ?_ | refine RO.nil ?_ | refine DW.region ?_ | refine DW.seq ?_ | refine DW.block ?_ | refine DW.skip ?_ | refine DW.exit ?_ | refine DW.condT rfl ?_ | refine DW.condF rfl ?_))
  refine RO.sta (sta_call rfl rfl (pcheck_pure r [f] (by simp) (fun u hu => by rw [List.mem_singleton.1 hu]; exact hf) _)) rfl ?_
  (repeat (first | refine RO.Sv ?_ | refine RO.Yv ?_ | refine RO.no rfl (by decide) rfl ?_ | refine RO.nil ?_ | refine DW.region ?_ | refine DW.seq ?_ | refine DW.block ?_ | refine DW.skip ?_ | refine DW.exit ?_ | refine DW.condT rfl ?_ | refine DW.condF rfl ?_))
  unfold valueR
  by_cases hck : polysCk r [f] = 0
  case neg =>
    rw [if_pos (by simpa using hck), show (polysCk r [f] != 0) = true by simpa using hck]
    (repeat (first | refine RO.Sv ?_ | refine RO.Yv ?_ | refine RO.no rfl (by decide) rfl ?_ | refine RO.nil ?_ | refine DW.region ?_ | refine DW.seq ?_ | refine DW.block ?_ | refine DW.skip ?_ | refine DW.exit ?_ | refine DW.condT rfl ?_ | refine DW.condF rfl ?_))
    exact DW.ret ⟨.inl rfl, _, rfl, Over.refl _, .same _⟩
  obtain ⟨hr, hal⟩ := polysCk_ok hck
  have hfo := hal f (by simp)
  have hr2 := ringCk_ok hr
  have hp := ckP_ok hr2.1
  have e1 := hfo.len
  rw [if_neg (by simpa using hck), show (polysCk r [f] != 0) = false by simpa using hck]
  (repeat (first | refine RO.Sv ?_ | refine RO.Yv ?_ | refine RO.no rfl (by decide) rfl ?_ | refine RO.nil ?_ | refine DW.region ?_ | refine DW.seq ?_ | refine DW.block ?_ | refine DW.skip ?_ | refine DW.exit ?_ | refine DW.condT rfl ?_ | refine DW.condF rfl ?_))
  unfold atCk
  by_cases hlen : (at'.length : Int) = r.n
  case neg =>
    rw [if_neg hlen, if_pos (by decide), show ((at'.length : Int) != r.n) = true by simpa using hlen]
    (repeat (first | refine RO.Sv ?_ | refine RO.Yv ?_ | refine RO.no rfl (by decide) rfl ?_ | refine RO.nil ?_ | refine DW.region ?_ | refine DW.seq ?_ | refine DW.block ?_ | refine DW.skip ?_ | refine DW.exit ?_ | refine DW.condT rfl ?_ | refine DW.condF rfl ?_))
    exact DW.ret ⟨.inl rfl, _, rfl, Over.refl _, .same _⟩
  rw [if_pos hlen, show ((at'.length : Int) != r.n) = false by simpa using hlen]
  (repeat (first | refine RO.Sv ?_ | refine RO.Yv ?_ | refine RO.no rfl (by decide) rfl ?_ | refine RO.nil ?_ | refine DW.region ?_ | refine DW.seq ?_ | refine DW.block ?_ | refine DW.skip ?_ | refine DW.exit ?_ | refine DW.condT rfl ?_ | refine DW.condF rfl ?_))
  refine RO.sta (sta_call rfl rfl (In_pure r.p at' (by omega) (by omega) (by omega) _)) rfl ?_
  (repeat (first | refine RO.Sv ?_ | refine RO.Yv ?_ | refine RO.no rfl (by decide) rfl ?_ | refine RO.nil ?_ | refine DW.region ?_ | refine DW.seq ?_ | refine DW.block ?_ | refine DW.skip ?_ | refine DW.exit ?_ | refine DW.condT rfl ?_ | refine DW.condF rfl ?_))
  by_cases hin : at'.all (inP r.p) = true
  case neg =>
    have hin' : at'.all (inP r.p) = false := by simpa using hin
    rw [if_neg hin, if_pos (by decide), hin']
    (repeat (first | refine RO.Sv ?_ | refine RO.Yv ?_ | refine RO.no rfl (by decide) rfl ?_ | refine RO.nil ?_ | refine DW.region ?_ | refine DW.seq ?_ | refine DW.block ?_ | refine DW.skip ?_ | refine DW.exit ?_ | refine DW.condT rfl ?_ | refine DW.condF rfl ?_))
    exact DW.ret ⟨.inl rfl, _, rfl, Over.refl _, .same _⟩
  rw [if_pos hin, if_neg (by decide), hin]
  (repeat (first | refine RO.Sv ?_ | refine RO.Yv ?_ | refine RO.no rfl (by decide) rfl ?_ | refine RO.nil ?_ | refine DW.region ?_ | refine DW.seq ?_ | refine DW.block ?_ | refine DW.skip ?_ | refine DW.exit ?_ | refine DW.condT rfl ?_ | refine DW.condF rfl ?_))
  have hpt : ∀ x ∈ at', 0 ≤ x ∧ x ≤ 100 := fun x hx => by
    have := List.all_eq_true.1 hin x hx
    simp [inP] at this
    omega
  refine DW.loopG (fun k : Nat => k ≤ f.length) (fun k => [(2, intsD at'), (3, .ipt 4 [rgD r] 0 0), (9, I (Lf (evP at') (f.take k) % r.p)), (32, plD f), (33, I f.length), (34, I k)]) (fun _ => H) (fun k => f.length - k) 0 (Nat.zero_le _) (Heap.sub_refl _) (by simp [Lf]; exact (by repeat first | exact trivial | refine HasG.one rfl ?_ | refine HasN.one rfl ?_)) fun k hk => ?_
  have ho := mod_range (x := Lf (evP at') (f.take k)) hp
  (repeat (first | refine RO.Sv ?_ | refine RO.Yv ?_ | refine RO.no rfl (by decide) rfl ?_ | refine RO.nil ?_ | refine DW.region ?_ | refine DW.seq ?_ | refine DW.block ?_ | refine DW.skip ?_ | refine DW.exit ?_ | refine DW.condT rfl ?_ | refine DW.condF rfl ?_))
  refine DW.cond rfl (fun hb => ?_) (fun hb => ?_)
  · have hlt : k < f.length := by have := of_decide_eq_true hb; omega
    clear hb
    have htb := hfo.ok.all _ (List.getElem_mem hlt)
    have hel : f[k].e.length = at'.length := by have := htb.len; omega
    have hc0 := htb.lo
    have hc1 := htb.hi
    (repeat (first | refine RO.Sv ?_ | refine RO.Yv ?_ | refine RO.no rfl (by decide) rfl ?_ | refine RO.nil ?_ | refine DW.region ?_ | refine DW.seq ?_ | refine DW.block ?_ | refine DW.skip ?_ | refine DW.exit ?_ | refine DW.condT rfl ?_ | refine DW.condF rfl ?_))
    (refine RO.dyn rfl (d_alloc fun bv hbv => ?_); (repeat (first | refine RO.Sv ?_ | refine RO.Yv ?_ | refine RO.no rfl (by decide) rfl ?_)); refine RO.dyn rfl (d_storeTm rfl rfl (Heap.set_self _ _ _) rfl ?_); rw [Heap.set_set])
    (repeat (first | refine RO.Sv ?_ | refine RO.Yv ?_ | refine RO.no rfl (by decide) rfl ?_ | refine RO.nil ?_ | refine DW.region ?_ | refine DW.seq ?_ | refine DW.block ?_ | refine DW.skip ?_ | refine DW.exit ?_ | refine DW.condT rfl ?_ | refine DW.condF rfl ?_))
    refine DW.loopI (fun i : Nat => i ≤ f[k].e.length) (fun i => [(2, intsD at'), (3, .ipt 4 [rgD r] 0 0), (9, I (Lf (evP at') (f.take k) % r.p)), (12, I (f[k].c * evP (at'.take i) (f[k].e.take i) % r.p)), (32, plD f), (33, I f.length), (34, I k), (41, intsD f[k].e), (42, I f[k].e.length), (43, I i)])
      (fun _ => H.set bv (54, [I f[k].c, intsD f[k].e])) (fun i => f[k].e.length - i) 0 (Nat.zero_le _) rfl ⟨rfl, rfl, rfl, by
        rw [List.take_zero, List.take_zero]
        show _ = some (I (f[k].c * 1 % r.p))
        rw [Int.mul_one (f[k].c), Int.emod_eq_of_lt (a := f[k].c) (b := r.p) (by omega) (by omega)]
        rfl, rfl, rfl, rfl, rfl, rfl, rfl, trivial⟩ fun i hi => ?_
    have hm := mod_range (x := f[k].c * evP (at'.take i) (f[k].e.take i)) hp
    (repeat (first | refine RO.Sv ?_ | refine RO.Yv ?_ | refine RO.no rfl (by decide) rfl ?_ | refine RO.nil ?_ | refine DW.region ?_ | refine DW.seq ?_ | refine DW.block ?_ | refine DW.skip ?_ | refine DW.exit ?_ | refine DW.condT rfl ?_ | refine DW.condF rfl ?_))
    refine DW.cond rfl (fun hb => ?_) (fun hb => ?_)
    · have hlti : i < f[k].e.length := by have := of_decide_eq_true hb; omega
      have hlta : i < at'.length := by omega
      clear hb
      have hx := htb.mem _ (List.getElem_mem hlti)
      have hxa := hpt _ (List.getElem_mem hlta)
      have hpw := mod_range (x := at'[i] ^ f[k].e[i].toNat) hp
      have hmul := mul_range hm hpw
      have hst := pow_step (p := r.p) (c := f[k].c) hlta hlti
      have hcall := power_pure r.p at'[i] f[k].e[i].toNat hp hxa (by omega)
      rw [Int.toNat_of_nonneg hx.1] at hcall
      (repeat (first | refine RO.Sv ?_ | refine RO.Yv ?_ | refine RO.no rfl (by decide) rfl ?_ | refine RO.nil ?_ | refine DW.region ?_ | refine DW.seq ?_ | refine DW.block ?_ | refine DW.skip ?_ | refine DW.exit ?_ | refine DW.condT rfl ?_ | refine DW.condF rfl ?_))
      refine DW.drawS 13 Tryd.mixed (by kernel_rfl) (by decide) ?_
      dsimp only [List.take, List.drop]
      (repeat (first | refine RS.Sv ?_ | refine RS.Yv ?_ | refine RS.no rfl (by decide) rfl ?_ | refine RS.nil ?_))
      refine RS.sta (fun H' hov => sta_call rfl rfl (hcall _)) rfl ?_
      (repeat (first | refine RS.Sv ?_ | refine RS.Yv ?_ | refine RS.no rfl (by decide) rfl ?_ | refine RS.nil ?_))
      (repeat (first | refine RO.Sv ?_ | refine RO.Yv ?_ | refine RO.no rfl (by decide) rfl ?_ | refine RO.nil ?_ | refine DW.region ?_ | refine DW.seq ?_ | refine DW.block ?_ | refine DW.skip ?_ | refine DW.exit ?_ | refine DW.condT rfl ?_ | refine DW.condF rfl ?_))
      rw [hst]
      exact ⟨i + 1, hlti, by dsimp only; omega, rfl, rfl, rfl, rfl, rfl, rfl, rfl, rfl, rfl, rfl, rfl, trivial⟩
    · have hge : i = f[k].e.length := by have := of_decide_eq_false hb; omega
      have hge2 : i = at'.length := by omega
      have e1 : f[k].e.take i = f[k].e := by rw [hge, List.take_length]
      have e2 : at'.take i = at' := by rw [hge2, List.take_length]
      rw [e1, e2]
      rw [e1, e2] at hm
      clear hb
      have hvs := val_step (p := r.p) (φ := evP at') hlt
      (repeat (first | refine RO.Sv ?_ | refine RO.Yv ?_ | refine RO.no rfl (by decide) rfl ?_ | refine RO.nil ?_ | refine DW.region ?_ | refine DW.seq ?_ | refine DW.block ?_ | refine DW.skip ?_ | refine DW.exit ?_ | refine DW.condT rfl ?_ | refine DW.condF rfl ?_))
      rw [hvs]
      exact ⟨k + 1, hlt, by dsimp only; omega, Heap.sub_set _ hbv, (by repeat first | exact trivial | refine HasG.one rfl ?_ | refine HasN.one rfl ?_)⟩
  · have hge : k = f.length := by have := of_decide_eq_false hb; omega
    subst hge
    (repeat (first | refine RO.Sv ?_ | refine RO.Yv ?_ | refine RO.no rfl (by decide) rfl ?_ | refine RO.nil ?_ | refine DW.region ?_ | refine DW.seq ?_ | refine DW.block ?_ | refine DW.skip ?_ | refine DW.exit ?_ | refine DW.condT rfl ?_ | refine DW.condF rfl ?_))
    rw [List.take_length]
    exact DW.ret ⟨.inl rfl, _, rfl, Over.refl _, .same _⟩

theorem ValueOf_pure (r : Rg) (f : Pl) (at' : List Int) (hr : ringCk r = 0) (hfo : POk r f) (hlen : (at'.length : Int) = r.n) (hpt : ∀ x ∈ at', 0 ≤ x ∧ x ≤ 100) : Pure Tryd.prog 20 [rgD r, plD f, intsD at'] (I (valT r.p at' f)) := by
  have hr2 := ringCk_ok hr
  have hp := ckP_ok hr2.1
  have e1 := hfo.len
  intro H
  refine PureH.of_body Tryd.func20 rfl (by decide) (Nat.le_of_ble_eq_true rfl) fun w0 => ?_
  (repeat (first | refine RO.Sv ?_ | refine RO.Yv ?_ | refine RO.no rfl (by decide) rfl ?_ | refine RO.nil ?_ | refine DW.region ?_ | refine DW.seq ?_ | refine DW.block ?_ | refine DW.skip ?_ | refine DW.exit ?_ | refine DW.condT rfl ?_ | refine DW.condF rfl ?_))
  refine DW.loopI (fun k : Nat => k ≤ f.length) (fun k => [(1, plD f), (2, intsD at'), (3, .ipt 4 [rgD r] 0 0), (7, I (Lf (evP at') (f.take k) % r.p)), (8, I k)]) (fun _ => H) (fun k => f.length - k) 0 (Nat.zero_le _) rfl (by simp [Lf]; exact ⟨rfl, rfl, rfl, rfl, rfl, trivial⟩) fun k hk => ?_
  have ho := mod_range (x := Lf (evP at') (f.take k)) hp
  (repeat (first | refine RO.Sv ?_ | refine RO.Yv ?_ | refine RO.no rfl (by decide) rfl ?_ | refine RO.nil ?_ | refine DW.region ?_ | refine DW.seq ?_ | refine DW.block ?_ | refine DW.skip ?_ | refine DW.exit ?_ | refine DW.condT rfl ?_ | refine DW.condF rfl ?_))
  refine DW.cond rfl (fun hb => ?_) (fun hb => ?_)
  · have hlt : k < f.length := by have := of_decide_eq_true hb; omega
    clear hb
    have htb := hfo.ok.all _ (List.getElem_mem hlt)
    have hel : f[k].e.length = at'.length := by have := htb.len; omega
    have hc0 := htb.lo
    have hc1 := htb.hi
    have hvs := val_step (p := r.p) (φ := evP at') hlt
    (repeat (first | refine RO.Sv ?_ | refine RO.Yv ?_ | refine RO.no rfl (by decide) rfl ?_ | refine RO.nil ?_ | refine DW.region ?_ | refine DW.seq ?_ | refine DW.block ?_ | refine DW.skip ?_ | refine DW.exit ?_ | refine DW.condT rfl ?_ | refine DW.condF rfl ?_))
    refine DW.loopI (fun i : Nat => i ≤ f[k].e.length) (fun i => [(1, plD f), (2, intsD at'), (3, .ipt 4 [rgD r] 0 0), (7, I (Lf (evP at') (f.take k) % r.p)), (8, I k), (9, I (f[k].c * evP (at'.take i) (f[k].e.take i) % r.p)), (10, I i)])
      (fun _ => H) (fun i => f[k].e.length - i) 0 (Nat.zero_le _) rfl ⟨rfl, rfl, rfl, rfl, rfl, by
        rw [List.take_zero, List.take_zero]
        show _ = some (I (f[k].c * 1 % r.p))
        rw [Int.mul_one (f[k].c), Int.emod_eq_of_lt (a := f[k].c) (b := r.p) (by omega) (by omega)]
        rfl, rfl, trivial⟩ fun i hi => ?_
    (repeat (first | refine RO.Sv ?_ | refine RO.Yv ?_ | refine RO.no rfl (by decide) rfl ?_ | refine RO.nil ?_ | refine DW.region ?_ | refine DW.seq ?_ | refine DW.block ?_ | refine DW.skip ?_ | refine DW.exit ?_ | refine DW.condT rfl ?_ | refine DW.condF rfl ?_))
    refine DW.cond rfl (fun hb => ?_) (fun hb => ?_)
    · have hlti : i < f[k].e.length := by have := of_decide_eq_true hb; omega
      have hlta : i < at'.length := by omega
      clear hb
      have hx := htb.mem _ (List.getElem_mem hlti)
      have hxa := hpt _ (List.getElem_mem hlta)
      (repeat (first | refine RO.Sv ?_ | refine RO.Yv ?_ | refine RO.no rfl (by decide) rfl ?_ | refine RO.nil ?_ | refine DW.region ?_ | refine DW.seq ?_ | refine DW.block ?_ | refine DW.skip ?_ | refine DW.exit ?_ | refine DW.condT rfl ?_ | refine DW.condF rfl ?_))
      refine DW.loopI (fun j : Nat => (j : Int) ≤ f[k].e[i]) (fun j => [(1, plD f), (2, intsD at'), (3, .ipt 4 [rgD r] 0 0), (7, I (Lf (evP at') (f.take k) % r.p)), (8, I k), (9, I (f[k].c * evP (at'.take i) (f[k].e.take i) * at'[i] ^ j % r.p)), (10, I i), (11, I j)])
        (fun _ => H) (fun j => f[k].e[i].toNat - j) 0 (by show ((0 : Nat) : Int) ≤ _; omega) rfl ⟨rfl, rfl, rfl, rfl, rfl, by
          rw [Int.pow_zero, Int.mul_one]
          rfl, rfl, rfl, trivial⟩ fun j hj => ?_
      have hm := mod_range (x := f[k].c * evP (at'.take i) (f[k].e.take i) * at'[i] ^ j) hp
      have hmul := mul_range hm hxa
      have hst := one_step (p := r.p) (c := f[k].c * evP (at'.take i) (f[k].e.take i)) (a := at'[i]) j
      (repeat (first | refine RO.Sv ?_ | refine RO.Yv ?_ | refine RO.no rfl (by decide) rfl ?_ | refine RO.nil ?_ | refine DW.region ?_ | refine DW.seq ?_ | refine DW.block ?_ | refine DW.skip ?_ | refine DW.exit ?_ | refine DW.condT rfl ?_ | refine DW.condF rfl ?_))
      refine DW.cond rfl (fun hb => ?_) (fun hb => ?_)
      · have hltj : (j : Int) < f[k].e[i] := of_decide_eq_true hb
        clear hb
        (repeat (first | refine RO.Sv ?_ | refine RO.Yv ?_ | refine RO.no rfl (by decide) rfl ?_ | refine RO.nil ?_ | refine DW.region ?_ | refine DW.seq ?_ | refine DW.block ?_ | refine DW.skip ?_ | refine DW.exit ?_ | refine DW.condT rfl ?_ | refine DW.condF rfl ?_))
        refine DW.drawS 9 Tryd.mixed (by kernel_rfl) (by decide) ?_
        dsimp only [List.take, List.drop]
        (repeat (first | refine RS.Sv ?_ | refine RS.Yv ?_ | refine RS.no rfl (by decide) rfl ?_ | refine RS.nil ?_))
        (repeat (first | refine RO.Sv ?_ | refine RO.Yv ?_ | refine RO.no rfl (by decide) rfl ?_ | refine RO.nil ?_ | refine DW.region ?_ | refine DW.seq ?_ | refine DW.block ?_ | refine DW.skip ?_ | refine DW.exit ?_ | refine DW.condT rfl ?_ | refine DW.condF rfl ?_))
        rw [hst]
        exact ⟨j + 1, by show ((j + 1 : Nat) : Int) ≤ _; omega, by dsimp only; omega, rfl, rfl, rfl, rfl, rfl, rfl, rfl, rfl, rfl, trivial⟩
      · have hge : j = f[k].e[i].toNat := by have := of_decide_eq_false hb; omega
        have hsn := evP_snoc hlta hlti
        rw [hge, Int.mul_assoc, ← hsn]
        clear hb
        (repeat (first | refine RO.Sv ?_ | refine RO.Yv ?_ | refine RO.no rfl (by decide) rfl ?_ | refine RO.nil ?_ | refine DW.region ?_ | refine DW.seq ?_ | refine DW.block ?_ | refine DW.skip ?_ | refine DW.exit ?_ | refine DW.condT rfl ?_ | refine DW.condF rfl ?_))
        exact ⟨i + 1, hlti, by dsimp only; omega, rfl, rfl, rfl, rfl, rfl, rfl, rfl, rfl, trivial⟩
    · have hge : i = f[k].e.length := by have := of_decide_eq_false hb; omega
      have hge2 : i = at'.length := by omega
      have e1 : f[k].e.take i = f[k].e := by rw [hge, List.take_length]
      have e2 : at'.take i = at' := by rw [hge2, List.take_length]
      rw [e1, e2]
      clear hb
      have hm := mod_range (x := f[k].c * evP at' f[k].e) hp
      (repeat (first | refine RO.Sv ?_ | refine RO.Yv ?_ | refine RO.no rfl (by decide) rfl ?_ | refine RO.nil ?_ | refine DW.region ?_ | refine DW.seq ?_ | refine DW.block ?_ | refine DW.skip ?_ | refine DW.exit ?_ | refine DW.condT rfl ?_ | refine DW.condF rfl ?_))
      rw [hvs]
      exact ⟨k + 1, hlt, by dsimp only; omega, rfl, rfl, rfl, rfl, rfl, rfl, trivial⟩
  · have hge : k = f.length := by have := of_decide_eq_false hb; omega
    subst hge
    (repeat (first | refine RO.Sv ?_ | refine RO.Yv ?_ | refine RO.no rfl (by decide) rfl ?_ | refine RO.nil ?_ | refine DW.region ?_ | refine DW.seq ?_ | refine DW.block ?_ | refine DW.skip ?_ | refine DW.exit ?_ | refine DW.condT rfl ?_ | refine DW.condF rfl ?_))
    rw [List.take_length]
    exact DW.ret ⟨.inl rfl, _, rfl, Over.refl _, .same _⟩

end Go.Proofs.YtblileclefbklaaDoor

namespace Go.Proofs.YtblileclefbklaaDoor
open Go.RowKit
set_option linter.unusedVariables false

/-- A sum's monomials come from one of the two. -/
theorem sumT_mem {p o : Int} : ∀ (f g : Pl), ∀ s ∈ sumT p o f g, (∃ t ∈ f, t.e = s.e) ∨ ∃ t ∈ g, t.e = s.e :=
  sumT_ind (p := p) (o := o) (M := fun f g => ∀ s ∈ sumT p o f g, (∃ t ∈ f, t.e = s.e) ∨ ∃ t ∈ g, t.e = s.e)
    (fun g s hs => .inr ⟨s, by rwa [sumT_nil] at hs, rfl⟩)
    (fun a f s hs => .inl ⟨s, by rwa [sumT_nil'] at hs, rfl⟩)
    fun a b f g h1 h2 h3 s hs => by
      have w1 : ((∃ t ∈ f, t.e = s.e) ∨ ∃ t ∈ b :: g, t.e = s.e) → (∃ t ∈ a :: f, t.e = s.e) ∨ ∃ t ∈ b :: g, t.e = s.e := fun h => h.imp (fun ⟨t, ht, he⟩ => ⟨t, by simp [ht], he⟩) id
      have w2 : ((∃ t ∈ a :: f, t.e = s.e) ∨ ∃ t ∈ g, t.e = s.e) → (∃ t ∈ a :: f, t.e = s.e) ∨ ∃ t ∈ b :: g, t.e = s.e := fun h => h.imp id fun ⟨t, ht, he⟩ => ⟨t, by simp [ht], he⟩
      have w3 : ((∃ t ∈ f, t.e = s.e) ∨ ∃ t ∈ g, t.e = s.e) → (∃ t ∈ a :: f, t.e = s.e) ∨ ∃ t ∈ b :: g, t.e = s.e := fun h => h.imp (fun ⟨t, ht, he⟩ => ⟨t, by simp [ht], he⟩) fun ⟨t, ht, he⟩ => ⟨t, by simp [ht], he⟩
      rw [sumT_cons] at hs
      split at hs
      · rcases List.mem_cons.1 hs with rfl | hs
        · exact .inl ⟨s, by simp, rfl⟩
        · exact w1 (h1 s hs)
      · split at hs
        · rcases List.mem_cons.1 hs with rfl | hs
          · exact .inr ⟨s, by simp, rfl⟩
          · exact w2 (h2 s hs)
        · split at hs
          · rcases List.mem_cons.1 hs with rfl | hs
            · exact .inl ⟨a, by simp, rfl⟩
            · exact w3 (h3 s hs)
          · exact w3 (h3 s hs)

theorem byT_mem {p : Int} {f : Pl} {t : Tm} : ∀ s ∈ byT p f t, ∃ u ∈ f, s.e = zipE (· + ·) u.e t.e := fun s hs => by
  unfold byT at hs
  split at hs
  · cases hs
  · obtain ⟨u, hu, rfl⟩ := List.mem_map.1 hs
    exact ⟨u, hu, rfl⟩

theorem prodT_mem {p o : Int} {g : Pl} : ∀ (f out : Pl), ∀ s ∈ f.foldl (fun out t => sumT p o out (byT p g t)) out, (∃ u ∈ out, u.e = s.e) ∨ ∃ t ∈ f, ∃ u ∈ g, s.e = zipE (· + ·) u.e t.e
  | [], out, s, hs => .inl ⟨s, hs, rfl⟩
  | t :: f, out, s, hs => by
    rw [List.foldl_cons] at hs
    rcases prodT_mem f _ s hs with ⟨u, hu, he⟩ | ⟨t', ht', u, hu, he⟩
    · rcases sumT_mem _ _ u hu with ⟨w, hw, hwe⟩ | ⟨w, hw, hwe⟩
      · exact .inl ⟨w, hw, hwe.trans he⟩
      · obtain ⟨x, hx, hxe⟩ := byT_mem w hw
        exact .inr ⟨t, by simp, x, hx, by rw [← he, ← hwe, hxe]⟩
    · exact .inr ⟨t', by simp [ht'], u, hu, he⟩

/-- Degrees of at most d. -/
def DB (d : Int) (f : Pl) : Prop := ∀ t ∈ f, t.e.sum ≤ d

theorem DB.mono {d d' : Int} {f : Pl} (h : DB d f) (hd : d ≤ d') : DB d' f := fun t ht => by have := h t ht; omega

theorem DB.sum {p o d : Int} {f g : Pl} (hf : DB d f) (hg : DB d g) : DB d (sumT p o f g) := fun s hs => by
  rcases sumT_mem f g s hs with ⟨t, ht, he⟩ | ⟨t, ht, he⟩
  · rw [← he]; exact hf t ht
  · rw [← he]; exact hg t ht

theorem DB.byT {p d : Int} {f : Pl} {t : Tm} (hf : DB d f) (hl : ∀ u ∈ f, u.e.length = t.e.length) : DB (d + t.e.sum) (byT p f t) := fun s hs => by
  obtain ⟨u, hu, he⟩ := byT_mem s hs
  rw [he, zipE_sum (hl u hu)]
  have := hf u hu
  omega

theorem DB.prod {p o a b : Int} {f g : Pl} (hf : DB a f) (hg : DB b g) (hl : ∀ t ∈ f, ∀ u ∈ g, u.e.length = t.e.length) : DB (a + b) (prodT p o f g) := fun s hs => by
  rcases prodT_mem f [] s hs with ⟨u, hu, _⟩ | ⟨t, ht, u, hu, he⟩
  · cases hu
  · rw [he, zipE_sum (hl t ht u hu)]
    have := hf t ht
    have := hg u hu
    omega

theorem topT_le {d : Int} {f : Pl} (h : DB d f) (hd : -1 ≤ d) : topT f ≤ d := by
  cases f with
  | nil => exact hd
  | cons t f => exact h t (by simp)

/-- Two that may not be multiplied. -/
def bad2T (r : Rg) (f g : Pl) : Bool := bigT f g || greatT (prodT r.p r.order f g)

theorem bad2_eq {r : Rg} {n : Nat} {B C : Int} {f g : Pl} (hf : PB 1 r.p r.order n C f) (hg : PB 1 r.p r.order n B g) : bad2T r f g = (bigT f g || decide (2000 < (prodT r.p r.order f g).length)) := by
  unfold bad2T
  cases hb : bigT f g
  · rw [Bool.false_or, Bool.false_or]
    unfold greatT
    have : topT (prodT r.p r.order f g) ≤ 200 := by
      cases f with
      | nil => exact (by decide : (-1 : Int) ≤ 200)
      | cons t f =>
        cases g with
        | nil =>
          have h1 := prodT_mem (p := r.p) (o := r.order) (g := []) (t :: f) []
          refine topT_le (fun s hs => ?_) (by omega)
          rcases h1 s hs with ⟨u, hu, _⟩ | ⟨t, ht, u, hu, he⟩
          · cases hu
          · cases hu
        | cons u g =>
          refine topT_le (d := 200) ?_ (by omega)
          have hsum : ¬ 200 < topT (t :: f) + topT (u :: g) := by simpa [bigT] using hb
          exact (DB.prod (topT_ge hf) (topT_ge hg) (fun x hx y hy => by rw [(hf.all x hx).len, (hg.all y hy).len])).mono (by omega)
    rw [decide_eq_false (show ¬ 200 < topT (prodT r.p r.order f g) by omega), Bool.false_or]
  · rfl

def badGo (r : Rg) : Vc → List Vc → Bool
  | f :: c, v :: l => v.any (bad2T r f) || badGo r c l
  | _, _ => false

theorem badGo_drop {r : Rg} {c : Vc} {l : List Vc} {k : Nat} (h : k < c.length) (h2 : k < l.length) : badGo r (c.drop k) (l.drop k) = (l[k].any (bad2T r c[k]) || badGo r (c.drop (k + 1)) (l.drop (k + 1))) := by
  rw [List.drop_eq_getElem_cons h, List.drop_eq_getElem_cons h2]; rfl

theorem badGo_end {r : Rg} {c : Vc} : badGo r c [] = false := by cases c <;> rfl

/-- Made of the first k of a list. -/
def madeT (r : Rg) (rank : Nat) (c : Vc) (l : List Vc) : Nat → Vc
  | 0 => List.replicate rank []
  | k + 1 => vsumT r (madeT r rank c l k) (vtimesT r (c.getD k []) (l.getD k []))

theorem madeT_succ {r : Rg} {rank : Nat} {c : Vc} {l : List Vc} {k : Nat} (h : k < c.length) (h2 : k < l.length) : madeT r rank c l (k + 1) = vsumT r (madeT r rank c l k) (vtimesT r c[k] l[k]) := by
  show vsumT r (madeT r rank c l k) (vtimesT r (c.getD k []) (l.getD k [])) = _
  rw [List.getD_eq_getElem?_getD, List.getElem?_eq_getElem h, List.getD_eq_getElem?_getD, List.getElem?_eq_getElem h2]; rfl

/-- What is wrong with what Combine is handed, but for what comes. -/
def combCk0 (r : Rg) (rank : Int) (c : Vc) (l : List Vc) : Int :=
  if vecsCk r rank l ≠ 0 then vecsCk r rank l else if (c.length : Int) ≠ l.length then 1 else if polysGo r c ≠ 0 then polysGo r c else if badGo r c l = true then 2 else 0

def combT (r : Rg) (rank : Int) (c : Vc) (l : List Vc) : Vc := madeT r rank.toNat c l l.length

def combCk (r : Rg) (rank : Int) (c : Vc) (l : List Vc) : Int := if combCk0 r rank c l ≠ 0 then combCk0 r rank c l else if vgreatT (combT r rank c l) = true then 2 else 0

/-- What is right with what Combine is handed, up to the products. -/
structure CombOk (r : Rg) (rank : Int) (c : Vc) (l : List Vc) : Prop where
  ring : ringCk r = 0
  rank1 : 1 ≤ rank
  rank2 : rank ≤ 40
  len : l.length ≤ 60
  vecs : ∀ v ∈ l, VOk r rank.toNat v
  clen : c.length = l.length
  polys : ∀ f ∈ c, POk r f

theorem combOk {r : Rg} {rank : Int} {c : Vc} {l : List Vc} (h1 : vecsCk r rank l = 0) (h2 : ¬ (c.length : Int) ≠ l.length) (h3 : polysGo r c = 0) : CombOk r rank c l := by
  obtain ⟨a, b, d, e, f⟩ := vecsCk_ok h1
  exact ⟨a, b, d, e, f, by omega, polysGo_ok a h3⟩

theorem combCk0_ok {r : Rg} {rank : Int} {c : Vc} {l : List Vc} (h : combCk0 r rank c l = 0) : CombOk r rank c l ∧ badGo r c l = false := by
  unfold combCk0 at h
  split at h
  · contradiction
  · rename_i h1
    split at h
    · cases h
    · rename_i h2
      split at h
      · contradiction
      · rename_i h3
        split at h
        · cases h
        · rename_i h4
          exact ⟨combOk (by simpa using h1) h2 (by simpa using h3), by simpa using h4⟩

theorem VB.times {r : Rg} (hr : ringCk r = 0) (hpr : Prm r.p) (hp : 1 < r.p) {f : Pl} (hf : POk r f) {k : Nat} {v : Vc} (hv : VOk r k v) : VB r r.n.toNat 400 4000000 (vtimesT r f v) := fun g hg => by
  obtain ⟨u, hu, rfl⟩ := List.mem_map.1 hg
  obtain ⟨a1, a2⟩ := hv.vb u hu
  have hfl := hf.len
  have hmul : f.length * u.length ≤ 2000 * 2000 := Nat.mul_le_mul hfl a2
  have h0 : ∀ t ∈ f, TB 0 r.p r.n.toNat 200 t := fun t ht => (hf.ok.all t ht).mono (by omega) (by omega)
  exact ⟨prodT_ok hp hpr a1 (by omega) h0, Nat.le_trans (prodT_length hp hpr a1 (by omega) h0) hmul⟩

theorem vtimesT_len (r : Rg) (f : Pl) (v : Vc) : (vtimesT r f v).length = v.length := by simp [vtimesT]

theorem vsumT_len' {r : Rg} {v w : Vc} (h : v.length = w.length) : (vsumT r v w).length = v.length := by unfold vsumT; rw [List.length_zipWith]; omega

theorem VB.sum' {r : Rg} {n : Nat} {B : Int} {L M : Nat} {v w : Vc} (hp : 0 < r.p) (hv : VB r n B L v) (hw : VB r n B M w) : VB r n B (L + M) (vsumT r v w) := fun f hf => by
  unfold vsumT at hf
  obtain ⟨i, hi, rfl⟩ := List.getElem_of_mem hf
  rw [List.length_zipWith] at hi
  have h1 := hv _ (List.getElem_mem (show i < v.length by omega))
  have h2 := hw _ (List.getElem_mem (show i < w.length by omega))
  rw [List.getElem_zipWith]
  exact ⟨sumT_ok hp _ _ h1.1 h2.1, by have := sumT_length (p := r.p) (o := r.order) (v[i]'(by omega)) (w[i]'(by omega)); omega⟩

theorem VB.nils {r : Rg} {n : Nat} {B : Int} {L k : Nat} : VB r n B L (List.replicate k []) := fun f hf => by
  rw [List.eq_of_mem_replicate hf]; exact ⟨PB.nil _ _ _ _ _, Nat.zero_le _⟩

theorem madeT_vb {r : Rg} {rank : Int} {c : Vc} {l : List Vc} (h : CombOk r rank c l) (hpr : Prm r.p) (hp : 1 < r.p) : ∀ k, k ≤ l.length → VB r r.n.toNat 400 (4000000 * k) (madeT r rank.toNat c l k) ∧ (madeT r rank.toNat c l k).length = rank.toNat
  | 0, _ => ⟨VB.nils, by simp [madeT]⟩
  | k + 1, hk => by
    obtain ⟨h1, h2⟩ := madeT_vb h hpr hp k (by omega)
    have hc := h.clen
    have hv := h.vecs _ (List.getElem_mem (show k < l.length by omega))
    have hf := h.polys _ (List.getElem_mem (show k < c.length by omega))
    rw [madeT_succ (show k < c.length by omega) (show k < l.length by omega)]
    have hl := hv.len
    refine ⟨?_, by rw [vsumT_len' (by rw [vtimesT_len]; omega)]; exact h2⟩
    rw [show 4000000 * (k + 1) = 4000000 * k + 4000000 by omega]
    exact VB.sum' (by omega) h1 (VB.times h.ring hpr hp hf hv)

end Go.Proofs.YtblileclefbklaaDoor

namespace Go.Proofs.YtblileclefbklaaDoor
set_option linter.unusedVariables false
set_option linter.unusedSimpArgs false

/-- What is wrong with terms, the first first. -/
def termsGo (r : Rg) : Pl → Int
  | [] => 0
  | t :: l => if inP r.p t.c = true then (if monoCk r t.e ≠ 0 then monoCk r t.e else termsGo r l) else 3

def termsCk (r : Rg) (l : Pl) : Int := if ringCk r = 0 then (if 2000 < l.length then 2 else termsGo r l) else ringCk r

def ofGo (p o : Int) (l out : Pl) : Pl := l.foldl (fun out t => if 0 < t.c then sumT p o out [t] else out) out

/-- What Of answers. -/
def ofT (r : Rg) (l : Pl) : Pl × Int := if termsCk r l = 0 then (ofGo r.p r.order l [], 0) else ([], termsCk r l)

theorem termsGo_mem {r : Rg} : ∀ {l : Pl}, termsGo r l = 0 → ∀ t ∈ l, inP r.p t.c = true ∧ monoCk r t.e = 0
  | t :: l, h, u, hu => by
    unfold termsGo at h
    split at h
    · rename_i h1
      split at h
      · rename_i h2; exact absurd h h2
      · rename_i h2
        rcases List.mem_cons.1 hu with rfl | hu
        · exact ⟨h1, by simpa using h2⟩
        · exact termsGo_mem h u hu
    · cases h

theorem termsGo_drop {r : Rg} {l : Pl} {k : Nat} (h : k < l.length) : termsGo r (l.drop k) = if inP r.p l[k].c = true then (if monoCk r l[k].e ≠ 0 then monoCk r l[k].e else termsGo r (l.drop (k + 1))) else 3 := by
  rw [List.drop_eq_getElem_cons h]
  rfl

structure TermsOk (r : Rg) (l : Pl) : Prop where
  ring : ringCk r = 0
  len : l.length ≤ 2000
  all : ∀ t ∈ l, TB 0 r.p r.n.toNat 200 t
  deg : ∀ t ∈ l, t.e.sum ≤ 200

theorem termsTB {r : Rg} (hr : ringCk r = 0) {t : Tm} (h1 : inP r.p t.c = true) (h2 : monoCk r t.e = 0) : TB 0 r.p r.n.toNat 200 t ∧ t.e.sum ≤ 200 := by
  have hr2 := ringCk_ok hr
  obtain ⟨_, m2, m3, m4⟩ := MOk.of (by omega) h2
  simp [inP] at h1
  refine ⟨⟨by omega, by omega, by omega, fun x hx => ?_⟩, m4⟩
  exact inE_iff.1 (List.all_eq_true.1 m3 x hx)

theorem termsCk_ok {r : Rg} {l : Pl} (h : termsCk r l = 0) : TermsOk r l := by
  unfold termsCk at h
  split at h
  · rename_i hr
    split at h
    · cases h
    · rename_i hl
      have hm := termsGo_mem h
      exact ⟨hr, by omega, fun t ht => (termsTB hr (hm t ht).1 (hm t ht).2).1, fun t ht => (termsTB hr (hm t ht).1 (hm t ht).2).2⟩
  · rename_i hr; exact absurd h hr

theorem PB.one' {p o : Int} {n : Nat} {B : Int} {t : Tm} (h : TB 1 p n B t) : PB 1 p o n B [t] := ⟨fun u hu => by rw [List.mem_singleton.1 hu]; exact h, by simp⟩

theorem ofGo_ok {p o : Int} {n : Nat} {B : Int} (hp : 0 < p) : ∀ {l out : Pl}, (∀ t ∈ l, TB 0 p n B t) → PB 1 p o n B out → PB 1 p o n B (ofGo p o l out)
  | [], out, _, h => h
  | t :: l, out, hl, h => by
    refine ofGo_ok (l := l) hp (fun u hu => hl u (by simp [hu])) ?_
    have ht := hl t (by simp)
    dsimp only
    split
    · rename_i hc
      exact sumT_ok hp out [t] h (PB.one' ⟨by omega, ht.hi, ht.len, ht.mem⟩)
    · exact h

theorem ofGo_L {p o : Int} {n : Nat} {B : Int} (hp : 0 < p) (φ : List Int → Int) : ∀ {l out : Pl}, (∀ t ∈ l, TB 0 p n B t) → PB 1 p o n B out → p ∣ Lf φ (ofGo p o l out) - (Lf φ out + Lf φ l)
  | [], out, _, h => by rw [Lf_nil]; simp [ofGo]
  | t :: l, out, hl, h => by
    have ht := hl t (by simp)
    have hl' : ∀ u ∈ l, TB 0 p n B u := fun u hu => hl u (by simp [hu])
    show p ∣ Lf φ (ofGo p o l (if 0 < t.c then sumT p o out [t] else out)) - _
    by_cases hc : 0 < t.c
    · rw [if_pos hc]
      have h1 := PB.one' (o := o) (t := t) ⟨show 1 ≤ t.c by omega, ht.hi, ht.len, ht.mem⟩
      have h2 := ofGo_L hp φ (l := l) hl' (sumT_ok hp out [t] h h1)
      have h3 := sumT_L hp φ out [t] h h1
      have h4 := Int.dvd_add h2 h3
      rw [Lf_cons φ t l]
      rw [Lf_cons φ t [], Lf_nil] at h4
      rwa [show ∀ a b c d e : Int, a - (b + c) + (b - (d + (e + 0))) = a - (d + (e + c)) by intros; omega] at h4
    · rw [if_neg hc]
      have h0 : t.c = 0 := by have := ht.lo; omega
      have h2 := ofGo_L hp φ (l := l) hl' h
      rw [Lf_cons, h0, Int.zero_mul, Int.zero_add]
      exact h2

theorem ofGo_length {p o : Int} : ∀ (l out : Pl), (ofGo p o l out).length ≤ out.length + l.length
  | [], out => by simp [ofGo]
  | t :: l, out => by
    show (ofGo p o l (if 0 < t.c then sumT p o out [t] else out)).length ≤ _
    have h1 := ofGo_length (p := p) (o := o) l (if 0 < t.c then sumT p o out [t] else out)
    have h2 := sumT_length (p := p) (o := o) out [t]
    simp only [List.length_cons, List.length_nil] at *
    split at h1
    · rename_i hc; rw [if_pos hc]; omega
    · rename_i hc; rw [if_neg hc]; omega

theorem ofGo_deg {p o d : Int} : ∀ {l out : Pl}, DB d l → DB d out → DB d (ofGo p o l out)
  | [], out, _, h => h
  | t :: l, out, hl, h => by
    refine ofGo_deg (l := l) (fun u hu => hl u (by simp [hu])) ?_
    dsimp only
    split
    · exact h.sum (fun u hu => by rw [List.mem_singleton.1 hu]; exact hl t (by simp))
    · exact h

/-- The document's polynomial of terms is the program's. -/
theorem collect_of {p o : Int} {n : Nat} {B : Int} (hp : 0 < p) {l : Pl} (hl : ∀ t ∈ l, TB 0 p n B t) : collectT p o l = ofGo p o l [] := by
  refine PB.uniq hp (collectT_ok (n := n) (B := B) hp hl) (ofGo_ok hp hl (PB.nil _ _ _ _ _)) ((collectT_L _).trans fun φ => ?_)
  have := Int.dvd_neg.2 (ofGo_L (o := o) hp φ hl (PB.nil _ _ _ _ _))
  rw [Int.neg_sub, Lf_nil, Int.zero_add] at this
  exact this

theorem of_small {r : Rg} {l : Pl} (h : TermsOk r l) : greatT (ofGo r.p r.order l []) = false := by
  have h1 := ofGo_length (p := r.p) (o := r.order) l []
  have h2 := topT_le (ofGo_deg (p := r.p) (o := r.order) (l := l) (out := []) (d := 200) h.deg (fun t ht => by cases ht)) (by omega)
  have h3 := h.len
  simp only [List.length_nil] at h1
  unfold greatT
  simp
  omega

theorem ofGo_take {p o : Int} {l : Pl} {k : Nat} (h : k < l.length) : ofGo p o (l.take (k + 1)) [] = if 0 < l[k].c then sumT p o (ofGo p o (l.take k) []) [l[k]] else ofGo p o (l.take k) [] := by
  unfold ofGo
  rw [List.take_succ_eq_append_getElem h, List.foldl_append]
  rfl

end Go.Proofs.YtblileclefbklaaDoor

namespace Go.Proofs.YtblileclefbklaaDoor
open Go.RowKit
set_option linter.unusedVariables false
set_option linter.unusedSimpArgs false
set_option maxHeartbeats 8000000

theorem Of_pure (r : Rg) (l : Pl) (hl : l.length ≤ 4611686018427387904) : Pure Tryd.prog 14 [rgD r, plD l] (plE (ofT r l)) := by
  intro H
  refine PureH.of_body Tryd.func14 rfl (by decide) (Nat.le_of_ble_eq_true rfl) fun w0 => ?_
  (repeat (first | refine RO.Sv ?_ | refine RO.Yv ?_ | refine RO.no rfl (by decide) rfl ?_ | refine RO.nil ?_ | refine DW.region ?_ | refine DW.seq ?_ | refine DW.block ?_ | refine DW.skip ?_ | refine DW.exit ?_ | refine DW.condT rfl ?_ | refine DW.condF rfl ?_))
  refine RO.sta (sta_call rfl rfl (Ring_pure r _)) rfl ?_
  (repeat (first | refine RO.Sv ?_ | refine RO.Yv ?_ | refine RO.no rfl (by decide) rfl ?_ | refine RO.nil ?_ | refine DW.region ?_ | refine DW.seq ?_ | refine DW.block ?_ | refine DW.skip ?_ | refine DW.exit ?_ | refine DW.condT rfl ?_ | refine DW.condF rfl ?_))
  unfold ofT termsCk
  by_cases hr : ringCk r = 0
  case neg =>
    rw [if_neg hr, if_neg hr, show (ringCk r != 0) = true by simpa using hr]
    (repeat (first | refine RO.Sv ?_ | refine RO.Yv ?_ | refine RO.no rfl (by decide) rfl ?_ | refine RO.nil ?_ | refine DW.region ?_ | refine DW.seq ?_ | refine DW.block ?_ | refine DW.skip ?_ | refine DW.exit ?_ | refine DW.condT rfl ?_ | refine DW.condF rfl ?_))
    exact DW.ret ⟨.inl rfl, _, rfl, Over.refl _, .tup2 (.nil _) (.same _)⟩
  have hr2 := ringCk_ok hr
  have hp := ckP_ok hr2.1
  rw [if_pos hr, show (ringCk r != 0) = false by simpa using hr]
  (repeat (first | refine RO.Sv ?_ | refine RO.Yv ?_ | refine RO.no rfl (by decide) rfl ?_ | refine RO.nil ?_ | refine DW.region ?_ | refine DW.seq ?_ | refine DW.block ?_ | refine DW.skip ?_ | refine DW.exit ?_ | refine DW.condT rfl ?_ | refine DW.condF rfl ?_))
  cases hm : decide ((2000 : Int) < (l.length : Int))
  case true =>
    have hm2 : 2000 < l.length := by have := of_decide_eq_true hm; omega
    rw [if_pos hm2, if_neg (by decide)]
    (repeat (first | refine RO.Sv ?_ | refine RO.Yv ?_ | refine RO.no rfl (by decide) rfl ?_ | refine RO.nil ?_ | refine DW.region ?_ | refine DW.seq ?_ | refine DW.block ?_ | refine DW.skip ?_ | refine DW.exit ?_ | refine DW.condT rfl ?_ | refine DW.condF rfl ?_))
    exact DW.ret ⟨.inl rfl, _, rfl, Over.refl _, .tup2 (.nil _) (.same _)⟩
  have hm2 : ¬ 2000 < l.length := by have := of_decide_eq_false hm; omega
  rw [if_neg hm2]
  (repeat (first | refine RO.Sv ?_ | refine RO.Yv ?_ | refine RO.no rfl (by decide) rfl ?_ | refine RO.nil ?_ | refine DW.region ?_ | refine DW.seq ?_ | refine DW.block ?_ | refine DW.skip ?_ | refine DW.exit ?_ | refine DW.condT rfl ?_ | refine DW.condF rfl ?_))
  have h3 : r.n.toNat ≤ 3 := by omega
  refine DW.loopG (fun k : Nat => k ≤ l.length ∧ termsGo r (l.drop k) = termsGo r l ∧ ∀ t ∈ l.take k, TB 0 r.p r.n.toNat 200 t) (fun k => [(2, .ipt 4 [rgD r] 0 0), (7, plD (ofGo r.p r.order (l.take k) [])), (19, plD l), (20, I l.length), (21, I k)]) (fun _ => H) (fun k => l.length - k) 0
    ⟨Nat.zero_le _, rfl, fun t ht => by cases ht⟩ (Heap.sub_refl _) (by repeat first | exact trivial | refine HasG.one rfl ?_ | refine HasN.one rfl ?_ | refine HasG.nil1 rfl ?_) fun k ⟨hk, hgo, htk⟩ => ?_
  have hout := ofGo_ok (o := r.order) (by omega) htk (PB.nil 1 r.p r.order r.n.toNat 200)
  have houl := ofGo_length (p := r.p) (o := r.order) (l.take k) []
  rw [List.length_take] at houl
  simp only [List.length_nil] at houl
  (repeat (first | refine RO.Sv ?_ | refine RO.Yv ?_ | refine RO.no rfl (by decide) rfl ?_ | refine RO.nil ?_ | refine DW.region ?_ | refine DW.seq ?_ | refine DW.block ?_ | refine DW.skip ?_ | refine DW.exit ?_ | refine DW.condT rfl ?_ | refine DW.condF rfl ?_))
  refine DW.cond rfl (fun hb => ?_) (fun hb => ?_)
  · have hlt : k < l.length := by have := of_decide_eq_true hb; omega
    clear hb
    rw [termsGo_drop hlt] at hgo
    (repeat (first | refine RO.Sv ?_ | refine RO.Yv ?_ | refine RO.no rfl (by decide) rfl ?_ | refine RO.nil ?_ | refine DW.region ?_ | refine DW.seq ?_ | refine DW.block ?_ | refine DW.skip ?_ | refine DW.exit ?_ | refine DW.condT rfl ?_ | refine DW.condF rfl ?_))
    (refine RO.dyn rfl (d_alloc fun bv hbv => ?_); (repeat (first | refine RO.Sv ?_ | refine RO.Yv ?_ | refine RO.no rfl (by decide) rfl ?_)); refine RO.dyn rfl (d_storeTm rfl rfl (Heap.set_self _ _ _) rfl ?_); rw [Heap.set_set])
    (repeat (first | refine RO.Sv ?_ | refine RO.Yv ?_ | refine RO.no rfl (by decide) rfl ?_ | refine RO.nil ?_ | refine DW.region ?_ | refine DW.seq ?_ | refine DW.block ?_ | refine DW.skip ?_ | refine DW.exit ?_ | refine DW.condT rfl ?_ | refine DW.condF rfl ?_))
    refine RO.sta (sta_call rfl rfl (In_pure r.p [l[k].c] (by omega) (by omega) (by simp) _)) rfl ?_
    (repeat (first | refine RO.Sv ?_ | refine RO.Yv ?_ | refine RO.no rfl (by decide) rfl ?_ | refine RO.nil ?_ | refine DW.region ?_ | refine DW.seq ?_ | refine DW.block ?_ | refine DW.skip ?_ | refine DW.exit ?_ | refine DW.condT rfl ?_ | refine DW.condF rfl ?_))
    rw [show [l[k].c].all (inP r.p) = inP r.p l[k].c by simp]
    cases hin : inP r.p l[k].c
    case false =>
      rw [hin, if_neg (by decide)] at hgo
      rw [← hgo, if_neg (by decide)]
      (repeat (first | refine RO.Sv ?_ | refine RO.Yv ?_ | refine RO.no rfl (by decide) rfl ?_ | refine RO.nil ?_ | refine DW.region ?_ | refine DW.seq ?_ | refine DW.block ?_ | refine DW.skip ?_ | refine DW.exit ?_ | refine DW.condT rfl ?_ | refine DW.condF rfl ?_))
      exact DW.ret ⟨.inl rfl, _, rfl, (Over.refl _).set hbv, .tup2 (.nil _) (.same _)⟩
    rw [hin, if_pos rfl] at hgo
    (repeat (first | refine RO.Sv ?_ | refine RO.Yv ?_ | refine RO.no rfl (by decide) rfl ?_ | refine RO.nil ?_ | refine DW.region ?_ | refine DW.seq ?_ | refine DW.block ?_ | refine DW.skip ?_ | refine DW.exit ?_ | refine DW.condT rfl ?_ | refine DW.condF rfl ?_))
    refine RO.sta (sta_call rfl rfl (Own_pure r l[k].e (by omega) _)) rfl ?_
    (repeat (first | refine RO.Sv ?_ | refine RO.Yv ?_ | refine RO.no rfl (by decide) rfl ?_ | refine RO.nil ?_ | refine DW.region ?_ | refine DW.seq ?_ | refine DW.block ?_ | refine DW.skip ?_ | refine DW.exit ?_ | refine DW.condT rfl ?_ | refine DW.condF rfl ?_))
    by_cases hmo : monoCk r l[k].e = 0
    case neg =>
      rw [if_pos hmo] at hgo
      rw [← hgo, if_neg hmo, show (monoCk r l[k].e != 0) = true by simpa using hmo]
      (repeat (first | refine RO.Sv ?_ | refine RO.Yv ?_ | refine RO.no rfl (by decide) rfl ?_ | refine RO.nil ?_ | refine DW.region ?_ | refine DW.seq ?_ | refine DW.block ?_ | refine DW.skip ?_ | refine DW.exit ?_ | refine DW.condT rfl ?_ | refine DW.condF rfl ?_))
      exact DW.ret ⟨.inl rfl, _, rfl, (Over.refl _).set hbv, .tup2 (.nil _) (.same _)⟩
    rw [if_neg (by simpa using hmo)] at hgo
    rw [show (monoCk r l[k].e != 0) = false by simpa using hmo]
    obtain ⟨tb, td⟩ := termsTB hr hin hmo
    have htk2 : ∀ t ∈ l.take (k + 1), TB 0 r.p r.n.toNat 200 t := fun t ht => by
      rw [List.take_succ_eq_append_getElem hlt] at ht
      rcases List.mem_append.1 ht with h | h
      · exact htk t h
      · rw [List.mem_singleton.1 h]; exact tb
    have htake := ofGo_take (p := r.p) (o := r.order) hlt
    (repeat (first | refine RO.Sv ?_ | refine RO.Yv ?_ | refine RO.no rfl (by decide) rfl ?_ | refine RO.nil ?_ | refine DW.region ?_ | refine DW.seq ?_ | refine DW.block ?_ | refine DW.skip ?_ | refine DW.exit ?_ | refine DW.condT rfl ?_ | refine DW.condF rfl ?_))
    cases hc : decide ((0 : Int) < l[k].c)
    case false =>
      rw [if_neg (of_decide_eq_false hc)] at htake
      (repeat (first | refine RO.Sv ?_ | refine RO.Yv ?_ | refine RO.no rfl (by decide) rfl ?_ | refine RO.nil ?_ | refine DW.region ?_ | refine DW.seq ?_ | refine DW.block ?_ | refine DW.skip ?_ | refine DW.exit ?_ | refine DW.condT rfl ?_ | refine DW.condF rfl ?_))
      rw [← htake]
      exact ⟨k + 1, ⟨hlt, hgo, htk2⟩, by dsimp only; omega, Heap.sub_set _ hbv, (by repeat first | exact trivial | refine HasG.one rfl ?_ | refine HasN.one rfl ?_ | refine HasG.nil1 rfl ?_)⟩
    have hc1 : 0 < l[k].c := of_decide_eq_true hc
    rw [if_pos hc1] at htake
    (repeat (first | refine RO.Sv ?_ | refine RO.Yv ?_ | refine RO.no rfl (by decide) rfl ?_ | refine RO.nil ?_ | refine DW.region ?_ | refine DW.seq ?_ | refine DW.block ?_ | refine DW.skip ?_ | refine DW.exit ?_ | refine DW.condT rfl ?_ | refine DW.condF rfl ?_))
    refine RO.sta (sta_call rfl rfl (sum_pure r (ofGo r.p r.order (l.take k) []) [l[k]] (n := r.n.toNat) (B := 200) h3 (by omega) hp (by simp; omega) hout (PB.one' ⟨by omega, tb.hi, tb.len, tb.mem⟩) _)) rfl ?_
    (repeat (first | refine RO.Sv ?_ | refine RO.Yv ?_ | refine RO.no rfl (by decide) rfl ?_ | refine RO.nil ?_ | refine DW.region ?_ | refine DW.seq ?_ | refine DW.block ?_ | refine DW.skip ?_ | refine DW.exit ?_ | refine DW.condT rfl ?_ | refine DW.condF rfl ?_))
    rw [← htake]
    exact ⟨k + 1, ⟨hlt, hgo, htk2⟩, by dsimp only; omega, Heap.sub_set _ hbv, (by repeat first | exact trivial | refine HasG.one rfl ?_ | refine HasN.one rfl ?_ | refine HasG.nil1 rfl ?_)⟩
  · have hge : k = l.length := by have := of_decide_eq_false hb; omega
    subst hge
    rw [List.drop_length] at hgo
    rw [List.take_length] at hout ⊢
    rw [if_pos (show termsGo r l = 0 from hgo.symm)]
    (repeat (first | refine RO.Sv ?_ | refine RO.Yv ?_ | refine RO.no rfl (by decide) rfl ?_ | refine RO.nil ?_ | refine DW.region ?_ | refine DW.seq ?_ | refine DW.block ?_ | refine DW.skip ?_ | refine DW.exit ?_ | refine DW.condT rfl ?_ | refine DW.condF rfl ?_))
    refine RO.sta (sta_call rfl rfl (copied_pure (ofGo r.p r.order l []) (by simp at houl; omega) (fun t ht => by have := (hout.all t ht).len; omega) _)) rfl ?_
    (repeat (first | refine RO.Sv ?_ | refine RO.Yv ?_ | refine RO.no rfl (by decide) rfl ?_ | refine RO.nil ?_ | refine DW.region ?_ | refine DW.seq ?_ | refine DW.block ?_ | refine DW.skip ?_ | refine DW.exit ?_ | refine DW.condT rfl ?_ | refine DW.condF rfl ?_))
    exact DW.ret ⟨.inl rfl, _, rfl, Over.refl _, .same _⟩

theorem CheckTerms_pure (r : Rg) (l : Pl) (hl : l.length ≤ 4611686018427387904) : Pure Tryd.prog 17 [rgD r, plD l] (I (termsCk r l)) := by
  intro H
  refine PureH.of_body Tryd.func17 rfl (by decide) (Nat.le_of_ble_eq_true rfl) fun w0 => ?_
  (repeat (first | refine RO.Sv ?_ | refine RO.Yv ?_ | refine RO.no rfl (by decide) rfl ?_ | refine RO.nil ?_ | refine DW.region ?_ | refine DW.seq ?_ | refine DW.block ?_ | refine DW.skip ?_ | refine DW.exit ?_ | refine DW.condT rfl ?_ | refine DW.condF rfl ?_))
  refine RO.sta (sta_call rfl rfl (CheckRing_pure r _)) rfl ?_
  (repeat (first | refine RO.Sv ?_ | refine RO.Yv ?_ | refine RO.no rfl (by decide) rfl ?_ | refine RO.nil ?_ | refine DW.region ?_ | refine DW.seq ?_ | refine DW.block ?_ | refine DW.skip ?_ | refine DW.exit ?_ | refine DW.condT rfl ?_ | refine DW.condF rfl ?_))
  have hbase : termsCk r l = if ringCk r = 0 then (if 2000 < l.length then 2 else termsGo r l) else ringCk r := rfl
  refine RO.cut [(1, plD l), (2, .ipt 4 [rgD r] 0 0), (5, I (ringCk r)), (15, .bool (ringCk r == 0 && decide ((2000 : Int) < (l.length : Int))))] H ?_ ?_
  rotate_left
  · cases hr : (ringCk r == 0)
    case false =>
      (repeat (first | refine RO.Sv ?_ | refine RO.Yv ?_ | refine RO.no rfl (by decide) rfl ?_ | refine RO.nil ?_ | refine DW.region ?_ | refine DW.seq ?_ | refine DW.block ?_ | refine DW.skip ?_ | refine DW.exit ?_ | refine DW.condT rfl ?_ | refine DW.condF rfl ?_))
      exact ⟨(by repeat first | exact trivial | refine HasG.one rfl ?_ | refine HasN.one rfl ?_), rfl⟩
    (repeat (first | refine RO.Sv ?_ | refine RO.Yv ?_ | refine RO.no rfl (by decide) rfl ?_ | refine RO.nil ?_ | refine DW.region ?_ | refine DW.seq ?_ | refine DW.block ?_ | refine DW.skip ?_ | refine DW.exit ?_ | refine DW.condT rfl ?_ | refine DW.condF rfl ?_))
    exact ⟨(by repeat first | exact trivial | refine HasG.one rfl ?_ | refine HasN.one rfl ?_), rfl⟩
  refine DW.cutg [(1, plD l), (2, .ipt 4 [rgD r] 0 0), (5, I (if ringCk r = 0 then (if 2000 < l.length then 2 else 0) else ringCk r))] H ?_ ?_
  rotate_left
  · by_cases hr : ringCk r = 0
    case neg =>
      rw [if_neg hr, show (ringCk r == 0) = false by simpa using hr]
      (repeat (first | refine RO.Sv ?_ | refine RO.Yv ?_ | refine RO.no rfl (by decide) rfl ?_ | refine RO.nil ?_ | refine DW.region ?_ | refine DW.seq ?_ | refine DW.block ?_ | refine DW.skip ?_ | refine DW.exit ?_ | refine DW.condT rfl ?_ | refine DW.condF rfl ?_))
      exact ⟨Heap.sub_refl _, (by repeat first | exact trivial | refine HasG.one rfl ?_ | refine HasN.one rfl ?_ | refine HasG.nil1 rfl ?_)⟩
    rw [if_pos hr, hr]
    cases hm : decide ((2000 : Int) < (l.length : Int))
    case true =>
      rw [if_pos (by have := of_decide_eq_true hm; omega)]
      (repeat (first | refine RO.Sv ?_ | refine RO.Yv ?_ | refine RO.no rfl (by decide) rfl ?_ | refine RO.nil ?_ | refine DW.region ?_ | refine DW.seq ?_ | refine DW.block ?_ | refine DW.skip ?_ | refine DW.exit ?_ | refine DW.condT rfl ?_ | refine DW.condF rfl ?_))
      exact ⟨Heap.sub_refl _, (by repeat first | exact trivial | refine HasG.one rfl ?_ | refine HasN.one rfl ?_ | refine HasG.nil1 rfl ?_)⟩
    rw [if_neg (by have := of_decide_eq_false hm; omega)]
    (repeat (first | refine RO.Sv ?_ | refine RO.Yv ?_ | refine RO.no rfl (by decide) rfl ?_ | refine RO.nil ?_ | refine DW.region ?_ | refine DW.seq ?_ | refine DW.block ?_ | refine DW.skip ?_ | refine DW.exit ?_ | refine DW.condT rfl ?_ | refine DW.condF rfl ?_))
    exact ⟨Heap.sub_refl _, (by repeat first | exact trivial | refine HasG.one rfl ?_ | refine HasN.one rfl ?_ | refine HasG.nil1 rfl ?_)⟩
  generalize he0 : (if ringCk r = 0 then (if 2000 < l.length then 2 else 0) else ringCk r : Int) = e0
  have hi0 : (e0 = termsCk r l ∧ e0 ≠ 0) ∨ (e0 = 0 ∧ ringCk r = 0 ∧ l.length ≤ 2000 ∧ termsGo r (l.drop 0) = termsCk r l) := by
    rw [hbase, ← he0]
    by_cases hr : ringCk r = 0
    · rw [if_pos hr, if_pos hr]
      by_cases hm : 2000 < l.length
      · rw [if_pos hm, if_pos hm]; exact .inl ⟨rfl, by decide⟩
      · rw [if_neg hm, if_neg hm]; exact .inr ⟨rfl, hr, by omega, rfl⟩
    · rw [if_neg hr, if_neg hr]; exact .inl ⟨rfl, hr⟩
  clear he0
  (repeat (first | refine RO.Sv ?_ | refine RO.Yv ?_ | refine RO.no rfl (by decide) rfl ?_ | refine RO.nil ?_ | refine DW.region ?_ | refine DW.seq ?_ | refine DW.block ?_ | refine DW.skip ?_ | refine DW.exit ?_ | refine DW.condT rfl ?_ | refine DW.condF rfl ?_))
  refine DW.loopI (fun x : Nat × Int => x.1 ≤ l.length ∧ ((x.2 = termsCk r l ∧ x.2 ≠ 0) ∨ (x.2 = 0 ∧ ringCk r = 0 ∧ l.length ≤ 2000 ∧ termsGo r (l.drop x.1) = termsCk r l))) (fun x => [(1, plD l), (2, .ipt 4 [rgD r] 0 0), (5, I x.2), (6, I x.1)]) (fun _ => H) (fun x => l.length - x.1) (0, e0)
    ⟨Nat.zero_le _, hi0⟩ rfl ⟨rfl, rfl, rfl, rfl, trivial⟩ fun ⟨k, e⟩ ⟨hk, hinv⟩ => ?_
  dsimp only at hk hinv
  dsimp only
  (repeat (first | refine RO.Sv ?_ | refine RO.Yv ?_ | refine RO.no rfl (by decide) rfl ?_ | refine RO.nil ?_ | refine DW.region ?_ | refine DW.seq ?_ | refine DW.block ?_ | refine DW.skip ?_ | refine DW.exit ?_ | refine DW.condT rfl ?_ | refine DW.condF rfl ?_))
  cases hb : decide ((k : Int) < (l.length : Int))
  case false =>
    have hge : k = l.length := by have := of_decide_eq_false hb; omega
    have hee : e = termsCk r l := by
      rcases hinv with h | ⟨h1, _, _, h2⟩
      · exact h.1
      · rw [hge, List.drop_length] at h2; rw [h1]; exact h2
    rw [hee]
    (repeat (first | refine RO.Sv ?_ | refine RO.Yv ?_ | refine RO.no rfl (by decide) rfl ?_ | refine RO.nil ?_ | refine DW.region ?_ | refine DW.seq ?_ | refine DW.block ?_ | refine DW.skip ?_ | refine DW.exit ?_ | refine DW.condT rfl ?_ | refine DW.condF rfl ?_))
    exact DW.ret ⟨.inl rfl, _, rfl, Over.refl _, .same _⟩
  have hlt : k < l.length := by have := of_decide_eq_true hb; omega
  clear hb
  rcases hinv with ⟨h1, h2⟩ | ⟨h1, hr, hle, hgo⟩
  · (repeat (first | refine RO.Sv ?_ | refine RO.Yv ?_ | refine RO.no rfl (by decide) rfl ?_ | refine RO.nil ?_ | refine DW.region ?_ | refine DW.seq ?_ | refine DW.block ?_ | refine DW.skip ?_ | refine DW.exit ?_ | refine DW.condT rfl ?_ | refine DW.condF rfl ?_))
    rw [show (e == 0) = false by simpa using h2]
    (repeat (first | refine RO.Sv ?_ | refine RO.Yv ?_ | refine RO.no rfl (by decide) rfl ?_ | refine RO.nil ?_ | refine DW.region ?_ | refine DW.seq ?_ | refine DW.block ?_ | refine DW.skip ?_ | refine DW.exit ?_ | refine DW.condT rfl ?_ | refine DW.condF rfl ?_))
    rw [h1]
    exact DW.ret ⟨.inl rfl, _, rfl, Over.refl _, .same _⟩
  subst h1
  have hr2 := ringCk_ok hr
  have hp := ckP_ok hr2.1
  rw [termsGo_drop hlt] at hgo
  (repeat (first | refine RO.Sv ?_ | refine RO.Yv ?_ | refine RO.no rfl (by decide) rfl ?_ | refine RO.nil ?_ | refine DW.region ?_ | refine DW.seq ?_ | refine DW.block ?_ | refine DW.skip ?_ | refine DW.exit ?_ | refine DW.condT rfl ?_ | refine DW.condF rfl ?_))
  refine DW.drawS 10 Tryd.mixed (by kernel_rfl) (by decide) ?_
  dsimp only [List.take, List.drop]
  (repeat (first | refine RS.Sv ?_ | refine RS.Yv ?_ | refine RS.no rfl (by decide) rfl ?_ | refine RS.nil ?_))
  refine RS.sta (fun H' hov => sta_call rfl rfl (between_pure l[k].c 0 (r.p - 1) _)) rfl ?_
  (repeat (first | refine RS.Sv ?_ | refine RS.Yv ?_ | refine RS.no rfl (by decide) rfl ?_ | refine RS.nil ?_))
  rw [show (decide (0 ≤ l[k].c) && decide (l[k].c ≤ r.p - 1)) = inP r.p l[k].c from rfl]
  (repeat (first | refine RO.Sv ?_ | refine RO.Yv ?_ | refine RO.no rfl (by decide) rfl ?_ | refine RO.nil ?_ | refine DW.region ?_ | refine DW.seq ?_ | refine DW.block ?_ | refine DW.skip ?_ | refine DW.exit ?_ | refine DW.condT rfl ?_ | refine DW.condF rfl ?_))
  cases hin : inP r.p l[k].c
  case false =>
    rw [hin, if_neg (by decide)] at hgo
    rw [← hgo]
    (repeat (first | refine RO.Sv ?_ | refine RO.Yv ?_ | refine RO.no rfl (by decide) rfl ?_ | refine RO.nil ?_ | refine DW.region ?_ | refine DW.seq ?_ | refine DW.block ?_ | refine DW.skip ?_ | refine DW.exit ?_ | refine DW.condT rfl ?_ | refine DW.condF rfl ?_))
    exact DW.ret ⟨.inl rfl, _, rfl, Over.refl _, .same _⟩
  rw [hin, if_pos rfl] at hgo
  (repeat (first | refine RO.Sv ?_ | refine RO.Yv ?_ | refine RO.no rfl (by decide) rfl ?_ | refine RO.nil ?_ | refine DW.region ?_ | refine DW.seq ?_ | refine DW.block ?_ | refine DW.skip ?_ | refine DW.exit ?_ | refine DW.condT rfl ?_ | refine DW.condF rfl ?_))
  refine DW.drawS 7 Tryd.mixed (by kernel_rfl) (by decide) ?_
  dsimp only [List.take, List.drop]
  (repeat (first | refine RS.Sv ?_ | refine RS.Yv ?_ | refine RS.no rfl (by decide) rfl ?_ | refine RS.nil ?_))
  refine RS.sta (fun H' hov => sta_call rfl rfl (CheckMono_pure r l[k].e (by omega) _)) rfl ?_
  (repeat (first | refine RS.Sv ?_ | refine RS.Yv ?_ | refine RS.no rfl (by decide) rfl ?_ | refine RS.nil ?_))
  (repeat (first | refine RO.Sv ?_ | refine RO.Yv ?_ | refine RO.no rfl (by decide) rfl ?_ | refine RO.nil ?_ | refine DW.region ?_ | refine DW.seq ?_ | refine DW.block ?_ | refine DW.skip ?_ | refine DW.exit ?_ | refine DW.condT rfl ?_ | refine DW.condF rfl ?_))
  refine ⟨(k + 1, monoCk r l[k].e), ⟨hlt, ?_⟩, by dsimp only; omega, rfl, rfl, rfl, rfl, rfl, trivial⟩
  by_cases hmo : monoCk r l[k].e = 0
  · rw [if_neg (by simpa using hmo)] at hgo
    exact .inr ⟨hmo, hr, hle, hgo⟩
  · rw [if_pos hmo] at hgo
    exact .inl ⟨hgo, hmo⟩

end Go.Proofs.YtblileclefbklaaDoor
