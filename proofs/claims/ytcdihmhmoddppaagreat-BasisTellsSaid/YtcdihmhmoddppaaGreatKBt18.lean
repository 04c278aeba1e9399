/-
  Package divide: Divide. No condition.
-/
import Derived.Test.YtcdihmhmoddppaaGreatKBt17
import Derived.Test.YtcdihmhmoddppaaGreatKBt7

namespace Go.Proofs.YtcdihmhmoddppaaGreat
open Go.RowKit
set_option linter.unusedVariables false

def divRun (r : Rg) (l : List Vc) : Nat → DS → DS
  | 0, s => s
  | n + 1, s => match stepT r l s with
    | none => s
    | some s' => divRun r l n s'

def divInit (rank : Nat) (l : List Vc) (v : Vc) : DS := ⟨v, List.replicate l.length [], List.replicate rank []⟩

def divT (r : Rg) (rank : Nat) (l : List Vc) (v : Vc) : DS := divRun r l (muT r v) (divInit rank l v)

/-- On the way. -/
structure DAt (r : Rg) (rank : Nat) (l : List Vc) (v : Vc) (s : DS) : Prop where
  inv : DInv r rank l s
  run : ∃ n, muT r s.v ≤ n ∧ divRun r l n s = divT r rank l v

/-- A vector that may be divided. -/
structure VIn (r : Rg) (rank : Nat) (v : Vc) : Prop where
  vd : VD r r.n.toNat v
  len : v.length = rank

theorem VOk.vin {r : Rg} {rank : Nat} {l : List Vc} {v : Vc} (h : VOk r rank v) (hl : DL r rank l) : VIn r rank v := ⟨h.vd hl.rg.2.1 hl.rank2, h.len⟩

theorem divInit_ok {r : Rg} {rank : Nat} {l : List Vc} {v : Vc} (hl : DL r rank l) (hv : VIn r rank v) : DInv r rank l (divInit rank l v) := by
  obtain ⟨hp, hn3, hn1, hpr, hck⟩ := hl.rg
  have hrk := hl.rank2
  refine ⟨hv.vd, hv.len, by simp [divInit], fun f hf => ?_, by simp [divInit], fun j hj => ?_, fun j hj t ht => ?_, fun j hj t ht => ?_⟩
  · rw [List.eq_of_mem_replicate hf]; exact ⟨PB.nil _ _ _ _ _, fun t h => by cases h⟩
  · rw [show (divInit rank l v).left[j] = [] by simp [divInit]]
    exact ⟨PB.nil _ _ _ _ _, fun t h => by cases h⟩
  · rw [show (divInit rank l v).left[j] = [] by simp [divInit]] at ht; cases ht
  · rw [show (divInit rank l v).left[j] = [] by simp [divInit]] at ht; cases ht

theorem DAt.init {r : Rg} {rank : Nat} {l : List Vc} {v : Vc} (hl : DL r rank l) (hv : VIn r rank v) : DAt r rank l v (divInit rank l v) := ⟨divInit_ok hl hv, _, Nat.le_refl _, rfl⟩

theorem DAt.step {r : Rg} {rank : Nat} {l : List Vc} {v : Vc} {s s' : DS} (h : DAt r rank l v s) (hs : stepT r l s = some s') (hi : DInv r rank l s') (hm : muT r s'.v < muT r s.v) : DAt r rank l v s' := by
  obtain ⟨n, hn, hr⟩ := h.run
  cases n with
  | zero => omega
  | succ n =>
    refine ⟨hi, n, by omega, ?_⟩
    rw [← hr]
    show _ = match stepT r l s with | none => s | some s' => divRun r l n s'
    rw [hs]

theorem DAt.stepA {r : Rg} {rank : Nat} {l : List Vc} {v : Vc} {s : DS} (hl : DL r rank l) (h : DAt r rank l v s) {a : Nat} {u : Tm} (ht : topV r s.v = some (a, u)) (hg : goesT r l a u.e = none) : DAt r rank l v (stepA s a u) ∧ muT r (Proofs.YtcdihmhmoddppaaGreat.stepA s a u).v < muT r s.v := by
  obtain ⟨h1, h2⟩ := stepA_ok hl h.inv ht hg
  exact ⟨h.step (by unfold stepT; rw [ht]; dsimp only; rw [hg]) h1 h2, h2⟩

theorem DAt.stepB {r : Rg} {rank : Nat} {l : List Vc} {v : Vc} {s : DS} (hl : DL r rank l) (h : DAt r rank l v s) {a i : Nat} {u : Tm} (ht : topV r s.v = some (a, u)) (hg : goesT r l a u.e = some i) : DAt r rank l v (stepB r l s u i) ∧ muT r (Proofs.YtcdihmhmoddppaaGreat.stepB r l s u i).v < muT r s.v := by
  obtain ⟨h1, h2, _⟩ := stepB_ok hl h.inv ht hg
  exact ⟨h.step (by unfold stepT; rw [ht]; dsimp only; rw [hg]) h1 h2, h2⟩

theorem DAt.done {r : Rg} {rank : Nat} {l : List Vc} {v : Vc} {s : DS} (h : DAt r rank l v s) (ht : topV r s.v = none) : divT r rank l v = s := by
  obtain ⟨n, hn, hr⟩ := h.run
  rw [← hr]
  cases n with
  | zero => rfl
  | succ n =>
    show (match stepT r l s with | none => s | some s' => divRun r l n s') = s
    have : stepT r l s = none := by unfold stepT; rw [ht]
    rw [this]

/-- The end is reached. -/
theorem divRun_end {r : Rg} {rank : Nat} {l : List Vc} (hl : DL r rank l) : ∀ (n : Nat) (s : DS), DInv r rank l s → muT r s.v ≤ n → DInv r rank l (divRun r l n s) ∧ topV r (divRun r l n s).v = none
  | 0, s, h, hn => by
    refine ⟨h, ?_⟩
    show topV r s.v = none
    cases hx : topV r s.v with
    | none => rfl
    | some x => unfold muT at hn; rw [hx] at hn; obtain ⟨a, u⟩ := x; dsimp only at hn; omega
  | n + 1, s, h, hn => by
    show DInv r rank l (match stepT r l s with | none => s | some s' => divRun r l n s') ∧ topV r (match stepT r l s with | none => s | some s' => divRun r l n s').v = none
    cases hx : topV r s.v with
    | none =>
      have : stepT r l s = none := by unfold stepT; rw [hx]
      rw [this]
      exact ⟨h, hx⟩
    | some x =>
      obtain ⟨a, u⟩ := x
      cases hg : goesT r l a u.e with
      | none =>
        have : stepT r l s = some (stepA s a u) := by unfold stepT; rw [hx]; dsimp only; rw [hg]
        rw [this]
        obtain ⟨h1, h2⟩ := stepA_ok hl h hx hg
        exact divRun_end hl n _ h1 (by omega)
      | some i =>
        have : stepT r l s = some (stepB r l s u i) := by unfold stepT; rw [hx]; dsimp only; rw [hg]
        rw [this]
        obtain ⟨h1, h2, _⟩ := stepB_ok hl h hx hg
        exact divRun_end hl n _ h1 (by omega)

theorem divT_ok {r : Rg} {rank : Nat} {l : List Vc} {v : Vc} (hl : DL r rank l) (hv : VIn r rank v) : DInv r rank l (divT r rank l v) ∧ topV r (divT r rank l v).v = none :=
  divRun_end hl _ _ (divInit_ok hl hv) (Nat.le_refl _)

/-- Does no lead of the list go into a term? -/
def rowNormal (r : Rg) (l : List Vc) (j : Nat) (f : Pl) : Bool := f.all fun t => (goesT r l j t.e).isNone

def normGo (r : Rg) (l : List Vc) : Nat → Vc → Bool
  | _, [] => true
  | j, f :: v => rowNormal r l j f && normGo r l (j + 1) v

def normalT (r : Rg) (l : List Vc) (v : Vc) : Bool := normGo r l 0 v

theorem normGo_drop {r : Rg} {l : List Vc} {v : Vc} {k : Nat} (h : k < v.length) : normGo r l k (v.drop k) = (rowNormal r l k v[k] && normGo r l (k + 1) (v.drop (k + 1))) := by
  rw [List.drop_eq_getElem_cons h]; rfl

theorem rowNormal_drop {r : Rg} {l : List Vc} {j : Nat} {f : Pl} {k : Nat} (h : k < f.length) : rowNormal r l j (f.drop k) = ((goesT r l j f[k].e).isNone && rowNormal r l j (f.drop (k + 1))) := by
  rw [List.drop_eq_getElem_cons h]; rfl

def goIdx : Option Nat → Int
  | none => -1
  | some i => i

/-- What is wrong with what is handed in. -/
def readyCk (r : Rg) (rank : Int) (v : Vc) (l : List Vc) : Int := if vecsCk r rank l = 0 then ownCk r rank [v] else vecsCk r rank l

theorem readyCk_ok {r : Rg} {rank : Int} {v : Vc} {l : List Vc} (h : readyCk r rank v l = 0) : DL r rank.toNat l ∧ VOk r rank.toNat v ∧ rank = rank.toNat := by
  unfold readyCk at h
  by_cases h1 : vecsCk r rank l = 0
  · rw [if_pos h1] at h
    obtain ⟨a, b, c, d, e⟩ := vecsCk_ok h1
    obtain ⟨b', c', d', e'⟩ := ownCk_ok a h
    exact ⟨⟨a, by omega, by omega, d, e⟩, e' v (by simp), by omega⟩
  · rw [if_neg h1] at h; exact absurd h h1

/-- What Divide answers. -/
def divideT (r : Rg) (rank : Int) (v : Vc) (l : List Vc) : Vc × Vc × Int :=
  if readyCk r rank v l ≠ 0 then ([], [], readyCk r rank v l)
  else if (vgreatT (divT r rank.toNat l v).left || vgreatT (divT r rank.toNat l v).q) = true then ([], [], 2) else ((divT r rank.toNat l v).q, (divT r rank.toNat l v).left, 0)

end Go.Proofs.YtcdihmhmoddppaaGreat

namespace Go.Proofs.YtcdihmhmoddppaaGreat
open Go.RowKit
set_option linter.unusedVariables false
set_option linter.unusedSimpArgs false
set_option maxHeartbeats 8000000

instance : SizeT Tryz.prog 84 4 := .of (by kernel_rfl)
instance : BuildT Tryz.prog 84 [.nil, I 0, I 0, .nil] #[(0, 1), (1, 1), (2, 2)] := .of (by kernel_rfl) Tryz.underlying84 (by kernel_rfl) rfl

/-- A vector with its lead. -/
def dvC (r : Rg) (v : Vc) : List D := [vcD v, I (atOf (topV r v)), I (tmOf (topV r v)).c, intsD (tmOf (topV r v)).e]
def dvD (r : Rg) (v : Vc) : D := .agg (dvC r v)
def dvsD (r : Rg) (l : List Vc) : D := .list 4 (l.map (dvD r))

theorem uni_dv (r : Rg) (l : List Vc) : Uni 4 (l.map (dvD r)) := by
  intro d hd
  obtain ⟨a, _, rfl⟩ := List.mem_map.1 hd
  exact ⟨rfl, fun x hx => by simp [dvD, dvC, cellsOf] at hx; rcases hx with rfl | rfl | rfl | rfl <;> rfl⟩

theorem dvOf_pure (r : Rg) (v : Vc) {n : Nat} (hv : VD r n v) : Pure Tryz.prog 79 [rgD r, vcD v] (dvD r v) := by
  intro H
  have hvl := hv.len
  have hn := hv.n3
  refine PureH.of_bodyCell (r := 4) (t := 84) (T0 := 84) (cells := dvC r v) Tryz.func79 rfl (by decide) (Nat.le_of_ble_eq_true rfl) rfl fun w0 => ?_
  (repeat (first | refine RO.Sv ?_ | refine RO.Yv ?_ | refine RO.no rfl (by decide) rfl ?_ | refine RO.nil ?_ | refine DW.region ?_ | refine DW.seq ?_ | refine DW.block ?_ | refine DW.skip ?_ | refine DW.exit ?_ | refine DW.condT rfl ?_ | refine DW.condF rfl ?_))
  refine RO.dyn rfl (d_alloc fun b4 hb4 => ?_)
  (repeat (first | refine RO.Sv ?_ | refine RO.Yv ?_ | refine RO.no rfl (by decide) rfl ?_ | refine RO.nil ?_ | refine DW.region ?_ | refine DW.seq ?_ | refine DW.block ?_ | refine DW.skip ?_ | refine DW.exit ?_ | refine DW.condT rfl ?_ | refine DW.condF rfl ?_))
  refine RO.sta (sta_call rfl rfl (vTop_pure r v (n := n) (B := 8000) (L := 512192024001) (by omega) (by omega) (by omega) hv.vb _)) rfl ?_
  (repeat (first | refine RO.Sv ?_ | refine RO.Yv ?_ | refine RO.no rfl (by decide) rfl ?_ | refine RO.nil ?_ | refine DW.region ?_ | refine DW.seq ?_ | refine DW.block ?_ | refine DW.skip ?_ | refine DW.exit ?_ | refine DW.condT rfl ?_ | refine DW.condF rfl ?_))
  refine RO.dyn rfl (d_alloc fun b6 hb6 => ?_)
  have hne : b4 ≠ b6 := fun e => by rw [← e, Heap.set_self] at hb6; cases hb6
  (repeat (first | refine RO.Sv ?_ | refine RO.Yv ?_ | refine RO.no rfl (by decide) rfl ?_ | refine RO.nil ?_ | refine DW.region ?_ | refine DW.seq ?_ | refine DW.block ?_ | refine DW.skip ?_ | refine DW.exit ?_ | refine DW.condT rfl ?_ | refine DW.condF rfl ?_))
  refine RO.dyn rfl (d_storeTm (tm := tmOf (topV r v)) rfl rfl (Heap.set_self _ _ _) rfl ?_)
  rw [Heap.set_set]
  (repeat (first | refine RO.Sv ?_ | refine RO.Yv ?_ | refine RO.no rfl (by decide) rfl ?_ | refine RO.nil ?_ | refine DW.region ?_ | refine DW.seq ?_ | refine DW.block ?_ | refine DW.skip ?_ | refine DW.exit ?_ | refine DW.condT rfl ?_ | refine DW.condF rfl ?_))
  refine RO.sta (s_buildT (out := dvC r v) rfl rfl) rfl ?_
  refine RO.dyn rfl (d_store (k := 4) rfl rfl rfl (by rw [Heap.set_other _ _ hne, Heap.set_self]) (Nat.le_refl _) (by simp [cellsOf, dvC, D.isCell, vcD, intsD]) ?_)
  (repeat (first | refine RO.Sv ?_ | refine RO.Yv ?_ | refine RO.no rfl (by decide) rfl ?_ | refine RO.nil ?_ | refine DW.region ?_ | refine DW.seq ?_ | refine DW.block ?_ | refine DW.skip ?_ | refine DW.exit ?_ | refine DW.condT rfl ?_ | refine DW.condF rfl ?_))
  refine DW.ret ⟨.inl rfl, b4, rfl, Heap.set_self _ _ _, ?_, hb4⟩
  exact (((Over.refl H).set hb4).set (Heap.none_of_set hne hb6)).set hb4

theorem dvAll_pure (r : Rg) (l : List Vc) {n : Nat} (hl : l.length ≤ 1000000) (hv : ∀ v ∈ l, VD r n v) : Pure Tryz.prog 48 [rgD r, vcsD l] (dvsD r l) := by
  intro H
  refine PureH.of_body Tryz.func48 rfl (by decide) (Nat.le_of_ble_eq_true rfl) fun w0 => ?_
  (repeat (first | refine RO.Sv ?_ | refine RO.Yv ?_ | refine RO.no rfl (by decide) rfl ?_ | refine RO.nil ?_ | refine DW.region ?_ | refine DW.seq ?_ | refine DW.block ?_ | refine DW.skip ?_ | refine DW.exit ?_ | refine DW.condT rfl ?_ | refine DW.condF rfl ?_))
  refine DW.loopI (fun x : Nat × Heap × D => x.1 ≤ l.length ∧ Acc H x.2.1 x.2.2 4 84 ((l.take x.1).map (dvD r)) ∧ Over H x.2.1) (fun x => [(2, .ipt 4 [rgD r] 0 0), (5, x.2.2), (8, vcsD l), (9, I l.length), (10, I x.1)]) (fun x => x.2.1) (fun x => l.length - x.1) (0, H, .nil)
    ⟨Nat.zero_le _, Acc.nil _ _ _ _, Over.refl _⟩ rfl ⟨rfl, rfl, rfl, rfl, rfl, trivial⟩ fun ⟨k, Hk, d⟩ ⟨hk, hacc, hov⟩ => ?_
  dsimp only at hk hacc hov
  dsimp only
  (repeat (first | refine RO.Sv ?_ | refine RO.Yv ?_ | refine RO.no rfl (by decide) rfl ?_ | refine RO.nil ?_ | refine DW.region ?_ | refine DW.seq ?_ | refine DW.block ?_ | refine DW.skip ?_ | refine DW.exit ?_ | refine DW.condT rfl ?_ | refine DW.condF rfl ?_))
  refine DW.cond rfl (fun hb => ?_) (fun hb => ?_)
  · have hlt : k < l.length := by have := of_decide_eq_true hb; omega
    clear hb
    (repeat (first | refine RO.Sv ?_ | refine RO.Yv ?_ | refine RO.no rfl (by decide) rfl ?_ | refine RO.nil ?_ | refine DW.region ?_ | refine DW.seq ?_ | refine DW.block ?_ | refine DW.skip ?_ | refine DW.exit ?_ | refine DW.condT rfl ?_ | refine DW.condF rfl ?_))
    refine RO.sta (sta_call rfl rfl (dvOf_pure r l[k] (hv _ (List.getElem_mem hlt)) _)) rfl ?_
    refine RO.sta (s_lit1 (k := 4) (by decide) rfl rfl) rfl ?_
    refine RO.dyn rfl (d_append (H0 := H) (xs := [dvD r l[k]]) rfl hacc hov rfl (.inl rfl) (uni_dv r [l[k]]) (by simp; omega) (by simp; omega) fun d' H' q1 q2 q3 => ?_)
    (repeat (first | refine RO.Sv ?_ | refine RO.Yv ?_ | refine RO.no rfl (by decide) rfl ?_ | refine RO.nil ?_ | refine DW.region ?_ | refine DW.seq ?_ | refine DW.block ?_ | refine DW.skip ?_ | refine DW.exit ?_ | refine DW.condT rfl ?_ | refine DW.condF rfl ?_))
    refine ⟨(k + 1, H', d'), ⟨hlt, ?_, q2⟩, by dsimp only; omega, rfl, rfl, rfl, rfl, rfl, rfl, trivial⟩
    dsimp only
    rw [List.take_succ_eq_append_getElem hlt, List.map_append]
    exact q1
  · have hke : k = l.length := by have := of_decide_eq_false hb; omega
    rw [hke, List.take_of_length_le (Nat.le_refl _)] at hacc
    (repeat (first | refine RO.Sv ?_ | refine RO.Yv ?_ | refine RO.no rfl (by decide) rfl ?_ | refine RO.nil ?_ | refine DW.region ?_ | refine DW.seq ?_ | refine DW.block ?_ | refine DW.skip ?_ | refine DW.exit ?_ | refine DW.condT rfl ?_ | refine DW.condF rfl ?_))
    exact DW.ret ⟨.inl rfl, _, rfl, hov, hacc.done⟩

end Go.Proofs.YtcdihmhmoddppaaGreat

namespace Go.Proofs.YtcdihmhmoddppaaGreat
open Go.RowKit
set_option linter.unusedVariables false
set_option linter.unusedSimpArgs false
set_option maxHeartbeats 8000000

theorem goesT_at {r : Rg} {l : List Vc} {a : Nat} {m : List Int} {k : Nat} (h : ∀ (j : Nat) (hj : j < l.length), j < k → goesIn r a m l[j] = false) (hk : k < l.length) (hg : goesIn r a m l[k] = true) : goesT r l a m = some k :=
  List.findIdx?_eq_some_iff_getElem.2 ⟨hk, hg, fun j hj => by rw [h j (by omega) hj]; simp⟩

theorem goesT_not {r : Rg} {l : List Vc} {a : Nat} {m : List Int} (h : ∀ (j : Nat) (hj : j < l.length), goesIn r a m l[j] = false) : goesT r l a m = none :=
  List.findIdx?_eq_none_iff.2 fun x hx => by
    obtain ⟨j, hj, rfl⟩ := List.getElem_of_mem hx
    exact h j hj

theorem no_succ {P : Nat → Prop} {k : Nat} (h : ∀ j, j < k → P j) (hk : P k) : ∀ j, j < k + 1 → P j := fun j hj => by
  by_cases he : j = k
  · rw [he]; exact hk
  · exact h j (by omega)

theorem goes_pure (r : Rg) (l : List Vc) (a : Nat) (t : Tm) {n : Nat} (hl : l.length ≤ 1000000) (hv : ∀ v ∈ l, VD r n v) (ht : ME n t.e) : Pure Tryz.prog 86 [dvsD r l, I a, tmD t] (I (goIdx (goesT r l a t.e))) := by
  intro H
  have hn := ht.n3
  have htl := ht.len
  refine PureH.of_body Tryz.func86 rfl (by decide) (Nat.le_of_ble_eq_true rfl) fun w0 => ?_
  (repeat (first | refine RO.Sv ?_ | refine RO.Yv ?_ | refine RO.no rfl (by decide) rfl ?_ | refine RO.nil ?_ | refine DW.region ?_ | refine DW.seq ?_ | refine DW.block ?_ | refine DW.skip ?_ | refine DW.exit ?_ | refine DW.condT rfl ?_ | refine DW.condF rfl ?_))
  refine DW.loopG (fun k : Nat => k ≤ l.length ∧ ∀ j, j < k → ∀ (hj : j < l.length), goesIn r a t.e l[j] = false) (fun k => [(1, I a), (5, .ipt 2 [tmD t] 0 0), (9, dvsD r l), (10, I l.length), (11, I k)]) (fun _ => H) (fun k => l.length - k) 0 ⟨Nat.zero_le _, fun j h => by omega⟩ (Heap.sub_refl _) (by repeat first | exact trivial | refine HasG.one rfl ?_ | refine HasN.one rfl ?_) fun k ⟨hk, hno⟩ => ?_
  (repeat (first | refine RO.Sv ?_ | refine RO.Yv ?_ | refine RO.no rfl (by decide) rfl ?_ | refine RO.nil ?_ | refine DW.region ?_ | refine DW.seq ?_ | refine DW.block ?_ | refine DW.skip ?_ | refine DW.exit ?_ | refine DW.condT rfl ?_ | refine DW.condF rfl ?_))
  refine DW.cond rfl (fun hb => ?_) (fun hb => ?_)
  · have hlt : k < l.length := by have := of_decide_eq_true hb; omega
    have hlk := hv _ (List.getElem_mem hlt)
    clear hb
    (repeat (first | refine RO.Sv ?_ | refine RO.Yv ?_ | refine RO.no rfl (by decide) rfl ?_ | refine RO.nil ?_ | refine DW.region ?_ | refine DW.seq ?_ | refine DW.block ?_ | refine DW.skip ?_ | refine DW.exit ?_ | refine DW.condT rfl ?_ | refine DW.condF rfl ?_))
    refine RO.sta (s_loadAgg (ds := dvC r l[k]) rfl (by simp [hlt, dvD]) rfl) rfl ?_
    refine RO.dyn rfl (d_alloc fun b8 hb8 => ?_)
    (repeat (first | refine RO.Sv ?_ | refine RO.Yv ?_ | refine RO.no rfl (by decide) rfl ?_ | refine RO.nil ?_ | refine DW.region ?_ | refine DW.seq ?_ | refine DW.block ?_ | refine DW.skip ?_ | refine DW.exit ?_ | refine DW.condT rfl ?_ | refine DW.condF rfl ?_))
    refine RO.dyn rfl (d_store (k := 4) rfl rfl rfl (Heap.set_self _ _ _) (Nat.le_refl _) (by simp [cellsOf, dvC, D.isCell, vcD, intsD]) ?_)
    rw [Heap.set_set]
    (repeat (first | refine RO.Sv ?_ | refine RO.Yv ?_ | refine RO.no rfl (by decide) rfl ?_ | refine RO.nil ?_ | refine DW.region ?_ | refine DW.seq ?_ | refine DW.block ?_ | refine DW.skip ?_ | refine DW.exit ?_ | refine DW.condT rfl ?_ | refine DW.condF rfl ?_))
    cases hx : topV r l[k] with
    | none =>
      have hgi : goesIn r a t.e l[k] = false := by unfold goesIn; rw [hx]
      have hat : (atOf (none : Option (Nat × Tm)) == (a : Int)) = false := by simp [atOf]
      rw [hat]
      (repeat (first | refine RO.Sv ?_ | refine RO.Yv ?_ | refine RO.no rfl (by decide) rfl ?_ | refine RO.nil ?_ | refine DW.region ?_ | refine DW.seq ?_ | refine DW.block ?_ | refine DW.skip ?_ | refine DW.exit ?_ | refine DW.condT rfl ?_ | refine DW.condF rfl ?_))
      exact ⟨k + 1, ⟨hlt, no_succ hno fun _ => hgi⟩, by dsimp only; omega, Heap.sub_set _ hb8, (by repeat first | exact trivial | refine HasG.one rfl ?_ | refine HasN.one rfl ?_)⟩
    | some x =>
      obtain ⟨b, w⟩ := x
      have iw := topV_is hlk hx
      have hgi : goesIn r a t.e l[k] = (b == a && goesM t.e w.e) := by unfold goesIn; rw [hx]
      have hat : (atOf (some (b, w)) == (a : Int)) = (b == a) := by
        show ((b : Int) == (a : Int)) = (b == a)
        by_cases h : b = a
        · subst h; simp
        · rw [show (b == a) = false by simpa using h]; simp; omega
      rw [hat]
      cases hba : b == a
      · rw [hba, Bool.false_and] at hgi
        (repeat (first | refine RO.Sv ?_ | refine RO.Yv ?_ | refine RO.no rfl (by decide) rfl ?_ | refine RO.nil ?_ | refine DW.region ?_ | refine DW.seq ?_ | refine DW.block ?_ | refine DW.skip ?_ | refine DW.exit ?_ | refine DW.condT rfl ?_ | refine DW.condF rfl ?_))
        exact ⟨k + 1, ⟨hlt, no_succ hno fun _ => hgi⟩, by dsimp only; omega, Heap.sub_set _ hb8, (by repeat first | exact trivial | refine HasG.one rfl ?_ | refine HasN.one rfl ?_)⟩
      · rw [hba, Bool.true_and] at hgi
        (repeat (first | refine RO.Sv ?_ | refine RO.Yv ?_ | refine RO.no rfl (by decide) rfl ?_ | refine RO.nil ?_ | refine DW.region ?_ | refine DW.seq ?_ | refine DW.block ?_ | refine DW.skip ?_ | refine DW.exit ?_ | refine DW.condT rfl ?_ | refine DW.condF rfl ?_))
        have hwe : (tmOf (topV r l[k])).e = w.e := by rw [hx]; rfl
        refine RO.yes rfl rfl (OpD.of_sta (sta_call rfl rfl (Goes_pure (a := t.e) (b := (tmOf (topV r l[k])).e) (by rw [hwe, htl, iw.me.len]) (by omega) _)) ?_)
        rw [hwe]
        cases hg : goesM t.e w.e
        · rw [hg] at hgi
          (repeat (first | refine RO.Sv ?_ | refine RO.Yv ?_ | refine RO.no rfl (by decide) rfl ?_ | refine RO.nil ?_ | refine DW.region ?_ | refine DW.seq ?_ | refine DW.block ?_ | refine DW.skip ?_ | refine DW.exit ?_ | refine DW.condT rfl ?_ | refine DW.condF rfl ?_))
          exact ⟨k + 1, ⟨hlt, no_succ hno fun _ => hgi⟩, by dsimp only; omega, Heap.sub_set _ hb8, (by repeat first | exact trivial | refine HasG.one rfl ?_ | refine HasN.one rfl ?_)⟩
        · rw [hg] at hgi
          rw [goesT_at (fun j hj h => hno j h hj) hlt hgi]
          (repeat (first | refine RO.Sv ?_ | refine RO.Yv ?_ | refine RO.no rfl (by decide) rfl ?_ | refine RO.nil ?_ | refine DW.region ?_ | refine DW.seq ?_ | refine DW.block ?_ | refine DW.skip ?_ | refine DW.exit ?_ | refine DW.condT rfl ?_ | refine DW.condF rfl ?_))
          exact DW.ret ⟨.inl rfl, _, rfl, (Over.refl _).set hb8, .same _⟩
  · have hge : k = l.length := by have := of_decide_eq_false hb; omega
    rw [goesT_not fun j hj => hno j (by omega) hj]
    (repeat (first | refine RO.Sv ?_ | refine RO.Yv ?_ | refine RO.no rfl (by decide) rfl ?_ | refine RO.nil ?_ | refine DW.region ?_ | refine DW.seq ?_ | refine DW.block ?_ | refine DW.skip ?_ | refine DW.exit ?_ | refine DW.condT rfl ?_ | refine DW.condF rfl ?_))
    exact DW.ret ⟨.inl rfl, _, rfl, Over.refl _, .same _⟩

theorem Divisor_pure (r : Rg) (l : List Vc) (a : Nat) (t : Tm) {n : Nat} (hl : l.length ≤ 1000000) (hv : ∀ v ∈ l, VD r n v) (ht : ME n t.e) : Pure Tryz.prog 57 [rgD r, vcsD l, I a, tmD t] (I (goIdx (goesT r l a t.e))) := by
  intro H
  have hn := ht.n3
  have htl := ht.len
  refine PureH.of_body Tryz.func57 rfl (by decide) (Nat.le_of_ble_eq_true rfl) fun w0 => ?_
  (repeat (first | refine RO.Sv ?_ | refine RO.Yv ?_ | refine RO.no rfl (by decide) rfl ?_ | refine RO.nil ?_ | refine DW.region ?_ | refine DW.seq ?_ | refine DW.block ?_ | refine DW.skip ?_ | refine DW.exit ?_ | refine DW.condT rfl ?_ | refine DW.condF rfl ?_))
  refine DW.loopG (fun k : Nat => k ≤ l.length ∧ ∀ j, j < k → ∀ (hj : j < l.length), goesIn r a t.e l[j] = false) (fun k => [(1, vcsD l), (2, I a), (4, .ipt 4 [rgD r] 0 0), (7, .ipt 2 [tmD t] 0 0), (9, I k)]) (fun _ => H) (fun k => l.length - k) 0 ⟨Nat.zero_le _, fun j h => by omega⟩ (Heap.sub_refl _) (by repeat first | exact trivial | refine HasG.one rfl ?_ | refine HasN.one rfl ?_) fun k ⟨hk, hno⟩ => ?_
  (repeat (first | refine RO.Sv ?_ | refine RO.Yv ?_ | refine RO.no rfl (by decide) rfl ?_ | refine RO.nil ?_ | refine DW.region ?_ | refine DW.seq ?_ | refine DW.block ?_ | refine DW.skip ?_ | refine DW.exit ?_ | refine DW.condT rfl ?_ | refine DW.condF rfl ?_))
  refine DW.cond rfl (fun hb => ?_) (fun hb => ?_)
  · have hlt : k < l.length := by have := of_decide_eq_true hb; omega
    have hlk := hv _ (List.getElem_mem hlt)
    have hlkl := hlk.len
    clear hb
    (repeat (first | refine RO.Sv ?_ | refine RO.Yv ?_ | refine RO.no rfl (by decide) rfl ?_ | refine RO.nil ?_ | refine DW.region ?_ | refine DW.seq ?_ | refine DW.block ?_ | refine DW.skip ?_ | refine DW.exit ?_ | refine DW.condT rfl ?_ | refine DW.condF rfl ?_))
    refine DW.drawX [0, 1, 2, 3, 4, 5, 6, 7, 8] [0, 1, 2, 3, 4, 5, 6, 7, 8] (fun _ => none) Tryz.mixed (by kernel_rfl) (Over.nul _) ?_
    (repeat (first | refine RX.A ?_ | refine RX.nil ?_))
    refine RX.any (fun H' => sta_call rfl rfl (LeadOf_pure r l[k] (n := n) (B := 8000) (L := 512192024001) (by omega) (by omega) (by omega) (by omega) hlk.vb _)) rfl ?_
    (repeat (first | refine RX.A ?_ | refine RX.nil ?_))
    refine RY.dyn rfl (d_alloc fun b11 hb11 => ⟨Over.nul _, ?_⟩)
    (repeat (first | refine RY.S ?_ | refine RY.nil ?_))
    refine RY.dyn rfl (d_storeTm (tm := tmOf (topV r l[k])) rfl rfl (Heap.set_self _ _ _) rfl ⟨Over.nul _, ?_⟩)
    rw [Heap.set_set]
    (repeat (first | refine RY.S ?_ | refine RY.nil ?_))
    (repeat (first | refine RO.Sv ?_ | refine RO.Yv ?_ | refine RO.no rfl (by decide) rfl ?_ | refine RO.nil ?_ | refine DW.region ?_ | refine DW.seq ?_ | refine DW.block ?_ | refine DW.skip ?_ | refine DW.exit ?_ | refine DW.condT rfl ?_ | refine DW.condF rfl ?_))
    cases hx : topV r l[k] with
    | none =>
      have hgi : goesIn r a t.e l[k] = false := by unfold goesIn; rw [hx]
      have hat : (atOf (none : Option (Nat × Tm)) == (a : Int)) = false := by simp [atOf]
      rw [hat]
      (repeat (first | refine RO.Sv ?_ | refine RO.Yv ?_ | refine RO.no rfl (by decide) rfl ?_ | refine RO.nil ?_ | refine DW.region ?_ | refine DW.seq ?_ | refine DW.block ?_ | refine DW.skip ?_ | refine DW.exit ?_ | refine DW.condT rfl ?_ | refine DW.condF rfl ?_))
      exact ⟨k + 1, ⟨hlt, no_succ hno fun _ => hgi⟩, by dsimp only; omega, Heap.sub_set _ hb11, (by repeat first | exact trivial | refine HasG.one rfl ?_ | refine HasN.one rfl ?_)⟩
    | some x =>
      obtain ⟨b, w⟩ := x
      have iw := topV_is hlk hx
      have hgi : goesIn r a t.e l[k] = (b == a && goesM t.e w.e) := by unfold goesIn; rw [hx]
      have hat : (atOf (some (b, w)) == (a : Int)) = (b == a) := by
        show ((b : Int) == (a : Int)) = (b == a)
        by_cases h : b = a
        · subst h; simp
        · rw [show (b == a) = false by simpa using h]; simp; omega
      rw [hat]
      cases hba : b == a
      · rw [hba, Bool.false_and] at hgi
        (repeat (first | refine RO.Sv ?_ | refine RO.Yv ?_ | refine RO.no rfl (by decide) rfl ?_ | refine RO.nil ?_ | refine DW.region ?_ | refine DW.seq ?_ | refine DW.block ?_ | refine DW.skip ?_ | refine DW.exit ?_ | refine DW.condT rfl ?_ | refine DW.condF rfl ?_))
        exact ⟨k + 1, ⟨hlt, no_succ hno fun _ => hgi⟩, by dsimp only; omega, Heap.sub_set _ hb11, (by repeat first | exact trivial | refine HasG.one rfl ?_ | refine HasN.one rfl ?_)⟩
      · rw [hba, Bool.true_and] at hgi
        (repeat (first | refine RO.Sv ?_ | refine RO.Yv ?_ | refine RO.no rfl (by decide) rfl ?_ | refine RO.nil ?_ | refine DW.region ?_ | refine DW.seq ?_ | refine DW.block ?_ | refine DW.skip ?_ | refine DW.exit ?_ | refine DW.condT rfl ?_ | refine DW.condF rfl ?_))
        refine RO.yes rfl rfl (OpD.of_sta (sta_call rfl rfl (GoesInto_pure (a := t.e) (b := w.e) (by rw [htl, iw.me.len]) (by omega) _)) ?_)
        cases hg : goesM t.e w.e
        · rw [hg] at hgi
          (repeat (first | refine RO.Sv ?_ | refine RO.Yv ?_ | refine RO.no rfl (by decide) rfl ?_ | refine RO.nil ?_ | refine DW.region ?_ | refine DW.seq ?_ | refine DW.block ?_ | refine DW.skip ?_ | refine DW.exit ?_ | refine DW.condT rfl ?_ | refine DW.condF rfl ?_))
          exact ⟨k + 1, ⟨hlt, no_succ hno fun _ => hgi⟩, by dsimp only; omega, Heap.sub_set _ hb11, (by repeat first | exact trivial | refine HasG.one rfl ?_ | refine HasN.one rfl ?_)⟩
        · rw [hg] at hgi
          rw [goesT_at (fun j hj h => hno j h hj) hlt hgi]
          (repeat (first | refine RO.Sv ?_ | refine RO.Yv ?_ | refine RO.no rfl (by decide) rfl ?_ | refine RO.nil ?_ | refine DW.region ?_ | refine DW.seq ?_ | refine DW.block ?_ | refine DW.skip ?_ | refine DW.exit ?_ | refine DW.condT rfl ?_ | refine DW.condF rfl ?_))
          exact DW.ret ⟨.inl rfl, _, rfl, (Over.refl _).set hb11, .same _⟩
  · have hge : k = l.length := by have := of_decide_eq_false hb; omega
    rw [goesT_not fun j hj => hno j (by omega) hj]
    (repeat (first | refine RO.Sv ?_ | refine RO.Yv ?_ | refine RO.no rfl (by decide) rfl ?_ | refine RO.nil ?_ | refine DW.region ?_ | refine DW.seq ?_ | refine DW.block ?_ | refine DW.skip ?_ | refine DW.exit ?_ | refine DW.condT rfl ?_ | refine DW.condF rfl ?_))
    exact DW.ret ⟨.inl rfl, _, rfl, Over.refl _, .same _⟩

end Go.Proofs.YtcdihmhmoddppaaGreat

namespace Go.Proofs.YtcdihmhmoddppaaGreat
open Go.RowKit
set_option linter.unusedVariables false
set_option linter.unusedSimpArgs false
set_option maxHeartbeats 8000000

/-- A term's cells. -/
abbrev tmCl (t : Tm) : List D := [I t.c, intsD t.e]

/-- The quotients, by what was told. -/
def qOf (r : Rg) (n : Nat) (σ : List (Nat × Tm)) : Vc := σ.foldl (fun q x => q.set x.1 (sumT r.p r.order (q.getD x.1 []) [x.2])) (List.replicate n [])

theorem qOf_snoc (r : Rg) (n : Nat) (σ : List (Nat × Tm)) (i : Nat) (t : Tm) : qOf r n (σ ++ [(i, t)]) = (qOf r n σ).set i (sumT r.p r.order ((qOf r n σ).getD i []) [t]) := by
  unfold qOf
  rw [List.foldl_append]
  rfl

/-- What a function does that is told of a division's steps: own are its blocks, R is what holds of memory behind these steps. -/
structure Told (r : Rg) (l : List Vc) (H0 : Heap) (own : Nat → Prop) (f : FuncId) (caps : List D) (R : List (Nat × Tm) → Heap → Prop) : Prop where
  owned : ∀ c, own c → H0 c ≠ none
  start : R [] H0
  stays : ∀ σ H H', R σ H → (∀ c, own c → H' c = H c) → R σ H'
  call : ∀ σ H i t, R σ H → (∀ c, own c → H c ≠ none) → i < l.length → TB 1 r.p r.n.toNat 8000 t → ME r.n.toNat t.e → CallD Tryz.prog H f (I (i : Nat) :: tmD t :: caps) fun d H' => R (σ ++ [(i, t)]) H' ∧ (∀ c, own c → H' c ≠ none) ∧ ∀ c z, H c = some z → ¬ own c → H' c = some z

def tmsD (v : Vc) : List (List D) := v.map fun f => f.map tmD

theorem tmsD_vc (v : Vc) : D.list 1 ((tmsD v).map (D.list 2)) = vcD v := by
  unfold tmsD vcD
  rw [List.map_map]
  rfl

structure LInv (r : Rg) (rank : Nat) (l : List Vc) (v : Vc) (H0 : Heap) (own : Nat → Prop) (R : List (Nat × Tm) → Heap → Prop) (bL : Nat) (s : DS) (σ : List (Nat × Tm)) (H : Heap) (ds : List D) : Prop where
  at_ : DAt r rank l v s
  rel : R σ H
  q : s.q = qOf r l.length σ
  owned : ∀ c, own c → H c ≠ none
  keep : ∀ c z, H0 c = some z → ¬ own c → H c = some z
  rows : RowsOk (fun c => H0 c ≠ none) H bL 31 50 2 (tmsD s.left) ds

theorem leftOne_pureH {H : Heap} (b at_ k : Nat) (f : Pl) (hH : H b = some (3, [I at_])) (hf : k = at_ → 0 < f.length) : PureH Tryz.prog H 87 [I k, plD f, .ptr b 0] (plD (if k = at_ then f.tail else f)) := by
  refine PureH.of_body Tryz.func87 rfl (by decide) (Nat.le_of_ble_eq_true rfl) fun w0 => ?_
  (repeat (first | refine RO.Sv ?_ | refine RO.Yv ?_ | refine RO.no rfl (by decide) rfl ?_ | refine RO.nil ?_ | refine DW.region ?_ | refine DW.seq ?_ | refine DW.block ?_ | refine DW.skip ?_ | refine DW.exit ?_ | refine DW.condT rfl ?_ | refine DW.condF rfl ?_))
  refine RO.sta (s_loadMut rfl hH rfl) rfl ?_
  (repeat (first | refine RO.Sv ?_ | refine RO.Yv ?_ | refine RO.no rfl (by decide) rfl ?_ | refine RO.nil ?_ | refine DW.region ?_ | refine DW.seq ?_ | refine DW.block ?_ | refine DW.skip ?_ | refine DW.exit ?_ | refine DW.condT rfl ?_ | refine DW.condF rfl ?_))
  by_cases hk : k = at_
  · have hl := hf hk
    rw [if_pos hk, show ((k : Int) == (at_ : Int)) = true by simp; omega]
    (repeat (first | refine RO.Sv ?_ | refine RO.Yv ?_ | refine RO.no rfl (by decide) rfl ?_ | refine RO.nil ?_ | refine DW.region ?_ | refine DW.seq ?_ | refine DW.block ?_ | refine DW.skip ?_ | refine DW.exit ?_ | refine DW.condT rfl ?_ | refine DW.condF rfl ?_))
    refine RO.sta (s_fromM rfl rfl (by omega) (by show (1 : Nat) ≤ f.length; omega)) rfl ?_
    (repeat (first | refine RO.Sv ?_ | refine RO.Yv ?_ | refine RO.no rfl (by decide) rfl ?_ | refine RO.nil ?_ | refine DW.region ?_ | refine DW.seq ?_ | refine DW.block ?_ | refine DW.skip ?_ | refine DW.exit ?_ | refine DW.condT rfl ?_ | refine DW.condF rfl ?_))
    rw [show f.tail = f.drop (Int.toNat 1) by simp]
    exact DW.ret ⟨.inl rfl, _, rfl, Over.refl _, .same _⟩
  · rw [if_neg hk, show ((k : Int) == (at_ : Int)) = false by simp; omega]
    (repeat (first | refine RO.Sv ?_ | refine RO.Yv ?_ | refine RO.no rfl (by decide) rfl ?_ | refine RO.nil ?_ | refine DW.region ?_ | refine DW.seq ?_ | refine DW.block ?_ | refine DW.skip ?_ | refine DW.exit ?_ | refine DW.condT rfl ?_ | refine DW.condF rfl ?_))
    exact DW.ret ⟨.inl rfl, _, rfl, Over.refl _, .same _⟩

theorem cellAt_dv {r : Rg} {l : List Vc} {i j : Nat} (h : i < l.length) : cellAt (l.map (dvD r)) i j = (dvC r l[i])[j]? := by
  unfold cellAt
  rw [List.getElem?_map, List.getElem?_eq_getElem h]
  rfl

theorem VB.by {r : Rg} {n : Nat} {B C : Int} {L : Nat} {v : Vc} {t : Tm} (hp : 1 < r.p) (hpr : Prm r.p) (hv : VB r n B L v) (ht : TB 0 r.p n C t) : VB r n (B + C) L (vbyT r v t) := fun f hf => by
  unfold vbyT at hf
  obtain ⟨g, hg, rfl⟩ := List.mem_map.1 hf
  obtain ⟨g1, g2⟩ := hv g hg
  exact ⟨byT_ok hp hpr g1 ht, Nat.le_trans (byT_length _ _ _) g2⟩

theorem Over.other {H : Heap} {b : Nat} {x : TypeId × List D} (hb : H b = Option.none) : Over H (H.set b x) := (Over.refl H).set hb

theorem left_call {r : Rg} {rank : Nat} {l : List Vc} {v : Vc} {H0 : Heap} {own : Nat → Prop} {f : FuncId} {caps : List D} {R : List (Nat × Tm) → Heap → Prop} (hl : DL r rank l) (hv : VIn r rank v) (ht : Told r l H0 own f caps R) :
    CallD Tryz.prog H0 52 [rgD r, vcD v, dvsD r l, .fn f caps] (fun d H' => d = vcD (divT r rank l v).left ∧ ∃ σ, qOf r l.length σ = (divT r rank l v).q ∧ R σ H' ∧ ∀ c, ¬ own c → H' c = H0 c) := by
  obtain ⟨hp, hn3, hn1, hpr, hck⟩ := hl.rg
  have hrk := hl.rank2
  have hll := hl.len
  have hd : ∀ d ∈ l, VD r r.n.toNat d := fun d hd => (hl.vecs d hd).vd hn3 hrk
  have hvl := hv.len
  refine CallD.of_body Tryz.func52 rfl (by decide) (Nat.le_of_ble_eq_true rfl) fun w0 => ?_
  (repeat (first | refine RO.Sv ?_ | refine RO.Yv ?_ | refine RO.no rfl (by decide) rfl ?_ | refine RO.nil ?_ | refine DW.region ?_ | refine DW.seq ?_ | refine DW.block ?_ | refine DW.skip ?_ | refine DW.exit ?_ | refine DW.condT rfl ?_ | refine DW.condF rfl ?_))
  refine RO.dyn rfl ((opD_call rfl rfl (nought_call v.length (by omega))).mono fun d H1 ⟨bL, hbL, hd1, hH⟩ => ?_)
  subst hd1; subst hH
  (repeat (first | refine RO.Sv ?_ | refine RO.Yv ?_ | refine RO.no rfl (by decide) rfl ?_ | refine RO.nil ?_ | refine DW.region ?_ | refine DW.seq ?_ | refine DW.block ?_ | refine DW.skip ?_ | refine DW.exit ?_ | refine DW.condT rfl ?_ | refine DW.condF rfl ?_))
  have hownL : ∀ c, own c → c ≠ bL := fun c hc e => ht.owned c hc (by rw [e]; exact hbL)
  refine DW.loopG (fun x : DS × List (Nat × Tm) × Heap × List D => LInv r rank l v H0 own R bL x.1 x.2.1 x.2.2.1 x.2.2.2) (fun x => [(1, vcD x.1.v), (2, dvsD r l), (3, .fn f caps), (4, .ipt 4 [rgD r] 0 0), (9, .ref bL 0 v.length 1)]) (fun x => x.2.2.1) (fun x => muT r x.1.v) (divInit rank l v, [], H0.set bL (31, List.replicate v.length .nil), List.replicate v.length .nil)
    ⟨.init hl hv, ht.stays _ _ _ ht.start (fun c hc => Heap.set_other _ _ (hownL c hc)), rfl, fun c hc => by dsimp only; rw [Heap.set_other _ _ (hownL c hc)]; exact ht.owned c hc, fun c z hc _ => Over.other hbL c z hc, by
      rw [show tmsD (divInit rank l v).left = List.replicate v.length [] by simp [tmsD, divInit, hvl]]
      exact .init (Heap.set_self _ _ _)⟩ (Heap.sub_refl _) (by repeat first | exact trivial | refine HasG.one rfl ?_ | refine HasN.one rfl ?_) fun ⟨s, σ, Hk, ds⟩ hi => ?_
  dsimp only at hi ⊢
  have hinv := hi.at_.inv
  have hvd := hinv.vd
  have hsl := hvd.len
  have hsv := hinv.vlen
  (repeat (first | refine RO.Sv ?_ | refine RO.Yv ?_ | refine RO.no rfl (by decide) rfl ?_ | refine RO.nil ?_ | refine DW.region ?_ | refine DW.seq ?_ | refine DW.block ?_ | refine DW.skip ?_ | refine DW.exit ?_ | refine DW.condT rfl ?_ | refine DW.condF rfl ?_))
  refine RO.sta (sta_call rfl rfl (vTop_pure r s.v (n := r.n.toNat) (B := 8000) (L := 512192024001) (by omega) (by omega) (by omega) hvd.vb _)) rfl ?_
  (repeat (first | refine RO.Sv ?_ | refine RO.Yv ?_ | refine RO.no rfl (by decide) rfl ?_ | refine RO.nil ?_ | refine DW.region ?_ | refine DW.seq ?_ | refine DW.block ?_ | refine DW.skip ?_ | refine DW.exit ?_ | refine DW.condT rfl ?_ | refine DW.condF rfl ?_))
  refine RO.dyn rfl (d_alloc fun b10 hb10 => ?_)
  (repeat (first | refine RO.Sv ?_ | refine RO.Yv ?_ | refine RO.no rfl (by decide) rfl ?_ | refine RO.nil ?_ | refine DW.region ?_ | refine DW.seq ?_ | refine DW.block ?_ | refine DW.skip ?_ | refine DW.exit ?_ | refine DW.condT rfl ?_ | refine DW.condF rfl ?_))
  refine RO.dyn rfl (d_alloc fun b11 hb11 => ?_)
  have hne : b10 ≠ b11 := fun e => by rw [← e, Heap.set_self] at hb11; cases hb11
  have hb11' : Hk b11 = none := Heap.none_of_set hne hb11
  (repeat (first | refine RO.Sv ?_ | refine RO.Yv ?_ | refine RO.no rfl (by decide) rfl ?_ | refine RO.nil ?_ | refine DW.region ?_ | refine DW.seq ?_ | refine DW.block ?_ | refine DW.skip ?_ | refine DW.exit ?_ | refine DW.condT rfl ?_ | refine DW.condF rfl ?_))
  refine RO.dyn rfl (d_store (k := 1) rfl rfl rfl (by rw [Heap.set_other _ _ hne, Heap.set_self]) (Nat.le_refl _) (by simp [cellsOf, D.isCell]) ?_)
  (repeat (first | refine RO.Sv ?_ | refine RO.Yv ?_ | refine RO.no rfl (by decide) rfl ?_ | refine RO.nil ?_ | refine DW.region ?_ | refine DW.seq ?_ | refine DW.block ?_ | refine DW.skip ?_ | refine DW.exit ?_ | refine DW.condT rfl ?_ | refine DW.condF rfl ?_))
  refine RO.dyn rfl (d_storeTm (tm := tmOf (topV r s.v)) rfl rfl (by rw [Heap.set_other _ _ hne.symm, Heap.set_self]) rfl ?_)
  refine RO.nil ?_
  refine DW.asH (fun H2 => H2 b10 = some (3, [I (atOf (topV r s.v))]) ∧ H2 b11 = some (50, tmCl (tmOf (topV r s.v))) ∧ Over Hk H2) ⟨by rw [Heap.set_other _ _ hne, Heap.set_self]; rfl, Heap.set_self _ _ _, (((Over.other hb10).set hb11').set hb10).set hb11'⟩ fun H2 ⟨g10, g11, gov⟩ => ?_
  have hown2 : ∀ c, own c → H2 c = Hk c := fun c hc => by
    cases hx : Hk c with
    | none => exact absurd hx (hi.owned c hc)
    | some z => exact gov c z hx
  have hrows := hi.rows.over gov
  have hR2 : R σ H2 := ht.stays _ _ _ hi.rel hown2
  have howned2 : ∀ c, own c → H2 c ≠ none := fun c hc => by rw [hown2 c hc]; exact hi.owned c hc
  have hkeep2 : ∀ c z, H0 c = some z → ¬ own c → H2 c = some z := fun c z hc hn => gov c z (hi.keep c z hc hn)
  have hD2 : ∀ c, H0 c ≠ none → H2 c ≠ none := fun c hc => by
    by_cases ho : own c
    · exact howned2 c ho
    · cases hx : H0 c with
      | none => exact absurd hx hc
      | some z => rw [hkeep2 c z hx ho]; simp
  have hlen := hrows.len
  have hlen2 : (tmsD s.left).length = rank := by simp [tmsD, hinv.llen]
  (repeat (first | refine RO.Sv ?_ | refine RO.Yv ?_ | refine RO.no rfl (by decide) rfl ?_ | refine RO.nil ?_ | refine DW.region ?_ | refine DW.seq ?_ | refine DW.block ?_ | refine DW.skip ?_ | refine DW.exit ?_ | refine DW.condT rfl ?_ | refine DW.condF rfl ?_))
  refine RO.sta (s_loadMut rfl g10 rfl) rfl ?_
  (repeat (first | refine RO.Sv ?_ | refine RO.Yv ?_ | refine RO.no rfl (by decide) rfl ?_ | refine RO.nil ?_ | refine DW.region ?_ | refine DW.seq ?_ | refine DW.block ?_ | refine DW.skip ?_ | refine DW.exit ?_ | refine DW.condT rfl ?_ | refine DW.condF rfl ?_))
  cases hx : topV r s.v with
  | none =>
    rw [hi.at_.done hx]
    (repeat (first | refine RO.Sv ?_ | refine RO.Yv ?_ | refine RO.no rfl (by decide) rfl ?_ | refine RO.nil ?_ | refine DW.region ?_ | refine DW.seq ?_ | refine DW.block ?_ | refine DW.skip ?_ | refine DW.exit ?_ | refine DW.condT rfl ?_ | refine DW.condF rfl ?_))
    refine DW.ret ⟨.inl rfl, _, vcD s.left, fun c => if H0 c ≠ none then H2 c else none, rfl, fun c z hc => ?_, ?_, rfl, σ, hi.q.symm, ?_, fun c hc => ?_⟩
    · dsimp only at hc
      split at hc
      · exact hc
      · cases hc
    · rw [← tmsD_vc]
      exact hrows.frz (by rw [hlen2]; exact hvl) (if_neg (by simpa using hbL)) fun b hb => if_neg hb
    · exact ht.stays _ _ _ hR2 fun c hc => if_pos (ht.owned c hc)
    · dsimp only
      split
      · rename_i h
        cases hz : H0 c with
        | none => exact absurd hz h
        | some z => exact hkeep2 c z hz hc
      · rename_i h
        cases hz : H0 c with
        | none => rfl
        | some z => exact absurd (by rw [hz]; simp) h
  | some x =>
    obtain ⟨a, u⟩ := x
    rw [hx] at g10 g11
    have hat : atOf (some (a, u)) = (a : Int) := rfl
    have hneg : decide ((a : Int) < 0) = false := decide_eq_false (by omega)
    have iv := topV_is hvd hx
    have ha := iv.lt
    rw [hat]
    rw [hat] at g10
    rw [hneg]
    (repeat (first | refine RO.Sv ?_ | refine RO.Yv ?_ | refine RO.no rfl (by decide) rfl ?_ | refine RO.nil ?_ | refine DW.region ?_ | refine DW.seq ?_ | refine DW.block ?_ | refine DW.skip ?_ | refine DW.exit ?_ | refine DW.condT rfl ?_ | refine DW.condF rfl ?_))
    refine RO.sta (s_loadMut rfl g10 rfl) rfl ?_
    refine RO.sta (s_loadMutAgg (ds := tmCl u) rfl g11 rfl rfl) rfl ?_
    refine RO.sta (sta_call rfl rfl (goes_pure r l a u (by omega) hd iv.me _)) rfl ?_
    (repeat (first | refine RO.Sv ?_ | refine RO.Yv ?_ | refine RO.no rfl (by decide) rfl ?_ | refine RO.nil ?_ | refine DW.region ?_ | refine DW.seq ?_ | refine DW.block ?_ | refine DW.skip ?_ | refine DW.exit ?_ | refine DW.condT rfl ?_ | refine DW.condF rfl ?_))
    have ha2 : a < ds.length := by rw [hlen, hlen2, ← hsv]; exact ha
    have ha3 : a < s.left.length := by rw [hinv.llen, ← hsv]; exact ha
    have ha4 : a < (tmsD s.left).length := by rw [hlen2, ← hsv]; exact ha
    have hbLk : Hk bL ≠ none := by rw [hi.rows.row]; simp
    have hL10 : b10 ≠ bL := fun e => hbLk (by rw [← e]; exact hb10)
    have hownN : ∀ c, own c → H0 c ≠ none := ht.owned
    have hbLn : ¬ own bL := fun h => ht.owned bL h hbL
    cases hg : goesT r l a u.e with
    | none =>
      obtain ⟨n1, n2⟩ := hi.at_.stepA hl hx hg
      obtain ⟨l1, l2⟩ := hinv.left a ha3
      have hlong := len_le8 l1 l2 hn3 (degB_range r (by omega)).2
      have hta : (tmsD s.left)[a] = s.left[a].map tmD := by simp [tmsD]
      (repeat (first | refine RO.Sv ?_ | refine RO.Yv ?_ | refine RO.no rfl (by decide) rfl ?_ | refine RO.nil ?_ | refine DW.region ?_ | refine DW.seq ?_ | refine DW.block ?_ | refine DW.skip ?_ | refine DW.exit ?_ | refine DW.condT rfl ?_ | refine DW.condF rfl ?_))
      have hHs : Over (Heap.set (fun _ => none) b10 (3, [I a])) H2 := fun c z hc => by
        by_cases h : c = b10
        · subst h; rw [Heap.set_self] at hc; rw [← hc]; exact g10
        · rw [Heap.set_other _ _ h] at hc; cases hc
      refine DW.drawX [0, 1, 2, 3, 4, 5, 6, 7] [0, 1] (Heap.set (fun _ => none) b10 (3, [I a])) Tryz.mixed (by kernel_rfl) hHs ?_
      (repeat (first | refine RX.A ?_ | refine RX.nil ?_))
      refine RX.fre hHs (fun H' hs => s_loadMut rfl (hs _ _ (Heap.set_self _ _ _)) rfl) rfl ?_
      (repeat (first | refine RX.A ?_ | refine RX.nil ?_))
      refine RX.sta rfl (r_loadMut rfl g10 rfl) rfl ?_
      refine RX.any (fun H' => s_indexRef (i := a) rfl rfl (by omega)) rfl ?_
      refine RX.sta rfl (r_loadMut (d := ds[a]) rfl hrows.row (by rw [show 0 + a * 1 = a by omega, List.getElem?_eq_getElem ha2])) rfl ?_
      refine RX.sta rfl (r_loadMutAgg (ds := tmCl u) rfl g11 rfl rfl) rfl ?_
      (repeat (first | refine RX.A ?_ | refine RX.nil ?_))
      refine RY.dyn rfl (d_append (H0 := butBlk H2 ds[a]) (l := (tmsD s.left)[a]) (xs := [tmD u]) rfl (hrows.acc ha2 ha4) (butBlk_over _ _) rfl (.inl rfl) (uni_tm [u]) (by rw [hta, List.length_map]; simp; omega) (by rw [hta, List.length_map]; simp; omega) fun d' H' q1 q2 q3 => ?_)
      have hov' : Over (Heap.set (fun _ => none) b10 (3, [I a])) H' := fun c z hc => by
        by_cases h : c = b10
        · subst h; exact q3 _ _ (hHs _ _ hc) fun hb => (hi.rows.blk ha2 hb).2.2 hb10
        · rw [Heap.set_other _ _ h] at hc; cases hc
      refine ⟨hov', ?_⟩
      have hHL : H' bL = some (31, ds) := q3 _ _ hrows.row fun hb => (hrows.blk ha2 hb).2.1 rfl
      refine RY.sta hov' (s_indexRef (i := a) rfl rfl (by omega)) rfl ?_
      refine RY.dyn rfl (d_store (k := 1) rfl rfl (by rw [q1.cell.1]; rfl) hHL (by rw [q1.cell.1]; show 0 + a * 1 + 1 ≤ ds.length; omega) (by rw [q1.cell.1]; intro z hz; rw [List.mem_singleton.1 hz]; exact q1.cell.2) ⟨hov'.set (by rw [Heap.set_other _ _ hL10.symm]), ?_⟩)
      refine RY.nil ?_
      have hset : setMany ds (0 + a * 1) (cellsOf d') = ds.set a d' := by rw [show 0 + a * 1 = a by omega]; exact setManyD ds a d' q1.cell.1 ha2
      rw [hset]
      have hrows2 := hrows.put hD2 ha2 q1 (fun b hb => by
        unfold butBlk at hb
        split at hb
        · exact .inr (by assumption)
        · exact .inl hb) q3
      have hpres : ∀ c z, H2 c = some z → c ≠ bL → ds[a].blk ≠ some c → (H'.set bL (31, ds.set a d')) c = some z := fun c z hc hne2 hbk => by rw [Heap.set_other _ _ hne2]; exact q3 c z hc hbk
      have hnb : ∀ c, H0 c ≠ none → ds[a].blk ≠ some c := fun c hc hb => (hrows.blk ha2 hb).1 hc
      have g10' : (H'.set bL (31, ds.set a d')) b10 = some (3, [I a]) := hpres _ _ g10 hL10 fun hb => (hi.rows.blk ha2 hb).2.2 hb10
      generalize hH3 : H'.set bL (31, ds.set a d') = H3 at *
      have hsa : (stepA s a u).left = s.left.set a (s.left[a] ++ [u]) := by
        unfold stepA
        rw [List.getD_eq_getElem?_getD, List.getD_eq_getElem?_getD, List.getElem?_eq_getElem ha3]; rfl
      have hva : (s.v.getD a []).tail = s.v[a].tail := by rw [List.getD_eq_getElem?_getD, List.getElem?_eq_getElem ha]; rfl
      have hown3 : ∀ c, own c → H3 c = H2 c := fun c hc => by
        cases hz : H2 c with
        | none => exact absurd hz (howned2 c hc)
        | some z => exact hpres c z hz (hownL c hc) (hnb c (ht.owned c hc))
      (repeat (first | refine RO.Sv ?_ | refine RO.Yv ?_ | refine RO.no rfl (by decide) rfl ?_ | refine RO.nil ?_ | refine DW.region ?_ | refine DW.seq ?_ | refine DW.block ?_ | refine DW.skip ?_ | refine DW.exit ?_ | refine DW.condT rfl ?_ | refine DW.condF rfl ?_))
      refine RO.sta (sta_call rfl rfl (vEach_pureH s.v (s.v.set a (s.v.getD a []).tail) (by omega) (by simp) fun H'' hov'' i h1 h2 => ?_)) rfl ?_
      · have := leftOne_pureH (H := H'') b10 a i s.v[i] (hov'' _ _ g10') (fun e => by
          obtain ⟨f', hf'⟩ := iv.at_
          subst e
          rw [hf']; simp)
        have he : (s.v.set a (s.v.getD a []).tail)[i] = if i = a then s.v[i].tail else s.v[i] := by
          rw [List.getElem_set]
          by_cases hia : i = a
          · subst hia; rw [if_pos rfl, if_pos rfl, hva]
          · rw [if_neg hia, if_neg fun e => hia e.symm]
        rw [he]
        exact this
      (repeat (first | refine RO.Sv ?_ | refine RO.Yv ?_ | refine RO.no rfl (by decide) rfl ?_ | refine RO.nil ?_ | refine DW.region ?_ | refine DW.seq ?_ | refine DW.block ?_ | refine DW.skip ?_ | refine DW.exit ?_ | refine DW.condT rfl ?_ | refine DW.condF rfl ?_))
      refine ⟨(stepA s a u, σ, H3, ds.set a d'), ⟨n1, ht.stays _ _ _ hR2 hown3, hi.q, fun c hc => by dsimp only; rw [hown3 c hc]; exact howned2 c hc, fun c z hc hn => hpres c z (hkeep2 c z hc hn) (fun e => by rw [e, hbL] at hc; cases hc) (hnb c (by rw [hc]; simp)), ?_⟩, n2, Heap.sub_refl _, (by repeat first | exact trivial | refine HasG.one rfl ?_ | refine HasN.one rfl ?_)⟩
      dsimp only
      rw [hsa, show tmsD (s.left.set a (s.left[a] ++ [u])) = (tmsD s.left).set a ((tmsD s.left)[a] ++ [tmD u]) by simp [tmsD, List.map_set]]
      exact hrows2
    | some i =>
      have hgi : goIdx (some i) = (i : Int) := rfl
      have hneg2 : decide ((i : Int) < 0) = false := decide_eq_false (by omega)
      rw [hgi, hneg2]
      obtain ⟨n1, n2, hil, w, htd, hgm, hby, tb, me⟩ := stepB_ok hl hi.at_.inv hx hg
      have hdi := hd _ (List.getElem_mem hil)
      have hdl := (hl.vecs _ (List.getElem_mem hil))
      have iw := topV_is hdi htd
      obtain ⟨fu, hfu⟩ := iv.at_
      obtain ⟨fw, hfw⟩ := iw.at_
      have tu : TB 1 r.p r.n.toNat 8000 u := (hvd.all a ha).all u (by rw [hfu]; simp)
      have tw : TB 1 r.p r.n.toNat 8000 w := (hdi.all a iw.lt).all w (by rw [hfw]; simp)
      have hu1 := tu.lo
      have hu2 := tu.hi
      have hw1 := tw.lo
      have hw2 := tw.hi
      have htr := turnP_in hp.1 w.c
      have hmul : 0 ≤ u.c * turnP r.p w.c ∧ u.c * turnP r.p w.c ≤ 101 * 101 := ⟨Int.mul_nonneg (by omega) htr.1, Int.mul_le_mul (by omega) (by omega) htr.1 (by omega)⟩
      have hdc : dvC r l[i] = [vcD l[i], I (a : Int), I w.c, intsD w.e] := by unfold dvC; rw [htd]; rfl
      have hload : ∀ (j : Nat) (d : D), [vcD l[i], I (a : Int), I w.c, intsD w.e][j]? = some d → cellAt (l.map (dvD r)) i j = some d := fun j d h => by rw [cellAt_dv hil, hdc]; exact h
      have hlen3 : u.e.length = w.e.length := by rw [iv.me.len, iw.me.len]
      (repeat (first | refine RO.Sv ?_ | refine RO.Yv ?_ | refine RO.no rfl (by decide) rfl ?_ | refine RO.nil ?_ | refine DW.region ?_ | refine DW.seq ?_ | refine DW.block ?_ | refine DW.skip ?_ | refine DW.exit ?_ | refine DW.condT rfl ?_ | refine DW.condF rfl ?_))
      refine DW.drawA 25 Tryz.mixed (by kernel_rfl) rfl rfl ?_
      dsimp only [List.take, List.drop]
      (repeat (first | refine RS.Sv ?_ | refine RS.Yv ?_ | refine RS.no rfl (by decide) rfl ?_ | refine RS.nil ?_))
      refine RS.sta (r_loadMut (d := I u.c) rfl g11 rfl) rfl ?_
      (repeat (first | refine RS.Sv ?_ | refine RS.Yv ?_ | refine RS.no rfl (by decide) rfl ?_ | refine RS.nil ?_))
      refine RS.sta (fun H' hov => s_load rfl (hload _ (I w.c) rfl)) rfl ?_
      refine RS.sta (fun H' hov => sta_call rfl rfl (turn_pure r.p w.c hp.1 hp.2 (by omega) hw2 _)) rfl ?_
      (repeat (first | refine RS.Sv ?_ | refine RS.Yv ?_ | refine RS.no rfl (by decide) rfl ?_ | refine RS.nil ?_))
      refine RS.sta (r_loadMut (d := intsD u.e) rfl g11 rfl) rfl ?_
      (repeat (first | refine RS.Sv ?_ | refine RS.Yv ?_ | refine RS.no rfl (by decide) rfl ?_ | refine RS.nil ?_))
      refine RS.sta (fun H' hov => s_load rfl (hload _ (intsD w.e) rfl)) rfl ?_
      refine RS.sta (fun H' hov => sta_call rfl rfl (Quotient_pure (tu.mok hn3 (by omega)) (tw.mok hn3 (by omega)) hlen3 _)) rfl ?_
      refine RS.sta (fun H' hov => s_buildT (out := [I (byOf r u w).c, intsD (byOf r u w).e]) rfl rfl) rfl ?_
      refine RS.nil ?_
      intro b13 hb13
      refine RO.dyn rfl (d_storeTm (tm := byOf r u w) rfl rfl (Heap.set_self _ _ _) rfl ?_)
      rw [Heap.set_set]
      have hown3 : ∀ c, own c → (H2.set b13 (50, tmCl (byOf r u w))) c = H2 c := fun c hc => Heap.set_other _ _ fun e => howned2 c hc (by rw [e]; exact hb13)
      have hn13 : ¬ own b13 := fun h => howned2 b13 h hb13
      (repeat (first | refine RO.Sv ?_ | refine RO.Yv ?_ | refine RO.no rfl (by decide) rfl ?_ | refine RO.nil ?_ | refine DW.region ?_ | refine DW.seq ?_ | refine DW.block ?_ | refine DW.skip ?_ | refine DW.exit ?_ | refine DW.condT rfl ?_ | refine DW.condF rfl ?_))
      refine RO.dyn rfl ((opD_call rfl rfl (ht.call σ _ i (byOf r u w) (ht.stays _ _ _ hR2 hown3) (fun c hc => by rw [hown3 c hc]; exact howned2 c hc) hil tb me)).mono fun dr H4 ⟨hR4, hown4, hfr4⟩ => ?_)
      have g13 : H4 b13 = some (50, tmCl (byOf r u w)) := hfr4 _ _ (Heap.set_self _ _ _) hn13
      have hpres : ∀ c z, H2 c = some z → ¬ own c → H4 c = some z := fun c z hc hn => hfr4 c z (Over.other hb13 c z hc) hn
      have tb1 := tb.lo
      have tb2 := tb.hi
      have tn := (negT_ok tb).zero
      (repeat (first | refine RO.Sv ?_ | refine RO.Yv ?_ | refine RO.no rfl (by decide) rfl ?_ | refine RO.nil ?_ | refine DW.region ?_ | refine DW.seq ?_ | refine DW.block ?_ | refine DW.skip ?_ | refine DW.exit ?_ | refine DW.condT rfl ?_ | refine DW.condF rfl ?_))
      refine DW.drawS 18 Tryz.mixed (by kernel_rfl) (by decide) ?_
      dsimp only [List.take, List.drop]
      (repeat (first | refine RS.Sv ?_ | refine RS.Yv ?_ | refine RS.no rfl (by decide) rfl ?_ | refine RS.nil ?_))
      refine RS.sta (fun H' hov => s_load rfl (hload _ (vcD l[i]) rfl)) rfl ?_
      (repeat (first | refine RS.Sv ?_ | refine RS.Yv ?_ | refine RS.no rfl (by decide) rfl ?_ | refine RS.nil ?_))
      refine RS.sta (r_loadMut (d := I (byOf r u w).c) rfl g13 rfl) rfl ?_
      (repeat (first | refine RS.Sv ?_ | refine RS.Yv ?_ | refine RS.no rfl (by decide) rfl ?_ | refine RS.nil ?_))
      refine RS.sta (r_loadMut (d := intsD (byOf r u w).e) rfl g13 rfl) rfl ?_
      refine RS.sta (fun H' hov => s_buildT (out := [I (negT r (byOf r u w)).c, intsD (negT r (byOf r u w)).e]) rfl rfl) rfl ?_
      refine RS.sta (fun H' hov => sta_call rfl rfl (vBy_pure r l[i] (negT r (byOf r u w)) (n := r.n.toNat) (B := 8000) (C := 8000) (L := 512192024001) hn3 (by omega) (by omega) hp (by have := hdi.len; omega) (by omega) hdi.vb tn _)) rfl ?_
      refine RS.sta (fun H' hov => sta_call rfl rfl (vSum_pure r s.v (vbyT r l[i] (negT r (byOf r u w))) (n := r.n.toNat) (B := 16000) (L := 512192024001) (M := 512192024001) hn3 (by omega) hp (by omega) (by rw [hsv]; simp [vbyT, hdl.len]) (by omega) (hvd.vb.mono (by omega) (Nat.le_refl _)) (VB.by (by omega) hpr hdi.vb tn) _)) rfl ?_
      refine RS.nil ?_
      have hvs : (stepB r l s u i).v = vsumT r s.v (vbyT r l[i] (negT r (byOf r u w))) := by
        unfold stepB
        rw [hby, List.getD_eq_getElem?_getD, List.getElem?_eq_getElem hil]; rfl
      have hqs : (stepB r l s u i).q = qOf r l.length (σ ++ [(i, byOf r u w)]) := by
        rw [qOf_snoc, ← hi.q]
        unfold stepB
        rw [hby]
      rw [← hvs]
      (repeat (first | refine RO.Sv ?_ | refine RO.Yv ?_ | refine RO.no rfl (by decide) rfl ?_ | refine RO.nil ?_ | refine DW.region ?_ | refine DW.seq ?_ | refine DW.block ?_ | refine DW.skip ?_ | refine DW.exit ?_ | refine DW.condT rfl ?_ | refine DW.condF rfl ?_))
      refine ⟨(stepB r l s u i, σ ++ [(i, byOf r u w)], H4, ds), ⟨(hi.at_.stepB hl hx hg).1, hR4, hqs, hown4, fun c z hc hn => hpres c z (hkeep2 c z hc hn) hn, ?_⟩, n2, Heap.sub_refl _, (by repeat first | exact trivial | refine HasG.one rfl ?_ | refine HasN.one rfl ?_)⟩
      exact hrows.frame fun c z hc hh => hpres c z hc (hh.elim (fun e => by rw [e]; exact hbLn) fun hn ho => hn (ht.owned c ho))

end Go.Proofs.YtcdihmhmoddppaaGreat

namespace Go.Proofs.YtcdihmhmoddppaaGreat
open Go.RowKit
set_option linter.unusedVariables false
set_option linter.unusedSimpArgs false
set_option maxHeartbeats 8000000

/-- What Normal answers. -/
def normE (r : Rg) (rank : Int) (v : Vc) (l : List Vc) : Bool × Int := if readyCk r rank v l ≠ 0 then (false, readyCk r rank v l) else (normalT r l v, 0)
def boolE (x : Bool × Int) : D := .tup [.bool x.1, I x.2]

end Go.Proofs.YtcdihmhmoddppaaGreat

namespace Go.Proofs.YtcdihmhmoddppaaGreat
open Go.RowKit
set_option linter.unusedVariables false
set_option linter.unusedSimpArgs false
set_option maxHeartbeats 8000000

instance : ElT Tryz.prog 32 1 [.nil] 24 := .of (z := .slice none 0 0) (by kernel_rfl) rfl rfl rfl (by decide)
instance : SizeT Tryz.prog 32 1 := .of (by kernel_rfl)

theorem set_map_pl (q : Vc) (i : Nat) (f : Pl) (h : i < q.length) : setMany (q.map plD) (0 + i * 1) (cellsOf (plD f)) = (q.set i f).map plD := by
  rw [show 0 + i * 1 = i by omega, setManyD _ _ _ rfl (by simpa using h), List.map_set]

/-- What Divide's function has written. -/
structure DvR (r : Rg) (n bv bq : Nat) (σ : List (Nat × Tm)) (H : Heap) : Prop where
  var : H bv = some (32, [.ref bq 0 n 1])
  row : H bq = some (31, (qOf r n σ).map plD)
  len : (qOf r n σ).length = n
  all : ∀ f ∈ qOf r n σ, PB 1 r.p r.order r.n.toNat 8000 f ∧ DB 8000 f

def divE (x : Vc × Vc × Int) : D := .tup [vcD x.1, vcD x.2.1, I x.2.2]

theorem vgreat_any (v : Vc) : vgreatT v = v.any greatT := rfl

end Go.Proofs.YtcdihmhmoddppaaGreat
