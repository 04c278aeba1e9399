/-
  The law of orders, walked. No condition.
-/
import Derived.Test.YtfjmdhemlfafbaaGreatKHc18
import Derived.Test.YtfjmdhemlfafbaaGreatKHc20
import Derived.Test.YtfjmdhemlfafbaaGreatKHc13
import Derived.Test.YtfjmdhemlfafbaaGreatKHc12
import Derived.Test.YtfjmdhemlfafbaaGreatKHc17
set_option linter.unusedVariables false
set_option linter.unusedSimpArgs false

namespace Go.Proofs.YtfjmdhemlfafbaaGreat
section
open Go.RowKit
set_option maxHeartbeats 8000000

structure ToldH (r : Rg) (k : Nat) (δ : Nat → Int) (l : List Vc) (τ C : Int) (H0 : Heap) (own : Nat → Prop) (f : FuncId) (caps : List D) (R : List (Nat × Tm) → Heap → Prop) : Prop where
 owned : ∀ c, own c → H0 c ≠ none
 start : R [] H0
 stays : ∀ σ H H', R σ H → (∀ c, own c → H' c = H c) → R σ H'
 call : ∀ σ H i t, R σ H → (∀ c, own c → H c ≠ none) → (∀ c z, H0 c = some z → ¬ own c → H c = some z) → (∀ x ∈ σ, SigOk r k δ l τ C x) → SigOk r k δ l τ C (i, t) → CallD Tryz.prog H f (I (i : Nat) :: tmD t :: caps) fun d H' => R (σ ++ [(i, t)]) H' ∧ (∀ c, own c → H' c ≠ none) ∧ ∀ c z, H c = some z → ¬ own c → H' c = some z

structure LInvH (r : Rg) (k : Nat) (δ : Nat → Int) (τ C : Int) (l : List Vc) (v : Vc) (H0 : Heap) (own : Nat → Prop) (R : List (Nat × Tm) → Heap → Prop) (bL : Nat) (s : HS) (H : Heap) (ds : List D) : Prop where
 at_ : HAt r k δ τ C l v s
 rel : R s.σ H
 owned : ∀ c, own c → H c ≠ none
 keep : ∀ c z, H0 c = some z → ¬ own c → H c = some z
 rows : RowsOk (fun c => H0 c ≠ none) H bL 57 55 2 (tmsD s.left) ds

theorem goesM_pure (r : Rg) (l : List Vc) (a : Nat) (t : Tm) {n : Nat} (hl : l.length ≤ 1000000000) (hv : ∀ v ∈ l, VM r n v) (ht : ME n t.e) : Pure Tryz.prog 99 [dvsD r l, I a, tmD t] (I (goIdx (goesT r l a t.e))) := by
 intro H
 have hn := ht.n3
 have htl := ht.len
 refine PureH.of_body Tryz.func99 rfl (by decide) (Nat.le_of_ble_eq_true rfl) fun w0 => ?_
 (repeat(first|refine zA ?_|refine zB ?_|refine zE rfl (by decide) rfl ?_|refine zF ?_|refine zG ?_|refine zH ?_|refine zI ?_|refine zJ ?_|refine zK ?_|refine zL rfl ?_|refine zM rfl ?_))
 refine DW.loopG (fun k : Nat => k ≤ l.length ∧ ∀ j, j < k → ∀ (hj : j < l.length), goesIn r a t.e l[j] = false) (fun k => [(1, I a), (5, .ipt 2 [tmD t] 0 0), (9, dvsD r l), (10, I l.length), (11, I k)]) (fun _ => H) (fun k => l.length - k) 0 ⟨Nat.zero_le _, fun j h => by omega⟩ (Heap.sub_refl _) (by repeat first | exact trivial | refine HasG.one rfl ?_ | refine HasN.one rfl ?_) fun k ⟨hk, hno⟩ => ?_
 (repeat(first|refine zA ?_|refine zB ?_|refine zE rfl (by decide) rfl ?_|refine zF ?_|refine zG ?_|refine zH ?_|refine zI ?_|refine zJ ?_|refine zK ?_|refine zL rfl ?_|refine zM rfl ?_))
 refine DW.cond rfl (fun hb => ?_) (fun hb => ?_)
 ·have hlt : k < l.length := by have := of_decide_eq_true hb; omega
  have hlk := hv _ (List.getElem_mem hlt)
  clear hb
  (repeat(first|refine zA ?_|refine zB ?_|refine zE rfl (by decide) rfl ?_|refine zF ?_|refine zG ?_|refine zH ?_|refine zI ?_|refine zJ ?_|refine zK ?_|refine zL rfl ?_|refine zM rfl ?_))
  refine RO.sta (s_loadAgg (ds := dvC r l[k]) rfl (by simp [hlt, dvD]) rfl) rfl ?_
  refine RO.dyn rfl (d_alloc fun b8 hb8 => ?_)
  (repeat(first|refine zA ?_|refine zB ?_|refine zE rfl (by decide) rfl ?_|refine zF ?_|refine zG ?_|refine zH ?_|refine zI ?_|refine zJ ?_|refine zK ?_|refine zL rfl ?_|refine zM rfl ?_))
  refine RO.dyn rfl (d_store (k := 4) rfl rfl rfl (Heap.set_self _ _ _) (Nat.le_refl _) (by simp [cellsOf, dvC, D.isCell, vcD, intsD]) ?_)
  rw [Heap.set_set]
  (repeat(first|refine zA ?_|refine zB ?_|refine zE rfl (by decide) rfl ?_|refine zF ?_|refine zG ?_|refine zH ?_|refine zI ?_|refine zJ ?_|refine zK ?_|refine zL rfl ?_|refine zM rfl ?_))
  cases hx : topV r l[k] with
  | none =>
   have hgi : goesIn r a t.e l[k] = false := by unfold goesIn; rw [hx]
   have hat : (atOf (none : Option (Nat × Tm)) == (a : Int)) = false := by simp [atOf]
   rw [hat]
   (repeat(first|refine zA ?_|refine zB ?_|refine zE rfl (by decide) rfl ?_|refine zF ?_|refine zG ?_|refine zH ?_|refine zI ?_|refine zJ ?_|refine zK ?_|refine zL rfl ?_|refine zM rfl ?_))
   exact ⟨k + 1, ⟨hlt, no_succ hno fun _ => hgi⟩, by dsimp only; omega, Heap.sub_set _ hb8, (by repeat first | exact trivial | refine HasG.one rfl ?_ | refine HasN.one rfl ?_)⟩
  | some x =>
   obtain ⟨b, w⟩ := x
   have iw := topV_isM hlk hx
   have hgi : goesIn r a t.e l[k] = (b == a && goesM t.e w.e) := by unfold goesIn; rw [hx]
   have hat : (atOf (some (b, w)) == (a : Int)) = (b == a) := by
    show ((b : Int) == (a : Int)) = (b == a)
    by_cases h : b = a
    ·subst h; simp
    ·rw [show (b == a) = false by simpa using h]; simp; omega
   rw [hat]
   cases hba : b == a
   ·rw [hba, Bool.false_and] at hgi
    (repeat(first|refine zA ?_|refine zB ?_|refine zE rfl (by decide) rfl ?_|refine zF ?_|refine zG ?_|refine zH ?_|refine zI ?_|refine zJ ?_|refine zK ?_|refine zL rfl ?_|refine zM rfl ?_))
    exact ⟨k + 1, ⟨hlt, no_succ hno fun _ => hgi⟩, by dsimp only; omega, Heap.sub_set _ hb8, (by repeat first | exact trivial | refine HasG.one rfl ?_ | refine HasN.one rfl ?_)⟩
   ·rw [hba, Bool.true_and] at hgi
    (repeat(first|refine zA ?_|refine zB ?_|refine zE rfl (by decide) rfl ?_|refine zF ?_|refine zG ?_|refine zH ?_|refine zI ?_|refine zJ ?_|refine zK ?_|refine zL rfl ?_|refine zM rfl ?_))
    have hwe : (tmOf (topV r l[k])).e = w.e := by rw [hx]; rfl
    refine RO.yes rfl rfl (OpD.of_sta (sta_call rfl rfl (Goes_pure (a := t.e) (b := (tmOf (topV r l[k])).e) (by rw [hwe, htl, iw.me.len]) (by omega) _)) ?_)
    rw [hwe]
    cases hg : goesM t.e w.e
    ·rw [hg] at hgi
     (repeat(first|refine zA ?_|refine zB ?_|refine zE rfl (by decide) rfl ?_|refine zF ?_|refine zG ?_|refine zH ?_|refine zI ?_|refine zJ ?_|refine zK ?_|refine zL rfl ?_|refine zM rfl ?_))
     exact ⟨k + 1, ⟨hlt, no_succ hno fun _ => hgi⟩, by dsimp only; omega, Heap.sub_set _ hb8, (by repeat first | exact trivial | refine HasG.one rfl ?_ | refine HasN.one rfl ?_)⟩
    ·rw [hg] at hgi
     rw [goesT_at (fun j hj h => hno j h hj) hlt hgi]
     (repeat(first|refine zA ?_|refine zB ?_|refine zE rfl (by decide) rfl ?_|refine zF ?_|refine zG ?_|refine zH ?_|refine zI ?_|refine zJ ?_|refine zK ?_|refine zL rfl ?_|refine zM rfl ?_))
     exact DW.ret ⟨.inl rfl, _, rfl, (Over.refl _).set hb8, .same _⟩
 ·have hge : k = l.length := by have := of_decide_eq_false hb; omega
  rw [goesT_not fun j hj => hno j (by omega) hj]
  (repeat(first|refine zA ?_|refine zB ?_|refine zE rfl (by decide) rfl ?_|refine zF ?_|refine zG ?_|refine zH ?_|refine zI ?_|refine zJ ?_|refine zK ?_|refine zL rfl ?_|refine zM rfl ?_))
  exact DW.ret ⟨.inl rfl, _, rfl, Over.refl _, .same _⟩

theorem dvOfM_pure (r : Rg) (v : Vc) {n : Nat} (hv : VM r n v) (hvb : VB r n 8000 512192024001 v) : Pure Tryz.prog 64 [rgD r, vcD v] (dvD r v) := by
 intro H
 have hvl := hv.len
 have hn := hv.n3
 refine PureH.of_bodyCell (r := 4) (t := 66) (T0 := 66) (cells := dvC r v) Tryz.func64 rfl (by decide) (Nat.le_of_ble_eq_true rfl) rfl fun w0 => ?_
 (repeat(first|refine zA ?_|refine zB ?_|refine zE rfl (by decide) rfl ?_|refine zF ?_|refine zG ?_|refine zH ?_|refine zI ?_|refine zJ ?_|refine zK ?_|refine zL rfl ?_|refine zM rfl ?_))
 refine RO.dyn rfl (d_alloc fun b4 hb4 => ?_)
 (repeat(first|refine zA ?_|refine zB ?_|refine zE rfl (by decide) rfl ?_|refine zF ?_|refine zG ?_|refine zH ?_|refine zI ?_|refine zJ ?_|refine zK ?_|refine zL rfl ?_|refine zM rfl ?_))
 refine RO.sta (sta_call rfl rfl (vTop_pure r v (n := n) (B := 8000) (L := 512192024001) (by omega) (by omega) (by omega) hvb _)) rfl ?_
 (repeat(first|refine zA ?_|refine zB ?_|refine zE rfl (by decide) rfl ?_|refine zF ?_|refine zG ?_|refine zH ?_|refine zI ?_|refine zJ ?_|refine zK ?_|refine zL rfl ?_|refine zM rfl ?_))
 refine RO.dyn rfl (d_alloc fun b6 hb6 => ?_)
 have hne : b4 ≠ b6 := fun e => by rw [← e, Heap.set_self] at hb6; cases hb6
 (repeat(first|refine zA ?_|refine zB ?_|refine zE rfl (by decide) rfl ?_|refine zF ?_|refine zG ?_|refine zH ?_|refine zI ?_|refine zJ ?_|refine zK ?_|refine zL rfl ?_|refine zM rfl ?_))
 refine RO.dyn rfl (d_storeTm (tm := tmOf (topV r v)) rfl rfl (Heap.set_self _ _ _) rfl ?_)
 rw [Heap.set_set]
 (repeat(first|refine zA ?_|refine zB ?_|refine zE rfl (by decide) rfl ?_|refine zF ?_|refine zG ?_|refine zH ?_|refine zI ?_|refine zJ ?_|refine zK ?_|refine zL rfl ?_|refine zM rfl ?_))
 refine RO.sta (s_buildT (out := dvC r v) rfl rfl) rfl ?_
 refine RO.dyn rfl (d_store (k := 4) rfl rfl rfl (by rw [Heap.set_other _ _ hne, Heap.set_self]) (Nat.le_refl _) (by simp [cellsOf, dvC, D.isCell, vcD, intsD]) ?_)
 (repeat(first|refine zA ?_|refine zB ?_|refine zE rfl (by decide) rfl ?_|refine zF ?_|refine zG ?_|refine zH ?_|refine zI ?_|refine zJ ?_|refine zK ?_|refine zL rfl ?_|refine zM rfl ?_))
 refine DW.ret ⟨.inl rfl, b4, rfl, Heap.set_self _ _ _, ?_, hb4⟩
 exact (((Over.refl H).set hb4).set (Heap.none_of_set hne hb6)).set hb4

theorem leftH_call {r : Rg} {k : Nat} {δ : Nat → Int} {τ C : Int} {l : List Vc} {v : Vc} {H0 : Heap} {own : Nat → Prop} {f : FuncId} {caps : List D} {R : List (Nat × Tm) → Heap → Prop} (hl : HL r k δ l) (hll : l.length ≤ 1000000000) (hv : HV r k δ τ v) (hC : ∀ (j : Nat) (h : j < v.length), ∀ t ∈ v[j], code2 r j t.e ≤ C) (ht : ToldH r k δ l τ C H0 own f caps R) :
  CallD Tryz.prog H0 85 [rgD r, vcD v, dvsD r l, .fn f caps] (fun d H' => d = vcD (hdiv r k l v).left ∧ R (hdiv r k l v).σ H' ∧ ∀ c, ¬ own c → H' c = H0 c) := by
 obtain ⟨hp, hn3, hn1, hpr, hck⟩ := hl.cx.rg
 have hrk := hl.cx.k40
 have hd : ∀ d ∈ l, VM r r.n.toNat d := fun d hd => let ⟨_, h⟩ := hl.hv d hd; h.vm hl.cx
 have hvl := hv.len
 refine CallD.of_body Tryz.func85 rfl (by decide) (Nat.le_of_ble_eq_true rfl) fun w0 => ?_
 (repeat(first|refine zA ?_|refine zB ?_|refine zE rfl (by decide) rfl ?_|refine zF ?_|refine zG ?_|refine zH ?_|refine zI ?_|refine zJ ?_|refine zK ?_|refine zL rfl ?_|refine zM rfl ?_))
 refine RO.dyn rfl ((opD_call rfl rfl (nought_call v.length (by omega))).mono fun d H1 ⟨bL, hbL, hd1, hH⟩ => ?_)
 subst hd1; subst hH
 (repeat(first|refine zA ?_|refine zB ?_|refine zE rfl (by decide) rfl ?_|refine zF ?_|refine zG ?_|refine zH ?_|refine zI ?_|refine zJ ?_|refine zK ?_|refine zL rfl ?_|refine zM rfl ?_))
 have hownL : ∀ c, own c → c ≠ bL := fun c hc e => ht.owned c hc (by rw [e]; exact hbL)
 refine DW.loopG (fun x : HS × Heap × List D => LInvH r k δ τ C l v H0 own R bL x.1 x.2.1 x.2.2) (fun x => [(1, vcD x.1.v), (2, dvsD r l), (3, .fn f caps), (4, .ipt 4 [rgD r] 0 0), (9, .ref bL 0 v.length 1)]) (fun x => x.2.1) (fun x => muT r x.1.v) (hinit k v, H0.set bL (57, List.replicate v.length .nil), List.replicate v.length .nil)
  ⟨.init hv hC, ht.stays _ _ _ ht.start (fun c hc => Heap.set_other _ _ (hownL c hc)), fun c hc => by dsimp only; rw [Heap.set_other _ _ (hownL c hc)]; exact ht.owned c hc, fun c z hc _ => Over.other hbL c z hc, by
   rw [show tmsD (hinit k v).left = List.replicate v.length [] by simp [tmsD, hinit, hvl]]
   exact .init (Heap.set_self _ _ _)⟩ (Heap.sub_refl _) (by repeat first | exact trivial | refine HasG.one rfl ?_ | refine HasN.one rfl ?_) fun ⟨s, Hk, ds⟩ hi => ?_
 dsimp only at hi ⊢
 have hinv := hi.at_.inv
 have hvd := hinv.v.vm hl.cx
 have hlm := hinv.left.vm hl.cx
 have hsl := hvd.len
 have hsv := hinv.v.len
 have hvb := hinv.v.vb hl.cx
 have hlb := hinv.left.vb hl.cx
 (repeat(first|refine zA ?_|refine zB ?_|refine zE rfl (by decide) rfl ?_|refine zF ?_|refine zG ?_|refine zH ?_|refine zI ?_|refine zJ ?_|refine zK ?_|refine zL rfl ?_|refine zM rfl ?_))
 refine RO.sta (sta_call rfl rfl (vTop_pure r s.v (n := r.n.toNat) (B := 8000) (L := 512192024001) (by omega) (by omega) (by omega) hvb _)) rfl ?_
 (repeat(first|refine zA ?_|refine zB ?_|refine zE rfl (by decide) rfl ?_|refine zF ?_|refine zG ?_|refine zH ?_|refine zI ?_|refine zJ ?_|refine zK ?_|refine zL rfl ?_|refine zM rfl ?_))
 refine RO.dyn rfl (d_alloc fun b10 hb10 => ?_)
 (repeat(first|refine zA ?_|refine zB ?_|refine zE rfl (by decide) rfl ?_|refine zF ?_|refine zG ?_|refine zH ?_|refine zI ?_|refine zJ ?_|refine zK ?_|refine zL rfl ?_|refine zM rfl ?_))
 refine RO.dyn rfl (d_alloc fun b11 hb11 => ?_)
 have hne : b10 ≠ b11 := fun e => by rw [← e, Heap.set_self] at hb11; cases hb11
 have hb11' : Hk b11 = none := Heap.none_of_set hne hb11
 (repeat(first|refine zA ?_|refine zB ?_|refine zE rfl (by decide) rfl ?_|refine zF ?_|refine zG ?_|refine zH ?_|refine zI ?_|refine zJ ?_|refine zK ?_|refine zL rfl ?_|refine zM rfl ?_))
 refine RO.dyn rfl (d_store (k := 1) rfl rfl rfl (by rw [Heap.set_other _ _ hne, Heap.set_self]) (Nat.le_refl _) (by simp [cellsOf, D.isCell]) ?_)
 (repeat(first|refine zA ?_|refine zB ?_|refine zE rfl (by decide) rfl ?_|refine zF ?_|refine zG ?_|refine zH ?_|refine zI ?_|refine zJ ?_|refine zK ?_|refine zL rfl ?_|refine zM rfl ?_))
 refine RO.dyn rfl (d_storeTm (tm := tmOf (topV r s.v)) rfl rfl (by rw [Heap.set_other _ _ hne.symm, Heap.set_self]) rfl ?_)
 refine RO.nil ?_
 refine DW.asH (fun H2 => H2 b10 = some (3, [I (atOf (topV r s.v))]) ∧ H2 b11 = some (55, tmCl (tmOf (topV r s.v))) ∧ Over Hk H2) ⟨by rw [Heap.set_other _ _ hne, Heap.set_self]; rfl, Heap.set_self _ _ _, (((Over.other hb10).set hb11').set hb10).set hb11'⟩ fun H2 ⟨g10, g11, gov⟩ => ?_
 have hown2 : ∀ c, own c → H2 c = Hk c := fun c hc => by
  cases hx : Hk c with
  | none => exact absurd hx (hi.owned c hc)
  | some z => exact gov c z hx
 have hrows := hi.rows.over gov
 have hR2 : R s.σ H2 := ht.stays _ _ _ hi.rel hown2
 have howned2 : ∀ c, own c → H2 c ≠ none := fun c hc => by rw [hown2 c hc]; exact hi.owned c hc
 have hkeep2 : ∀ c z, H0 c = some z → ¬ own c → H2 c = some z := fun c z hc hn => gov c z (hi.keep c z hc hn)
 have hD2 : ∀ c, H0 c ≠ none → H2 c ≠ none := fun c hc => by
  by_cases ho : own c
  ·exact howned2 c ho
  ·cases hx : H0 c with
   | none => exact absurd hx hc
   | some z => rw [hkeep2 c z hx ho]; simp
 have hlen := hrows.len
 have hlen2 : (tmsD s.left).length = k := by simp [tmsD, hinv.left.len]
 (repeat(first|refine zA ?_|refine zB ?_|refine zE rfl (by decide) rfl ?_|refine zF ?_|refine zG ?_|refine zH ?_|refine zI ?_|refine zJ ?_|refine zK ?_|refine zL rfl ?_|refine zM rfl ?_))
 refine RO.sta (s_loadMut rfl g10 rfl) rfl ?_
 (repeat(first|refine zA ?_|refine zB ?_|refine zE rfl (by decide) rfl ?_|refine zF ?_|refine zG ?_|refine zH ?_|refine zI ?_|refine zJ ?_|refine zK ?_|refine zL rfl ?_|refine zM rfl ?_))
 cases hx : topV r s.v with
 | none =>
  rw [hi.at_.done hx]
  (repeat(first|refine zA ?_|refine zB ?_|refine zE rfl (by decide) rfl ?_|refine zF ?_|refine zG ?_|refine zH ?_|refine zI ?_|refine zJ ?_|refine zK ?_|refine zL rfl ?_|refine zM rfl ?_))
  refine DW.ret ⟨.inl rfl, _, vcD s.left, fun c => if H0 c ≠ none then H2 c else none, rfl, fun c z hc => ?_, ?_, rfl, ?_, fun c hc => ?_⟩
  ·dsimp only at hc
   split at hc
   ·exact hc
   ·cases hc
  ·rw [← tmsD_vc]
   exact hrows.frz (by rw [hlen2]; exact hvl) (if_neg (by simpa using hbL)) fun b hb => if_neg hb
  ·exact ht.stays _ _ _ hR2 fun c hc => if_pos (ht.owned c hc)
  ·dsimp only
   split
   ·rename_i h
    cases hz : H0 c with
    | none => exact absurd hz h
    | some z => exact hkeep2 c z hz hc
   ·rename_i h
    cases hz : H0 c with
    | none => rfl
    | some z => exact absurd (by rw [hz]; simp) h
 | some x =>
  obtain ⟨a, u⟩ := x
  rw [hx] at g10 g11
  have hat : atOf (some (a, u)) = (a : Int) := rfl
  have hneg : decide ((a : Int) < 0) = false := decide_eq_false (by omega)
  have iv := topV_isM hvd hx
  have ha := iv.lt
  rw [hat]
  rw [hat] at g10
  rw [hneg]
  (repeat(first|refine zA ?_|refine zB ?_|refine zE rfl (by decide) rfl ?_|refine zF ?_|refine zG ?_|refine zH ?_|refine zI ?_|refine zJ ?_|refine zK ?_|refine zL rfl ?_|refine zM rfl ?_))
  refine RO.sta (s_loadMut rfl g10 rfl) rfl ?_
  refine RO.sta (s_loadMutAgg (ds := tmCl u) rfl g11 rfl rfl) rfl ?_
  refine RO.sta (sta_call rfl rfl (goesM_pure r l a u (by omega) hd iv.me _)) rfl ?_
  (repeat(first|refine zA ?_|refine zB ?_|refine zE rfl (by decide) rfl ?_|refine zF ?_|refine zG ?_|refine zH ?_|refine zI ?_|refine zJ ?_|refine zK ?_|refine zL rfl ?_|refine zM rfl ?_))
  have ha2 : a < ds.length := by rw [hlen, hlen2, ← hsv]; exact ha
  have ha3 : a < s.left.length := by rw [hinv.left.len, ← hsv]; exact ha
  have ha4 : a < (tmsD s.left).length := by rw [hlen2, ← hsv]; exact ha
  have hbLk : Hk bL ≠ none := by rw [hi.rows.row]; simp
  have hL10 : b10 ≠ bL := fun e => hbLk (by rw [← e]; exact hb10)
  have hownN : ∀ c, own c → H0 c ≠ none := ht.owned
  have hbLn : ¬ own bL := fun h => ht.owned bL h hbL
  cases hg : goesT r l a u.e with
  | none =>
   obtain ⟨n1, n2⟩ := hi.at_.stepA hl hx hg
   have hlong := (hlb _ (List.getElem_mem ha3)).2
   have hta : (tmsD s.left)[a] = s.left[a].map tmD := by simp [tmsD]
   (repeat(first|refine zA ?_|refine zB ?_|refine zE rfl (by decide) rfl ?_|refine zF ?_|refine zG ?_|refine zH ?_|refine zI ?_|refine zJ ?_|refine zK ?_|refine zL rfl ?_|refine zM rfl ?_))
   have hHs : Over (Heap.set (fun _ => none) b10 (3, [I a])) H2 := fun c z hc => by
    by_cases h : c = b10
    ·subst h; rw [Heap.set_self] at hc; rw [← hc]; exact g10
    ·rw [Heap.set_other _ _ h] at hc; cases hc
   refine DW.drawX [0, 1, 2, 3, 4, 5, 6, 7] [0, 1] (Heap.set (fun _ => none) b10 (3, [I a])) Tryz.mixed (by kernel_rfl) hHs ?_
   (repeat(first|refine RX.A ?_|refine RX.nil ?_))
   refine RX.fre hHs (fun H' hs => s_loadMut rfl (hs _ _ (Heap.set_self _ _ _)) rfl) rfl ?_
   (repeat(first|refine RX.A ?_|refine RX.nil ?_))
   refine RX.sta rfl (r_loadMut rfl g10 rfl) rfl ?_
   refine RX.any (fun H' => s_indexRef (i := a) rfl rfl (by omega)) rfl ?_
   refine RX.sta rfl (r_loadMut (d := ds[a]) rfl hrows.row (by rw [show 0 + a * 1 = a by omega, List.getElem?_eq_getElem ha2])) rfl ?_
   refine RX.sta rfl (r_loadMutAgg (ds := tmCl u) rfl g11 rfl rfl) rfl ?_
   (repeat(first|refine RX.A ?_|refine RX.nil ?_))
   refine RY.dyn rfl (d_append (H0 := butBlk H2 ds[a]) (l := (tmsD s.left)[a]) (xs := [tmD u]) rfl (hrows.acc ha2 ha4) (butBlk_over _ _) rfl (.inl rfl) (uni_tm [u]) (by rw [hta, List.length_map]; simp; omega) (by rw [hta, List.length_map]; simp; omega) fun d' H' q1 q2 q3 => ?_)
   have hov' : Over (Heap.set (fun _ => none) b10 (3, [I a])) H' := fun c z hc => by
    by_cases h : c = b10
    ·subst h; exact q3 _ _ (hHs _ _ hc) fun hb => (hi.rows.blk ha2 hb).2.2 hb10
    ·rw [Heap.set_other _ _ h] at hc; cases hc
   refine ⟨hov', ?_⟩
   have hHL : H' bL = some (57, ds) := q3 _ _ hrows.row fun hb => (hrows.blk ha2 hb).2.1 rfl
   refine RY.sta hov' (s_indexRef (i := a) rfl rfl (by omega)) rfl ?_
   refine RY.dyn rfl (d_store (k := 1) rfl rfl (by rw [q1.cell.1]; rfl) hHL (by rw [q1.cell.1]; show 0 + a * 1 + 1 ≤ ds.length; omega) (by rw [q1.cell.1]; intro z hz; rw [List.mem_singleton.1 hz]; exact q1.cell.2) ⟨hov'.set (by rw [Heap.set_other _ _ hL10.symm]), ?_⟩)
   refine RY.nil ?_
   have hset : setMany ds (0 + a * 1) (cellsOf d') = ds.set a d' := by rw [show 0 + a * 1 = a by omega]; exact setManyD ds a d' q1.cell.1 ha2
   rw [hset]
   have hrows2 := hrows.put hD2 ha2 q1 (fun b hb => by
    unfold butBlk at hb
    split at hb
    ·exact .inr (by assumption)
    ·exact .inl hb) q3
   have hpres : ∀ c z, H2 c = some z → c ≠ bL → ds[a].blk ≠ some c → (H'.set bL (57, ds.set a d')) c = some z := fun c z hc hne2 hbk => by rw [Heap.set_other _ _ hne2]; exact q3 c z hc hbk
   have hnb : ∀ c, H0 c ≠ none → ds[a].blk ≠ some c := fun c hc hb => (hrows.blk ha2 hb).1 hc
   have g10' : (H'.set bL (57, ds.set a d')) b10 = some (3, [I a]) := hpres _ _ g10 hL10 fun hb => (hi.rows.blk ha2 hb).2.2 hb10
   generalize hH3 : H'.set bL (57, ds.set a d') = H3 at *
   have hsa : (hstepA s a u).left = s.left.set a (s.left[a] ++ [u]) := by
    unfold hstepA
    rw [List.getD_eq_getElem?_getD, List.getD_eq_getElem?_getD, List.getElem?_eq_getElem ha3]; rfl
   have hva : (s.v.getD a []).tail = s.v[a].tail := by rw [List.getD_eq_getElem?_getD, List.getElem?_eq_getElem ha]; rfl
   have hown3 : ∀ c, own c → H3 c = H2 c := fun c hc => by
    cases hz : H2 c with
    | none => exact absurd hz (howned2 c hc)
    | some z => exact hpres c z hz (hownL c hc) (hnb c (ht.owned c hc))
   (repeat(first|refine zA ?_|refine zB ?_|refine zE rfl (by decide) rfl ?_|refine zF ?_|refine zG ?_|refine zH ?_|refine zI ?_|refine zJ ?_|refine zK ?_|refine zL rfl ?_|refine zM rfl ?_))
   refine RO.sta (sta_call rfl rfl (vEach_pureH s.v (s.v.set a (s.v.getD a []).tail) (by omega) (by simp) fun H'' hov'' i h1 h2 => ?_)) rfl ?_
   ·have := leftOne_pureH (H := H'') b10 a i s.v[i] (hov'' _ _ g10') (fun e => by
     obtain ⟨f', hf'⟩ := iv.at_
     subst e
     rw [hf']; simp)
    have he : (s.v.set a (s.v.getD a []).tail)[i] = if i = a then s.v[i].tail else s.v[i] := by
     rw [List.getElem_set]
     by_cases hia : i = a
     ·subst hia; rw [if_pos rfl, if_pos rfl, hva]
     ·rw [if_neg hia, if_neg fun e => hia e.symm]
    rw [he]
    exact this
   (repeat(first|refine zA ?_|refine zB ?_|refine zE rfl (by decide) rfl ?_|refine zF ?_|refine zG ?_|refine zH ?_|refine zI ?_|refine zJ ?_|refine zK ?_|refine zL rfl ?_|refine zM rfl ?_))
   refine ⟨(hstepA s a u, H3, ds.set a d'), ⟨n1, ht.stays _ _ _ hR2 hown3, fun c hc => by dsimp only; rw [hown3 c hc]; exact howned2 c hc, fun c z hc hn => hpres c z (hkeep2 c z hc hn) (fun e => by rw [e, hbL] at hc; cases hc) (hnb c (by rw [hc]; simp)), ?_⟩, n2, Heap.sub_refl _, (by repeat first | exact trivial | refine HasG.one rfl ?_ | refine HasN.one rfl ?_)⟩
   dsimp only
   rw [hsa, show tmsD (s.left.set a (s.left[a] ++ [u])) = (tmsD s.left).set a ((tmsD s.left)[a] ++ [tmD u]) by simp [tmsD, List.map_set]]
   exact hrows2
  | some i =>
   have hgi : goIdx (some i) = (i : Int) := rfl
   have hneg2 : decide ((i : Int) < 0) = false := decide_eq_false (by omega)
   rw [hgi, hneg2]
   obtain ⟨n1, n2, hil, w, τd, hdv, htd, hgm, hby, tb, me, hso⟩ := hi.at_.inv.stepB hl hx hg
   have hdi := hd _ (List.getElem_mem hil)
   have hdl := hdv.len
   have hdb := hdv.vb hl.cx
   have iw := topV_isM hdi htd
   obtain ⟨fu, hfu⟩ := iv.at_
   obtain ⟨fw, hfw⟩ := iw.at_
   have tu : TB 1 r.p r.n.toNat 8000 u := (hvd.all a ha).all u (by rw [hfu]; simp)
   have tw : TB 1 r.p r.n.toNat 8000 w := (hdi.all a iw.lt).all w (by rw [hfw]; simp)
   have hu1 := tu.lo
   have hu2 := tu.hi
   have hw1 := tw.lo
   have hw2 := tw.hi
   have htr := turnP_in hp.1 w.c
   have hmul : 0 ≤ u.c * turnP r.p w.c ∧ u.c * turnP r.p w.c ≤ 101 * 101 := ⟨Int.mul_nonneg (by omega) htr.1, Int.mul_le_mul (by omega) (by omega) htr.1 (by omega)⟩
   have hdc : dvC r l[i] = [vcD l[i], I (a : Int), I w.c, intsD w.e] := by unfold dvC; rw [htd]; rfl
   have hload : ∀ (j : Nat) (d : D), [vcD l[i], I (a : Int), I w.c, intsD w.e][j]? = some d → cellAt (l.map (dvD r)) i j = some d := fun j d h => by rw [cellAt_dv hil, hdc]; exact h
   have hlen3 : u.e.length = w.e.length := by rw [iv.me.len, iw.me.len]
   (repeat(first|refine zA ?_|refine zB ?_|refine zE rfl (by decide) rfl ?_|refine zF ?_|refine zG ?_|refine zH ?_|refine zI ?_|refine zJ ?_|refine zK ?_|refine zL rfl ?_|refine zM rfl ?_))
   refine DW.drawA 25 Tryz.mixed (by kernel_rfl) rfl rfl ?_
   dsimp only [List.take, List.drop]
   (repeat(first|refine zN ?_|refine zO ?_|refine zR rfl (by decide) rfl ?_|refine zS ?_))
   refine RS.sta (r_loadMut (d := I u.c) rfl g11 rfl) rfl ?_
   (repeat(first|refine zN ?_|refine zO ?_|refine zR rfl (by decide) rfl ?_|refine zS ?_))
   refine RS.sta (fun H' hov => s_load rfl (hload _ (I w.c) rfl)) rfl ?_
   refine RS.sta (fun H' hov => sta_call rfl rfl (turn_pure r.p w.c hp.1 hp.2 (by omega) hw2 _)) rfl ?_
   (repeat(first|refine zN ?_|refine zO ?_|refine zR rfl (by decide) rfl ?_|refine zS ?_))
   refine RS.sta (r_loadMut (d := intsD u.e) rfl g11 rfl) rfl ?_
   (repeat(first|refine zN ?_|refine zO ?_|refine zR rfl (by decide) rfl ?_|refine zS ?_))
   refine RS.sta (fun H' hov => s_load rfl (hload _ (intsD w.e) rfl)) rfl ?_
   refine RS.sta (fun H' hov => sta_call rfl rfl (Quotient_pure (tu.mok hn3 (by omega)) (tw.mok hn3 (by omega)) hlen3 _)) rfl ?_
   refine RS.sta (fun H' hov => s_buildT (out := [I (byOf r u w).c, intsD (byOf r u w).e]) rfl rfl) rfl ?_
   refine RS.nil ?_
   intro b13 hb13
   refine RO.dyn rfl (d_storeTm (tm := byOf r u w) rfl rfl (Heap.set_self _ _ _) rfl ?_)
   rw [Heap.set_set]
   have hown3 : ∀ c, own c → (H2.set b13 (55, tmCl (byOf r u w))) c = H2 c := fun c hc => Heap.set_other _ _ fun e => howned2 c hc (by rw [e]; exact hb13)
   have hn13 : ¬ own b13 := fun h => howned2 b13 h hb13
   (repeat(first|refine zA ?_|refine zB ?_|refine zE rfl (by decide) rfl ?_|refine zF ?_|refine zG ?_|refine zH ?_|refine zI ?_|refine zJ ?_|refine zK ?_|refine zL rfl ?_|refine zM rfl ?_))
   refine RO.dyn rfl ((opD_call rfl rfl (ht.call s.σ _ i (byOf r u w) (ht.stays _ _ _ hR2 hown3) (fun c hc => by rw [hown3 c hc]; exact howned2 c hc) (fun c z hc hn => Over.other hb13 c z (hkeep2 c z hc hn)) hinv.sig hso)).mono fun dr H4 ⟨hR4, hown4, hfr4⟩ => ?_)
   have g13 : H4 b13 = some (55, tmCl (byOf r u w)) := hfr4 _ _ (Heap.set_self _ _ _) hn13
   have hpres : ∀ c z, H2 c = some z → ¬ own c → H4 c = some z := fun c z hc hn => hfr4 c z (Over.other hb13 c z hc) hn
   have tb1 := tb.lo
   have tb2 := tb.hi
   have tn := (negT_ok tb).zero
   (repeat(first|refine zA ?_|refine zB ?_|refine zE rfl (by decide) rfl ?_|refine zF ?_|refine zG ?_|refine zH ?_|refine zI ?_|refine zJ ?_|refine zK ?_|refine zL rfl ?_|refine zM rfl ?_))
   refine DW.drawS 18 Tryz.mixed (by kernel_rfl) (by decide) ?_
   dsimp only [List.take, List.drop]
   (repeat(first|refine zN ?_|refine zO ?_|refine zR rfl (by decide) rfl ?_|refine zS ?_))
   refine RS.sta (fun H' hov => s_load rfl (hload _ (vcD l[i]) rfl)) rfl ?_
   (repeat(first|refine zN ?_|refine zO ?_|refine zR rfl (by decide) rfl ?_|refine zS ?_))
   refine RS.sta (r_loadMut (d := I (byOf r u w).c) rfl g13 rfl) rfl ?_
   (repeat(first|refine zN ?_|refine zO ?_|refine zR rfl (by decide) rfl ?_|refine zS ?_))
   refine RS.sta (r_loadMut (d := intsD (byOf r u w).e) rfl g13 rfl) rfl ?_
   refine RS.sta (fun H' hov => s_buildT (out := [I (negT r (byOf r u w)).c, intsD (negT r (byOf r u w)).e]) rfl rfl) rfl ?_
   refine RS.sta (fun H' hov => sta_call rfl rfl (vBy_pure r l[i] (negT r (byOf r u w)) (n := r.n.toNat) (B := 8000) (C := 8000) (L := 512192024001) hn3 (by omega) (by omega) hp (by have := hdi.len; omega) (by omega) hdb tn _)) rfl ?_
   refine RS.sta (fun H' hov => sta_call rfl rfl (vSum_pure r s.v (vbyT r l[i] (negT r (byOf r u w))) (n := r.n.toNat) (B := 16000) (L := 512192024001) (M := 512192024001) hn3 (by omega) hp (by omega) (by rw [hsv]; simp [vbyT, hdl]) (by omega) (hvb.mono (by omega) (Nat.le_refl _)) (VB.by (by omega) hpr hdb tn) _)) rfl ?_
   refine RS.nil ?_
   have hvs : (hstepB r l s u i).v = vsumT r s.v (vbyT r l[i] (negT r (byOf r u w))) := by
    unfold hstepB
    rw [hby, List.getD_eq_getElem?_getD, List.getElem?_eq_getElem hil]; rfl
   have hqs : (hstepB r l s u i).σ = s.σ ++ [(i, byOf r u w)] := by
    unfold hstepB
    rw [hby]
   rw [← hvs]
   (repeat(first|refine zA ?_|refine zB ?_|refine zE rfl (by decide) rfl ?_|refine zF ?_|refine zG ?_|refine zH ?_|refine zI ?_|refine zJ ?_|refine zK ?_|refine zL rfl ?_|refine zM rfl ?_))
   refine ⟨(hstepB r l s u i, H4, ds), ⟨(hi.at_.stepB hl hx hg).1, by dsimp only; rw [hqs]; exact hR4, hown4, fun c z hc hn => hpres c z (hkeep2 c z hc hn) hn, ?_⟩, n2, Heap.sub_refl _, (by repeat first | exact trivial | refine HasG.one rfl ?_ | refine HasN.one rfl ?_)⟩
   exact hrows.frame fun c z hc hh => hpres c z hc (hh.elim (fun e => by rw [e]; exact hbLn) fun hn ho => hn (ht.owned c ho))
end
section
open Go.RowKit
set_option maxHeartbeats 8000000

instance : ElT Tryz.prog 49 1 [.nil] 24 := .of (z := .slice none 0 0) (by kernel_rfl) rfl rfl rfl (by decide)
instance : SizeT Tryz.prog 49 1 := .of (by kernel_rfl)
end
section
open Go.RowKit
set_option maxHeartbeats 8000000
end
section
open Go.RowKit
set_option maxHeartbeats 8000000

theorem empty_drop {v : Vc} {k : Nat} (h : k < v.length) : emptyT (v.drop k) = (v[k].isEmpty && emptyT (v.drop (k + 1))) := by
 unfold emptyT
 rw [List.drop_eq_getElem_cons h, List.all_cons]

theorem isEmpty_len (f : Pl) : decide ((0 : Int) < (f.length : Int)) = !f.isEmpty := by cases f <;> simp <;> omega

theorem vIs_pure (v : Vc) (hl : v.length ≤ 4611686018427387904) : Pure Tryz.prog 49 [vcD v] (.bool (emptyT v)) := by
 intro H
 refine PureH.of_body Tryz.func49 rfl (by decide) (Nat.le_of_ble_eq_true rfl) fun w0 => ?_
 (repeat(first|refine zA ?_|refine zB ?_|refine zE rfl (by decide) rfl ?_|refine zF ?_|refine zG ?_|refine zH ?_|refine zI ?_|refine zJ ?_|refine zK ?_|refine zL rfl ?_|refine zM rfl ?_))
 refine DW.loopI (fun k : Nat => k ≤ v.length ∧ emptyT (v.drop k) = emptyT v) (fun k => [(5, vcD v), (6, I v.length), (7, I k)]) (fun _ => H) (fun k => v.length - k) 0 ⟨Nat.zero_le _, rfl⟩ rfl ⟨rfl, rfl, rfl, trivial⟩ fun k ⟨hk, hg⟩ => ?_
 (repeat(first|refine zA ?_|refine zB ?_|refine zE rfl (by decide) rfl ?_|refine zF ?_|refine zG ?_|refine zH ?_|refine zI ?_|refine zJ ?_|refine zK ?_|refine zL rfl ?_|refine zM rfl ?_))
 refine DW.cond rfl (fun hb => ?_) (fun hb => ?_)
 ·have hlt : k < v.length := by have := of_decide_eq_true hb; omega
  clear hb
  rw [empty_drop hlt] at hg
  (repeat(first|refine zA ?_|refine zB ?_|refine zE rfl (by decide) rfl ?_|refine zF ?_|refine zG ?_|refine zH ?_|refine zI ?_|refine zJ ?_|refine zK ?_|refine zL rfl ?_|refine zM rfl ?_))
  rw [isEmpty_len]
  cases he : v[k].isEmpty
  case false =>
   rw [he, Bool.false_and] at hg
   rw [← hg]
   (repeat(first|refine zA ?_|refine zB ?_|refine zE rfl (by decide) rfl ?_|refine zF ?_|refine zG ?_|refine zH ?_|refine zI ?_|refine zJ ?_|refine zK ?_|refine zL rfl ?_|refine zM rfl ?_))
   exact DW.ret ⟨.inl rfl, _, rfl, Over.refl _, .same _⟩
  rw [he, Bool.true_and] at hg
  (repeat(first|refine zA ?_|refine zB ?_|refine zE rfl (by decide) rfl ?_|refine zF ?_|refine zG ?_|refine zH ?_|refine zI ?_|refine zJ ?_|refine zK ?_|refine zL rfl ?_|refine zM rfl ?_))
  exact ⟨k + 1, ⟨hlt, hg⟩, by dsimp only; omega, rfl, rfl, rfl, rfl, trivial⟩
 ·have hge : k = v.length := by have := of_decide_eq_false hb; omega
  rw [hge, List.drop_length] at hg
  rw [← hg]
  (repeat(first|refine zA ?_|refine zB ?_|refine zE rfl (by decide) rfl ?_|refine zF ?_|refine zG ?_|refine zH ?_|refine zI ?_|refine zJ ?_|refine zK ?_|refine zL rfl ?_|refine zM rfl ?_))
  exact DW.ret ⟨.inl rfl, _, rfl, Over.refl _, .same _⟩

theorem Up_pure (r : Rg) (v : Vc) (e : List Int) (hp : 2 ≤ r.p ∧ r.p ≤ 101) (hc : 0 ≤ (tmOf (topV r v)).c ∧ (tmOf (topV r v)).c < r.p) (he : MOk e) (hw : MOk (tmOf (topV r v)).e) (hl : e.length = (tmOf (topV r v)).e.length) :
  Pure Tryz.prog 67 [rgD r, dvD r v, intsD e] (tmD (upT r (tmOf (topV r v)) e)) := by
 intro H
 refine PureH.of_bodyCell (r := 6) (t := 55) (T0 := 55) (cells := tmCl (upT r (tmOf (topV r v)) e)) Tryz.func67 rfl (by decide) (Nat.le_of_ble_eq_true rfl) rfl fun w0 => ?_
 (repeat(first|refine zA ?_|refine zB ?_|refine zE rfl (by decide) rfl ?_|refine zF ?_|refine zG ?_|refine zH ?_|refine zI ?_|refine zJ ?_|refine zK ?_|refine zL rfl ?_|refine zM rfl ?_))
 refine RO.dyn rfl (d_alloc fun b hb => ?_)
 refine RO.nil ?_
 (repeat(first|refine zA ?_|refine zB ?_|refine zE rfl (by decide) rfl ?_|refine zF ?_|refine zG ?_|refine zH ?_|refine zI ?_|refine zJ ?_|refine zK ?_|refine zL rfl ?_|refine zM rfl ?_))
 refine DW.drawS 12 Tryz.mixed (by kernel_rfl) (by decide) ?_
 dsimp only [List.take, List.drop]
 (repeat(first|refine zN ?_|refine zO ?_|refine zR rfl (by decide) rfl ?_|refine zS ?_))
 refine RS.sta (fun H' hov => sta_call rfl rfl (turn_pure r.p (tmOf (topV r v)).c hp.1 hp.2 hc.1 hc.2 _)) rfl ?_
 (repeat(first|refine zN ?_|refine zO ?_|refine zR rfl (by decide) rfl ?_|refine zS ?_))
 refine RS.sta (fun H' hov => sta_call rfl rfl (Quotient_pure he hw hl _)) rfl ?_
 refine RS.sta (fun H' hov => s_buildT (out := tmCl (upT r (tmOf (topV r v)) e)) rfl rfl) rfl ?_
 (repeat(first|refine zN ?_|refine zO ?_|refine zR rfl (by decide) rfl ?_|refine zS ?_))
 refine RO.dyn rfl (d_store (k := 2) rfl rfl rfl (Heap.set_self _ _ _) (by show 0 + 2 ≤ 2; omega) (by simp [cellsOf, D.isCell, intsD]) ?_)
 rw [Heap.set_set]
 (repeat(first|refine zA ?_|refine zB ?_|refine zE rfl (by decide) rfl ?_|refine zF ?_|refine zG ?_|refine zH ?_|refine zI ?_|refine zJ ?_|refine zK ?_|refine zL rfl ?_|refine zM rfl ?_))
 exact DW.ret ⟨.inl rfl, b, rfl, Heap.set_self _ _ _, (Over.refl _).set hb, hb⟩

theorem lessen_pure (r : Rg) (v w : Vc) (a b : Tm) {n : Nat} {B C : Int} {L : Nat} (hn : n ≤ 3) (hB : B + C ≤ 1000000) (hB0 : 0 ≤ B) (hC0 : 0 ≤ C) (hr : ckP r.p = 0) (hpr : Prm r.p) (hl : v.length ≤ 1000000) (hvw : v.length = w.length) (hL : L ≤ 1000000000000) (hv : VB r n B L v) (hw : VB r n B L w) (ha : TB 1 r.p n C a) (hb : TB 1 r.p n C b) :
  Pure Tryz.prog 69 [rgD r, vcD v, vcD w, tmD a, tmD b] (vcD (lessT r v w a b)) := by
 intro H
 have hp := ckP_ok hr
 have hnb : TB 1 r.p n C (negT r b) := ⟨by have := hb.hi; show 1 ≤ r.p - b.c; omega, by have := hb.lo; show r.p - b.c < r.p; omega, hb.len, hb.mem⟩
 have hva := VB.by (by omega) hpr hv (ha.mono (by omega) (Int.le_refl _))
 have hwb := VB.by (by omega) hpr hw (hnb.mono (by omega) (Int.le_refl _))
 have hb0 := hb.lo
 have hb1 := hb.hi
 refine PureH.of_body Tryz.func69 rfl (by decide) (Nat.le_of_ble_eq_true rfl) fun w0 => ?_
 (repeat(first|refine zA ?_|refine zB ?_|refine zE rfl (by decide) rfl ?_|refine zF ?_|refine zG ?_|refine zH ?_|refine zI ?_|refine zJ ?_|refine zK ?_|refine zL rfl ?_|refine zM rfl ?_))
 refine DW.drawS 17 Tryz.mixed (by kernel_rfl) (by decide) ?_
 dsimp only [List.take, List.drop]
 (repeat(first|refine zN ?_|refine zO ?_|refine zR rfl (by decide) rfl ?_|refine zS ?_))
 refine RS.sta (fun H' hov => sta_call rfl rfl (vBy_pure r v a hn (B := B) (C := C) (L := L) (by omega) (by omega) hp hl (by omega) hv (ha.mono (by omega) (Int.le_refl _)) _)) rfl ?_
 (repeat(first|refine zN ?_|refine zO ?_|refine zR rfl (by decide) rfl ?_|refine zS ?_))
 refine RS.sta (fun H' hov => s_buildT (out := tmCl (negT r b)) rfl rfl) rfl ?_
 refine RS.sta (fun H' hov => sta_call rfl rfl (vBy_pure r w (negT r b) hn (B := B) (C := C) (L := L) (by omega) (by omega) hp (by omega) (by omega) hw (hnb.mono (by omega) (Int.le_refl _)) _)) rfl ?_
 refine RS.sta (fun H' hov => sta_call rfl rfl (vSum_pure r (vbyT r v a) (vbyT r w (negT r b)) hn (B := B + C) (L := L) (M := L) (by omega) hp (by simp [vbyT]; omega) (by simp [vbyT]; omega) (by omega) hva hwb _)) rfl ?_
 (repeat(first|refine zN ?_|refine zO ?_|refine zR rfl (by decide) rfl ?_|refine zS ?_))
 (repeat(first|refine zA ?_|refine zB ?_|refine zE rfl (by decide) rfl ?_|refine zF ?_|refine zG ?_|refine zH ?_|refine zI ?_|refine zJ ?_|refine zK ?_|refine zL rfl ?_|refine zM rfl ?_))
 exact DW.ret ⟨.inl rfl, _, rfl, Over.refl _, .same _⟩
end
section
open Go.RowKit
set_option maxHeartbeats 4000000
end
section
open Go.RowKit
set_option maxHeartbeats 8000000

theorem s_makeInts {P : Program} {H : Heap} {e : Env} {dst : Option Tmp} {ty : TypeId} {pos : String} {af : Array Edge} {gd : Option (Nat × Bool)} {t E : TypeId} {x y : Operand} {bytes : Nat} {m : Int} {n : Nat} [SliceT P t E] [ElT P E 1 [I 0] bytes]
  (hx : e.ev x = some (I m)) (hy : e.ev y = some (I m)) (hm : m = n) (hb : bytes * n ≤ 281474976710656) (hc : n ≤ 4611686018427387904) : Sta P H e ⟨dst, .makeSlice t x y, ty, pos, af, gd⟩ (intsD (List.replicate n 0)) := by
 subst hm
 have := s_make (P := P) (H := H) (dst := dst) (ty := ty) (pos := pos) (af := af) (gd := gd) (t := t) (E := E) (bytes := bytes) (el := I 0) (k := 1) rfl hx hy hb hc
 unfold intsD
 rw [List.map_replicate]
 exact this
end
end Go.Proofs.YtfjmdhemlfafbaaGreat
