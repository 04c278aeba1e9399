/-
  The document's ranks: CheckRows, RankOf. No condition.
-/
import Derived.Test.YtfjmdhemlfafbaaGreatKHc14
import Derived.Test.YtfjmdhemlfafbaaGreatKHc26
import Derived.Test.YtfjmdhemlfafbaaGreatKHc10
import Derived.Test.YtfjmdhemlfafbaaGreatKHc18
set_option linter.unusedVariables false
set_option linter.unusedSimpArgs false

namespace Go.Proofs.YtfjmdhemlfafbaaGreat
section
open Go.RowKit
set_option maxHeartbeats 8000000

theorem Goes_ref {H : Heap} {b0 : Nat} {a b : List Int} (hH : H b0 = some (3, intCells a)) (hab : a.length = b.length) (hl : a.length ≤ 1000000) : PureH Tryz.prog H 17 [.ref b0 0 a.length 1, intsD b] (.bool (goesM a b)) := by
 refine PureH.of_body Tryz.func17 rfl (by decide) (Nat.le_of_ble_eq_true rfl) fun w0 => ?_
 (repeat(first|refine zC ?_|refine zD ?_|refine zE rfl (by decide) rfl ?_|refine zF ?_|refine zG ?_|refine zH ?_|refine zI ?_|refine zJ ?_|refine zK ?_|refine zL rfl ?_|refine zM rfl ?_))
 refine DW.loopI (fun k : Nat => k ≤ a.length ∧ goesM (a.drop k) (b.drop k) = goesM a b) (fun k => [(0, .ref b0 0 a.length 1), (1, intsD b), (6, .ref b0 0 a.length 1), (7, I a.length), (8, I k)]) (fun _ => H) (fun k => a.length - k) 0 ⟨Nat.zero_le _, rfl⟩ rfl ⟨rfl, rfl, rfl, rfl, rfl, trivial⟩ fun k ⟨hk, hg⟩ => ?_
 (repeat(first|refine zC ?_|refine zD ?_|refine zE rfl (by decide) rfl ?_|refine zF ?_|refine zG ?_|refine zH ?_|refine zI ?_|refine zJ ?_|refine zK ?_|refine zL rfl ?_|refine zM rfl ?_))
 refine DW.cond rfl (fun hb => ?_) (fun hb => ?_)
 ·have hlt : k < a.length := by have := of_decide_eq_true hb; omega
  have hlt2 : k < b.length := by omega
  rw [goesM_drop hlt hlt2] at hg
  (repeat(first|refine zC ?_|refine zD ?_|refine zE rfl (by decide) rfl ?_|refine zF ?_|refine zG ?_|refine zH ?_|refine zI ?_|refine zJ ?_|refine zK ?_|refine zL rfl ?_|refine zM rfl ?_))
  refine DW.drawS 9 Tryz.mixed (by kernel_rfl) (by decide) ?_
  dsimp only [List.take, List.drop]
  (repeat(first|refine zP ?_|refine zQ ?_|refine zR rfl (by decide) rfl ?_|refine zS ?_))
  refine RS.sta (fun H' hov => s_indexRef (i := k) rfl rfl hlt) rfl ?_
  refine RS.sta (fun H' hov => s_loadMut (off := 0 + k * 1) (d := I a[k]) rfl (hov _ _ hH) (by rw [show 0 + k * 1 = k by omega]; exact intCells_get hlt)) rfl ?_
  (repeat(first|refine zP ?_|refine zQ ?_|refine zR rfl (by decide) rfl ?_|refine zS ?_))
  (repeat(first|refine zC ?_|refine zD ?_|refine zE rfl (by decide) rfl ?_|refine zF ?_|refine zG ?_|refine zH ?_|refine zI ?_|refine zJ ?_|refine zK ?_|refine zL rfl ?_|refine zM rfl ?_))
  refine DW.cond rfl (fun hb => ?_) (fun hb => ?_)
  ·have hc : b[k] > a[k] := of_decide_eq_true hb
   rw [if_pos hc] at hg
   rw [← hg]
   (repeat(first|refine zC ?_|refine zD ?_|refine zE rfl (by decide) rfl ?_|refine zF ?_|refine zG ?_|refine zH ?_|refine zI ?_|refine zJ ?_|refine zK ?_|refine zL rfl ?_|refine zM rfl ?_))
   exact DW.ret ⟨.inl rfl, _, rfl, Over.refl _, .same _⟩
  ·have hc : ¬ b[k] > a[k] := of_decide_eq_false hb
   rw [if_neg hc] at hg
   (repeat(first|refine zC ?_|refine zD ?_|refine zE rfl (by decide) rfl ?_|refine zF ?_|refine zG ?_|refine zH ?_|refine zI ?_|refine zJ ?_|refine zK ?_|refine zL rfl ?_|refine zM rfl ?_))
   exact ⟨k + 1, ⟨hlt, hg⟩, by dsimp only; omega, rfl, rfl, rfl, rfl, rfl, rfl, trivial⟩
 ·have hge : k = a.length := by have := of_decide_eq_false hb; omega
  subst hge
  have : goesM a b = true := by rw [← hg]; simp [goesM]
  rw [this]
  (repeat(first|refine zC ?_|refine zD ?_|refine zE rfl (by decide) rfl ?_|refine zF ?_|refine zG ?_|refine zH ?_|refine zI ?_|refine zJ ?_|refine zK ?_|refine zL rfl ?_|refine zM rfl ?_))
  exact DW.ret ⟨.inl rfl, _, rfl, Over.refl _, .same _⟩

theorem wrap64_succ (x : Int) : wrap64 (wrap64 x + 1) = wrap64 (x + 1) := by
 unfold wrap64
 omega

theorem wrap64_small {x : Int} (h0 : 0 ≤ x) (h1 : x ≤ 9000000000000000000) : wrap64 x = x := by
 unfold wrap64
 omega

theorem goesC_pure {H : Heap} {b0 b1 : Nat} {a x : List Int} (hH : H b0 = some (3, intCells a)) (hB : H b1 = some (24, [.ref b0 0 a.length 1])) (hab : a.length = x.length) (hl : a.length ≤ 1000000) : PureH Tryz.prog H 16 [intsD x, .ptr b1 0] (.bool (goesM a x)) := by
 refine PureH.of_body Tryz.func16 rfl (by decide) (Nat.le_of_ble_eq_true rfl) fun w0 => ?_
 (repeat(first|refine zA ?_|refine zB ?_|refine zE rfl (by decide) rfl ?_|refine zF ?_|refine zG ?_|refine zH ?_|refine zI ?_|refine zJ ?_|refine zK ?_|refine zL rfl ?_|refine zM rfl ?_))
 refine RO.sta (s_loadMut (d := .ref b0 0 a.length 1) rfl hB rfl) rfl ?_
 (repeat(first|refine zA ?_|refine zB ?_|refine zE rfl (by decide) rfl ?_|refine zF ?_|refine zG ?_|refine zH ?_|refine zI ?_|refine zJ ?_|refine zK ?_|refine zL rfl ?_|refine zM rfl ?_))
 refine RO.sta (sta_call rfl rfl (Goes_ref hH hab hl)) rfl ?_
 (repeat(first|refine zA ?_|refine zB ?_|refine zE rfl (by decide) rfl ?_|refine zF ?_|refine zG ?_|refine zH ?_|refine zI ?_|refine zJ ?_|refine zK ?_|refine zL rfl ?_|refine zM rfl ?_))
 exact DW.ret ⟨.inl rfl, _, rfl, Over.refl _, .same _⟩

def cntU (n : Nat) (gs : List Int) (ls : List (List (List Int))) (d : Int) : Nat → Nat
 | 0 => 0
 | i + 1 => cntU n gs ls d i + cntO n (ls.getD i []) (d - gs.getD i 0)

def cntC (r : Rg) (gs : List Int) (l : List Vc) (d : Int) : Int := if hilCk r gs l = 0 then (if d < 0 ∨ 12 < d then 3 else 0) else hilCk r gs l
def cntA (r : Rg) (gs : List Int) (l : List Vc) (d : Int) : Int := if cntC r gs l d = 0 then cntU r.n.toNat gs (ldsT r gs.length l) d gs.length else 0

theorem cntU_le {n : Nat} {gs : List Int} {ls : List (List (List Int))} {d : Int} (hn : n ≤ 3) (hg : ∀ g ∈ gs, 0 ≤ g ∧ g ≤ 6) (hd : d ≤ 12) (i : Nat) (hi : i ≤ 3) : cntU n gs ls d i ≤ 1030301 * i := by
 induction i with
 | zero => simp [cntU]
 | succ i ih =>
  have h1 := ih (by omega)
  have h2 := cntO_le n (ls.getD i []) (d - gs.getD i 0)
  have h3 : 0 ≤ gs.getD i 0 := by
   rw [List.getD_eq_getElem?_getD]
   cases hx : gs[i]? with
   | none => simp
   | some g => exact (hg g (List.mem_of_getElem? hx)).1
  have h4 := frN_le (n := n) (d := d - gs.getD i 0) hn (by omega)
  show cntU n gs ls d i + cntO n (ls.getD i []) (d - gs.getD i 0) ≤ _
  omega

theorem Count_pure (r : Rg) (gs : List Int) (l : List Vc) (d : Int) (hgl : gs.length ≤ 4611686018427387904) (hl : l.length ≤ 4611686018427387904) (hv : ∀ v ∈ l, v.length ≤ 4611686018427387904 ∧ ∀ f ∈ v, f.length ≤ 4611686018427387904) : Pure Tryz.prog 5 [rgD r, intsD gs, vcsD l, I d] (.tup [I (cntA r gs l d), I (cntC r gs l d)]) := by
 intro H
 refine PureH.of_body Tryz.func5 rfl (by decide) (Nat.le_of_ble_eq_true rfl) fun w0 => ?_
 unfold cntA
 (repeat(first|refine zA ?_|refine zB ?_|refine zE rfl (by decide) rfl ?_|refine zF ?_|refine zG ?_|refine zH ?_|refine zI ?_|refine zJ ?_|refine zK ?_|refine zL rfl ?_|refine zM rfl ?_))
 refine RO.sta (sta_call rfl rfl (hilCheck_pure r gs l hgl hl hv _)) rfl ?_
 (repeat(first|refine zA ?_|refine zB ?_|refine zE rfl (by decide) rfl ?_|refine zF ?_|refine zG ?_|refine zH ?_|refine zI ?_|refine zJ ?_|refine zK ?_|refine zL rfl ?_|refine zM rfl ?_))
 by_cases hck : hilCk r gs l = 0
 case neg =>
  have hcc : cntC r gs l d = hilCk r gs l := by unfold cntC; rw [if_neg hck]
  rw [hcc, if_neg hck, show (hilCk r gs l != 0) = true by simpa using hck]
  (repeat(first|refine zA ?_|refine zB ?_|refine zE rfl (by decide) rfl ?_|refine zF ?_|refine zG ?_|refine zH ?_|refine zI ?_|refine zJ ?_|refine zK ?_|refine zL rfl ?_|refine zM rfl ?_))
  exact DW.ret ⟨.inl rfl, _, rfl, Over.refl _, .same _⟩
 have hcc : cntC r gs l d = if d < 0 ∨ 12 < d then 3 else 0 := by unfold cntC; rw [if_pos hck]
 rw [show (hilCk r gs l != 0) = false by simpa using hck]
 (repeat(first|refine zA ?_|refine zB ?_|refine zE rfl (by decide) rfl ?_|refine zF ?_|refine zG ?_|refine zH ?_|refine zI ?_|refine zJ ?_|refine zK ?_|refine zL rfl ?_|refine zM rfl ?_))
 cases h1 : decide (d < 0)
 case true =>
  have hc3 : cntC r gs l d = 3 := by rw [hcc, if_pos (.inl (of_decide_eq_true h1))]
  rw [hc3, if_neg (by decide)]
  (repeat(first|refine zA ?_|refine zB ?_|refine zE rfl (by decide) rfl ?_|refine zF ?_|refine zG ?_|refine zH ?_|refine zI ?_|refine zJ ?_|refine zK ?_|refine zL rfl ?_|refine zM rfl ?_))
  exact DW.ret ⟨.inl rfl, _, rfl, Over.refl _, .same _⟩
 (repeat(first|refine zA ?_|refine zB ?_|refine zE rfl (by decide) rfl ?_|refine zF ?_|refine zG ?_|refine zH ?_|refine zI ?_|refine zJ ?_|refine zK ?_|refine zL rfl ?_|refine zM rfl ?_))
 cases h2 : decide (12 < d)
 case true =>
  have hc3 : cntC r gs l d = 3 := by rw [hcc, if_pos (.inr (of_decide_eq_true h2))]
  rw [hc3, if_neg (by decide)]
  (repeat(first|refine zA ?_|refine zB ?_|refine zE rfl (by decide) rfl ?_|refine zF ?_|refine zG ?_|refine zH ?_|refine zI ?_|refine zJ ?_|refine zK ?_|refine zL rfl ?_|refine zM rfl ?_))
  exact DW.ret ⟨.inl rfl, _, rfl, Over.refl _, .same _⟩
 have g1 := of_decide_eq_false h1
 have g2 := of_decide_eq_false h2
 have hc0 : cntC r gs l d = 0 := by rw [hcc, if_neg (by omega)]
 rw [hc0, if_pos rfl]
 obtain ⟨hlst, hk1⟩ := hil_lst hck
 obtain ⟨_, hgs, _⟩ := hilCk_ok hck
 have hk3 := hlst.k3
 have hlds := ldsT_ok hlst
 have hkl := hlds.len
 obtain ⟨hp2, hn3, hn1, hpr, hckp⟩ := hlst.cx.rg
 (repeat(first|refine zA ?_|refine zB ?_|refine zE rfl (by decide) rfl ?_|refine zF ?_|refine zG ?_|refine zH ?_|refine zI ?_|refine zJ ?_|refine zK ?_|refine zL rfl ?_|refine zM rfl ?_))
 refine RO.dyn rfl (d_alloc fun bN hbN => ?_)
 (repeat(first|refine zA ?_|refine zB ?_|refine zE rfl (by decide) rfl ?_|refine zF ?_|refine zG ?_|refine zH ?_|refine zI ?_|refine zJ ?_|refine zK ?_|refine zL rfl ?_|refine zM rfl ?_))
 refine RO.dyn rfl (d_store (k := 1) rfl rfl rfl (Heap.set_self _ _ _) (Nat.le_refl _) (by simp [cellsOf, D.isCell]) ?_)
 rw [Heap.set_set]
 (repeat(first|refine zA ?_|refine zB ?_|refine zE rfl (by decide) rfl ?_|refine zF ?_|refine zG ?_|refine zH ?_|refine zI ?_|refine zJ ?_|refine zK ?_|refine zL rfl ?_|refine zM rfl ?_))
 refine RO.sta (sta_call rfl rfl (leads_pure hlst _)) rfl ?_
 rw [show leadsT gs.length (rawL r gs.length l) = ldsT r gs.length l from rfl]
 generalize hls : ldsT r gs.length l = ls at *
 (repeat(first|refine zA ?_|refine zB ?_|refine zE rfl (by decide) rfl ?_|refine zF ?_|refine zG ?_|refine zH ?_|refine zI ?_|refine zJ ?_|refine zK ?_|refine zL rfl ?_|refine zM rfl ?_))
 refine DW.loopG (fun z : Nat × Heap => z.1 ≤ ls.length ∧ Over H z.2 ∧ z.2 bN = some (3, [I (cntU r.n.toNat gs ls d z.1)])) (fun z => [(1, intsD gs), (3, I d), (4, .ipt 4 [rgD r] 0 0), (11, .ptr bN 0), (32, leadsD ls), (33, I ls.length), (34, I z.1)]) (fun z => z.2) (fun z => ls.length - z.1) (0, H.set bN (3, [I 0]))
  ⟨Nat.zero_le _, (Over.refl H).set hbN, Heap.set_self _ _ _⟩ (Heap.sub_refl _) (by repeat first | exact trivial | refine HasG.one rfl ?_ | refine HasN.one rfl ?_) fun ⟨i, Hi⟩ ⟨hi, hov, hbi⟩ => ?_
 dsimp only at hi hov hbi ⊢
 (repeat(first|refine zA ?_|refine zB ?_|refine zE rfl (by decide) rfl ?_|refine zF ?_|refine zG ?_|refine zH ?_|refine zI ?_|refine zJ ?_|refine zK ?_|refine zL rfl ?_|refine zM rfl ?_))
 refine DW.cond rfl (fun hb => ?_) (fun hb => ?_)
 ·have hlt : i < ls.length := by have := of_decide_eq_true hb; omega
  clear hb
  have hlg : i < gs.length := by omega
  have hgi := hgs _ (List.getElem_mem hlg)
  obtain ⟨he1, he2⟩ := hlds.each i hlt
  (repeat(first|refine zA ?_|refine zB ?_|refine zE rfl (by decide) rfl ?_|refine zF ?_|refine zG ?_|refine zH ?_|refine zI ?_|refine zJ ?_|refine zK ?_|refine zL rfl ?_|refine zM rfl ?_))
  refine RO.dyn rfl (d_alloc fun bI hbI => ?_)
  (repeat(first|refine zA ?_|refine zB ?_|refine zE rfl (by decide) rfl ?_|refine zF ?_|refine zG ?_|refine zH ?_|refine zI ?_|refine zJ ?_|refine zK ?_|refine zL rfl ?_|refine zM rfl ?_))
  refine RO.dyn rfl (d_store (k := 1) rfl rfl rfl (Heap.set_self _ _ _) (Nat.le_refl _) (by simp [cellsOf, D.isCell]) ?_)
  rw [Heap.set_set]
  have hset1 : setMany ([.nil] : List D) 0 (cellsOf (D.list 1 (ls[i].map intsD))) = [intssD ls[i]] := rfl
  rw [hset1]
  have hNI : bN ≠ bI := fun e => by rw [e, hbI] at hbi; cases hbi
  have hn1' : r.n = ((r.n.toNat : Nat) : Int) := by omega
  (repeat(first|refine zA ?_|refine zB ?_|refine zE rfl (by decide) rfl ?_|refine zF ?_|refine zG ?_|refine zH ?_|refine zI ?_|refine zJ ?_|refine zK ?_|refine zL rfl ?_|refine zM rfl ?_))
  refine DW.drawS 9 Tryz.mixed (by kernel_rfl) (by decide) ?_
  dsimp only [List.take, List.drop]
  (repeat(first|refine zN ?_|refine zO ?_|refine zR rfl (by decide) rfl ?_|refine zS ?_))
  have hmon : ∀ H', PureH Tryz.prog H' 14 [I r.n, I (d - gs[i])] (.fn 33 [.ipt 1 [I r.n] 0 0, .ipt 1 [I (d - gs[i])] 0 0]) := fun H' => monomials_pure _ _ H'
  refine RS.sta (fun H' hov => sta_call rfl rfl (hmon H')) rfl ?_
  (repeat(first|refine zN ?_|refine zO ?_|refine zR rfl (by decide) rfl ?_|refine zS ?_))
  (repeat(first|refine zA ?_|refine zB ?_|refine zE rfl (by decide) rfl ?_|refine zF ?_|refine zG ?_|refine zH ?_|refine zI ?_|refine zJ ?_|refine zK ?_|refine zL rfl ?_|refine zM rfl ?_))
  have hcl : cntU r.n.toNat gs ls d (i + 1) = cntU r.n.toNat gs ls d i + cntO r.n.toNat ls[i] (d - gs[i]) := by
   show cntU r.n.toNat gs ls d i + cntO r.n.toNat (ls.getD i []) (d - gs.getD i 0) = _
   rw [getD_lt hlt, getD_lt hlg]
  have hcb := cntU_le (n := r.n.toNat) (ls := ls) hn3 hgs (by omega : d ≤ 12) (i + 1) (by omega)
  rw [hn1']
  refine DW.monos (n := r.n.toNat) (d := d - gs[i]) rfl (by omega) (by omega) (by decide) (fun pre Hk => Over H Hk ∧ Hk bN = some (3, [I (wrap64 ((cntU r.n.toNat gs ls d i : Nat) + (pre.filter (outM ls[i])).length))]) ∧ Hk bI = some (32, [intssD ls[i]])) ⟨?_, ?_, Heap.set_self _ _ _⟩ (fun pre x Hk b rr ⟨ho, h6, h7⟩ hxl hkb w1 H1 => ?_) fun Hk ⟨ho, h6, h7⟩ => ?_
  ·exact fun c z hc => by
    have hcI : c ≠ bI := fun e => by
     have := hov c z hc
     rw [e, hbI] at this
     cases this
    rw [Heap.set_other _ _ hcI]
    exact hov c z hc
  ·rw [Heap.set_other _ _ hNI, hbi]
   have hw : wrap64 (((cntU r.n.toNat gs ls d i : Nat) : Int) + ((([] : List (List Int)).filter (outM ls[i])).length : Nat)) = cntU r.n.toNat gs ls d i := by
    rw [List.filter_nil, List.length_nil, wrap64_small (by omega) (by omega)]
    omega
   rw [hw]
  ·have hNb : bN ≠ b := fun e => by rw [e, hkb] at h6; cases h6
   have hIb : bI ≠ b := fun e => by rw [e, hkb] at h7; cases h7
   refine DR.region rfl ?_
   refine RO.dyn rfl (d_alloc fun bX hbX => ?_)
   refine RO.dyn rfl (d_store (k := 1) rfl rfl rfl (Heap.set_self _ _ _) (Nat.le_refl _) (by simp [cellsOf, D.isCell]) ?_)
   rw [Heap.set_set]
   refine RO.nil ⟨rfl, fun w2 H2 => ?_⟩
   rw [show setMany ([.nil] : List D) 0 (cellsOf (D.ref b 0 r.n.toNat 1)) = [.ref b 0 r.n.toNat 1] from rfl]
   have hbXb : bX ≠ b := fun e => by rw [e, Heap.set_self] at hbX; cases hbX
   rw [Heap.set_other _ _ hbXb] at hbX
   have hXN : bX ≠ bN := fun e => by rw [e, h6] at hbX; cases hbX
   have hXI : bX ≠ bI := fun e => by rw [e, h7] at hbX; cases hbX
   generalize hH3 : Heap.set (Hk.set b (3, intCells x)) bX (24, [.ref b 0 r.n.toNat 1]) = H3
   have k1 : H3 b = some (3, intCells x) := by rw [← hH3, Heap.set_other _ _ hbXb.symm, Heap.set_self]
   have k2 : H3 bX = some (24, [.ref b 0 r.n.toNat 1]) := by rw [← hH3, Heap.set_self]
   have k3 : H3 bI = some (32, [intssD ls[i]]) := by rw [← hH3, Heap.set_other _ _ hXI.symm, Heap.set_other _ _ hIb]; exact h7
   have k4 : H3 bN = some (3, [I (wrap64 ((cntU r.n.toNat gs ls d i : Nat) + (pre.filter (outM ls[i])).length))]) := by rw [← hH3, Heap.set_other _ _ hXN.symm, Heap.set_other _ _ hNb]; exact h6
   have hcf := containsFunc_rows (H := H3) (f := 16) (caps := [.ptr bX 0]) ls[i] (fun y => goesM x y) (by omega) fun y hy => by
    have hyl := (he2 y hy).len
    have := goesC_pure (H := H3) (b0 := b) (b1 := bX) (a := x) (x := y) k1 (by rw [hxl]; exact k2) (by rw [hxl, hyl]) (by omega)
    exact this
   refine DR.block (DR.seq (DR.region rfl ?_))
   refine RO.sta (s_loadMut (d := intssD ls[i]) rfl k3 rfl) rfl ?_
   refine RO.sta (s_fn (ds := [.ptr bX 0]) rfl) rfl ?_
   refine RO.sta (sta_call rfl rfl hcf) rfl ?_
   refine RO.sta (sta_not rfl) rfl ?_
   refine RO.nil ?_
   refine DR.cond rfl (fun ht => DR.region rfl ?_) fun hf => DR.skip ⟨rfl, Hk, ⟨ho, ?_, h7⟩, hkb, fun c z hc => ?_⟩
   ·have hout : outM ls[i] x = true := ht
    refine RO.sta (s_loadMut (d := I (wrap64 ((cntU r.n.toNat gs ls d i : Nat) + (pre.filter (outM ls[i])).length))) rfl k4 rfl) rfl ?_
    refine RO.sta (s_addW rfl rfl) rfl ?_
    refine RO.dyn rfl (d_store (k := 1) rfl rfl rfl k4 (Nat.le_refl _) (by simp [cellsOf, D.isCell]) ?_)
    have hw : wrap64 (wrap64 ((cntU r.n.toNat gs ls d i : Nat) + ((pre.filter (outM ls[i])).length : Nat)) + 1) = wrap64 ((cntU r.n.toNat gs ls d i : Nat) + (((pre ++ [x]).filter (outM ls[i])).length : Nat)) := by
     rw [List.filter_append, List.filter_cons, hout, if_pos rfl, List.filter_nil, List.length_append, List.length_singleton, wrap64_succ, Int.natCast_add, Int.add_assoc]
     rfl
    refine RO.nil ⟨rfl, Hk.set bN (3, [I (wrap64 ((cntU r.n.toNat gs ls d i : Nat) + (((pre ++ [x]).filter (outM ls[i])).length : Nat)))]), ⟨fun c z hc => ?_, Heap.set_self _ _ _, ?_⟩, ?_, fun c z hc => ?_⟩
    ·have hcN : c ≠ bN := fun e => by rw [e, hbN] at hc; cases hc
     rw [Heap.set_other _ _ hcN]
     exact ho c z hc
    ·rw [Heap.set_other _ _ hNI.symm]
     exact h7
    ·rw [Heap.set_other _ _ hNb.symm]
     exact hkb
    ·show (Heap.set H3 bN (3, [I (wrap64 (wrap64 ((cntU r.n.toNat gs ls d i : Nat) + ((pre.filter (outM ls[i])).length : Nat)) + 1))])) c = some z
     rw [hw]
     by_cases hcb : c = b
     ·subst hcb
      rw [Heap.set_self] at hc
      rw [Heap.set_other _ _ hNb.symm, k1]
      exact hc
     ·rw [Heap.set_other _ _ hcb] at hc
      by_cases hcN : c = bN
      ·subst hcN
       rw [Heap.set_self] at hc ⊢
       exact hc
      ·rw [Heap.set_other _ _ hcN] at hc
       have hcX : c ≠ bX := fun e => by rw [e, hbX] at hc; cases hc
       rw [Heap.set_other _ _ hcN, ← hH3, Heap.set_other _ _ hcX, Heap.set_other _ _ hcb]
       exact hc
   ·have hout : outM ls[i] x = false := hf
    rw [List.filter_append, List.filter_cons, hout, if_neg (by decide), List.filter_nil, List.append_nil]
    exact h6
   ·by_cases hcb : c = b
    ·subst hcb
     rw [Heap.set_self] at hc
     rw [k1]
     exact hc
    ·rw [Heap.set_other _ _ hcb] at hc
     have hcX : c ≠ bX := fun e => by rw [e, hbX] at hc; cases hc
     rw [← hH3, Heap.set_other _ _ hcX, Heap.set_other _ _ hcb]
     exact hc
  ·have hlast : wrap64 (((cntU r.n.toNat gs ls d i : Nat) : Int) + (((monZ r.n.toNat (d - gs[i])).filter (outM ls[i])).length : Nat)) = (cntU r.n.toNat gs ls d (i + 1) : Nat) := by
    have e : ((monZ r.n.toNat (d - gs[i])).filter (outM ls[i])).length = cntO r.n.toNat ls[i] (d - gs[i]) := rfl
    rw [e, hcl, wrap64_small (by omega) (by omega), Int.natCast_add]
   rw [hlast] at h6
   (repeat(first|refine zA ?_|refine zB ?_|refine zE rfl (by decide) rfl ?_|refine zF ?_|refine zG ?_|refine zH ?_|refine zI ?_|refine zJ ?_|refine zK ?_|refine zL rfl ?_|refine zM rfl ?_))
   exact ⟨(i + 1, Hk), ⟨hlt, ho, h6⟩, by dsimp only; omega, Heap.sub_refl _, (by repeat first | exact trivial | refine HasG.one rfl ?_ | refine HasN.one rfl ?_)⟩
 ·have hie : i = ls.length := by have := of_decide_eq_false hb; omega
  subst hie
  clear hb
  rw [← hkl]
  refine DW.exit ?_
  refine DW.seq (DW.region ?_)
  refine RO.sta (s_loadMut (d := I (cntU r.n.toNat gs ls d ls.length)) rfl hbi rfl) rfl ?_
  (repeat(first|refine zA ?_|refine zB ?_|refine zE rfl (by decide) rfl ?_|refine zF ?_|refine zG ?_|refine zH ?_|refine zI ?_|refine zJ ?_|refine zK ?_|refine zL rfl ?_|refine zM rfl ?_))
  exact DW.ret ⟨.inl rfl, _, rfl, hov, .same _⟩
end
section
open Go.RowKit

theorem rank_same {inv : Int → Int} {p : Int} (hp : 1 < p) (hinv : InvOk inv p) {n : Nat} {rows : List (List Int)} {row : List Int} (hr : ∀ r ∈ rows, RowOk p n r) (hrow : RowOk p n row) (h : Spn p (rows.map vec) (vec row)) : rankT inv p (rows ++ [row]) = rankT inv p rows := by
 obtain ⟨E, e1, e2, e3, e4, _⟩ := rankT_spec hp hinv hr
 have hall : ∀ r ∈ rows ++ [row], RowOk p n r := fun r h => by
  rcases List.mem_append.1 h with h | h
  ·exact hr r h
  ·rw [List.mem_singleton.1 h]; exact hrow
 rw [← e2]
 refine (rank_uniq hp hinv hall e1 (fun r hr' => ?_) fun x hx => ?_).symm
 ·rcases List.mem_append.1 hr' with hr' | hr'
  ·exact e3 r hr'
  ·rw [List.mem_singleton.1 hr']
   exact Spn.trans (fun e he => by
    obtain ⟨r2, h2, rfl⟩ := List.mem_map.1 he
    exact e3 r2 h2) h
 ·refine Spn.trans (fun e he => Spn.mem ?_) (e4 x hx)
  rw [List.map_append]
  exact List.mem_append_left _ he

theorem rank_more {inv : Int → Int} {p : Int} (hp : 1 < p) (hinv : InvOk inv p) {n : Nat} {rows : List (List Int)} {row : List Int} (hr : ∀ r ∈ rows, RowOk p n r) (hrow : RowOk p n row) (h : ¬ Spn p (rows.map vec) (vec row)) : rankT inv p (rows ++ [row]) = rankT inv p rows + 1 := by
 obtain ⟨h1, h2, h3, _, h5⟩ := rankKept_ok hp hinv rows [] ⟨fun x h => (by cases h), fun x h => (by cases h), by simp⟩ hr
 have hs := rankStep_ok hp hinv h1 hrow
 have e : rankKept inv p (rows ++ [row]) = rankStep inv p (rankKept inv p rows) row := by
  unfold rankKept
  rw [List.foldl_append]
  rfl
 unfold rankT
 rw [e]
 have hk : rankStep inv p (rankKept inv p rows) row = rankKept inv p rows ∨ (rankStep inv p (rankKept inv p rows) row).length = (rankKept inv p rows).length + 1 := by
  unfold rankStep
  dsimp only
  split
  ·exact .inl rfl
  ·exact .inr (by simp)
 rcases hk with hk | hk
 ·exfalso
  refine h ?_
  have h6 := hs.2.2.1
  have hk2 : rankStep inv p (rows.foldl (rankStep inv p) []) row = rows.foldl (rankStep inv p) [] := hk
  rw [hk2] at h6
  refine Spn.trans (fun e he => ?_) h6
  obtain ⟨x, hx, rfl⟩ := List.mem_map.1 he
  exact h5 (rows.map vec) (fun x h => (by cases h)) (fun r h => Spn.mem (List.mem_map_of_mem h)) x hx
 ·exact hk

def coefT (e : List Int) (f : Pl) : Int := f.foldl (fun x t => if (t.e == e) = true then t.c else x) 0
def indE (e : List Int) : List Int → Int := fun x => if x = e then 1 else 0

theorem coef_none {e : List Int} : ∀ {f : Pl} {x : Int}, (∀ t ∈ f, t.e ≠ e) → f.foldl (fun x t => if (t.e == e) = true then t.c else x) x = x ∧ Lf (indE e) f = 0
 | [], x, _ => ⟨rfl, rfl⟩
 | t :: f, x, h => by
  have ht := h t (by simp)
  obtain ⟨h1, h2⟩ := coef_none (f := f) (x := x) fun u hu => h u (by simp [hu])
  rw [List.foldl_cons, if_neg (by simpa using ht), Lf_cons, h2]
  exact ⟨h1, by unfold indE; rw [if_neg ht]; omega⟩

theorem coef_go {e : List Int} : ∀ {f : Pl} {x : Int}, f.Pairwise (fun a b => a.e ≠ b.e) → f.foldl (fun x t => if (t.e == e) = true then t.c else x) x = if (∃ t ∈ f, t.e = e) then Lf (indE e) f else x
 | [], x, _ => by simp
 | t :: f, x, h => by
  obtain ⟨h1, h2⟩ := List.pairwise_cons.1 h
  rw [List.foldl_cons, Lf_cons]
  by_cases ht : t.e = e
  ·obtain ⟨g1, g2⟩ := coef_none (e := e) (f := f) (x := t.c) fun u hu he => h1 u hu (ht.trans he.symm)
   rw [if_pos (by simpa using ht), g1, g2, if_pos ⟨t, by simp, ht⟩]
   unfold indE
   rw [if_pos ht]
   omega
  ·rw [if_neg (by simpa using ht), coef_go h2]
   have e1 : (∃ u ∈ t :: f, u.e = e) ↔ ∃ u ∈ f, u.e = e := by
    constructor
    ·rintro ⟨u, hu, he⟩
     rcases List.mem_cons.1 hu with rfl | hu
     ·exact absurd he ht
     ·exact ⟨u, hu, he⟩
    ·rintro ⟨u, hu, he⟩; exact ⟨u, by simp [hu], he⟩
   have e2 : t.c * indE e t.e + Lf (indE e) f = Lf (indE e) f := by
    unfold indE
    rw [if_neg ht]
    omega
   rw [e2]
   by_cases hx : ∃ u ∈ f, u.e = e
   ·rw [if_pos hx, if_pos (e1.2 hx)]
   ·rw [if_neg hx, if_neg fun h => hx (e1.1 h)]

theorem coef_is {e : List Int} {f : Pl} (h : f.Pairwise fun a b => a.e ≠ b.e) : coefT e f = Lf (indE e) f := by
 unfold coefT
 rw [coef_go h]
 split
 ·rfl
 ·rename_i hx
  exact ((coef_none (x := 0) fun t ht he => hx ⟨t, ht, he⟩).2).symm

theorem PB.apart {lo p o : Int} {n : Nat} {B : Int} {f : Pl} (h : PB lo p o n B f) : f.Pairwise fun a b => a.e ≠ b.e := h.sorted.imp fun {a b} hab he => by
 rw [he, cmpM_self] at hab
 omega

theorem coef_range {lo p o : Int} {n : Nat} {B : Int} {f : Pl} (hp : 0 < p) (hlo : 0 ≤ lo) (h : PB lo p o n B f) (e : List Int) : 0 ≤ coefT e f ∧ coefT e f < p := by
 unfold coefT
 suffices ∀ (f : Pl) (x : Int), (∀ t ∈ f, 0 ≤ t.c ∧ t.c < p) → 0 ≤ x ∧ x < p → 0 ≤ f.foldl (fun x t => if (t.e == e) = true then t.c else x) x ∧ f.foldl (fun x t => if (t.e == e) = true then t.c else x) x < p from
  this f 0 (fun t ht => ⟨by have := (h.all t ht).lo; omega, (h.all t ht).hi⟩) ⟨Int.le_refl _, hp⟩
 intro f
 induction f with
 | nil => intro x _ hx; exact hx
 | cons t f ih =>
  intro x hf hx
  rw [List.foldl_cons]
  refine ih _ (fun u hu => hf u (by simp [hu])) ?_
  split
  ·exact hf t (by simp)
  ·exact hx

def indP (y : Nat × List Int) : Ps := fun j e => if (j, e) = y then 1 else 0
def indK (K : List (Nat × List Int)) (c : Nat) : Ps := match K[c]? with
 | some y => indP y
 | none => fun _ _ => 0

def rowK (K : List (Nat × List Int)) (v : Vc) : List Int := K.map fun y => coefT y.2 (v.getD y.1 [])

theorem LvGo_ind (a : Nat) (e : List Int) : ∀ (v : Vc) (j : Nat), LvGo (indP (a, e)) j v = if j ≤ a then Lf (indE e) (v.getD (a - j) []) else 0
 | [], j => by
  unfold LvGo
  split <;> simp [Lf]
 | f :: v, j => by
  unfold LvGo
  rw [LvGo_ind a e v (j + 1)]
  by_cases h : j = a
  ·subst h
   rw [if_neg (by omega), if_pos (Nat.le_refl _), Nat.sub_self]
   have : indP (j, e) j = indE e := by
    funext x
    unfold indP indE
    by_cases hx : x = e
    ·rw [if_pos hx, if_pos (by rw [hx])]
    ·rw [if_neg hx, if_neg fun h => hx (Prod.mk.inj h).2]
   rw [this]
   simp
  ·have h0 : Lf (indP (a, e) j) f = 0 := by
    have : indP (a, e) j = fun _ => 0 := by
     funext x
     unfold indP
     rw [if_neg fun hh => h (Prod.mk.inj hh).1]
    rw [this]
    induction f with
    | nil => rfl
    | cons t f ih => rw [Lf_cons, ih]; omega
   rw [h0]
   by_cases h2 : j ≤ a
   ·rw [if_pos h2, if_pos (by omega), show a - j = (a - (j + 1)) + 1 by omega]
    simp
   ·rw [if_neg h2, if_neg (by omega)]
    rfl

theorem rowK_vec {K : List (Nat × List Int)} {v : Vc} (hv : ∀ f ∈ v, f.Pairwise fun a b => a.e ≠ b.e) (c : Nat) : vec (rowK K v) c = ev v (indK K c) := by
 have hg : ∀ a, (v.getD a []).Pairwise fun x y : Tm => x.e ≠ y.e := fun a => by
  rw [List.getD_eq_getElem?_getD]
  cases hx : v[a]? with
  | none => exact List.Pairwise.nil
  | some f => exact hv f (List.mem_of_getElem? hx)
 unfold indK
 by_cases hc : c < K.length
 ·rw [List.getElem?_eq_getElem hc]
  dsimp only
  have e : vec (rowK K v) c = coefT K[c].2 (v.getD K[c].1 []) := by
   unfold rowK vec
   simp [hc]
  unfold ev
  rw [e, coef_is (hg _), show indP K[c] = indP (K[c].1, K[c].2) from rfl, LvGo_ind, if_pos (Nat.zero_le _), Nat.sub_zero]
 ·rw [List.getElem?_eq_none (by omega)]
  dsimp only
  rw [vec_ge (by unfold rowK; simp; omega)]
  unfold ev
  exact (LvGo_zero fun i hi t ht => rfl).symm

theorem sum_single {K : List (Nat × List Int)} (g : Nat × List Int → Int) {y : Nat × List Int} : K.Nodup → y ∈ K → (K.map fun z => (if y = z then (1 : Int) else 0) * g z).sum = g y := by
 induction K with
 | nil => intro _ h; cases h
 | cons x K ih =>
  intro hnd hy
  rw [List.nodup_cons] at hnd
  rw [List.map_cons, List.sum_cons]
  by_cases hx : y = x
  ·subst hx
   rw [if_pos rfl]
   have : (K.map fun z => (if y = z then (1 : Int) else 0) * g z).sum = 0 := by
    have hall : ∀ z ∈ K, (if y = z then (1 : Int) else 0) * g z = 0 := fun z hz => by
     rw [if_neg fun h => hnd.1 (by rw [h]; exact hz)]
     omega
    rw [List.map_congr_left hall]
    clear ih hnd hy hall
    induction K with
    | nil => rfl
    | cons a K ih => rw [List.map_cons, List.sum_cons, ih]; rfl
   rw [this]
   omega
  ·rw [if_neg hx, ih hnd.2 (by rcases List.mem_cons.1 hy with h | h; exact absurd h hx; exact h)]
   omega

theorem sum_add2 {α : Type} (f g : α → Int) : ∀ l : List α, (l.map fun x => f x + g x).sum = (l.map f).sum + (l.map g).sum
 | [] => rfl
 | x :: l => by
  rw [List.map_cons, List.map_cons, List.map_cons, List.sum_cons, List.sum_cons, List.sum_cons, sum_add2 f g l]
  omega

theorem sum_mul2 {α : Type} (c : Int) (f : α → Int) : ∀ l : List α, (l.map fun x => c * f x).sum = c * (l.map f).sum
 | [] => by simp
 | x :: l => by
  rw [List.map_cons, List.map_cons, List.sum_cons, List.sum_cons, sum_mul2 c f l, Int.mul_add]

theorem Lf_all {K : List (Nat × List Int)} (hK : K.Nodup) (ψ : Ps) (j : Nat) : ∀ (f : Pl), (∀ t ∈ f, (j, t.e) ∈ K) → Lf (ψ j) f = (K.map fun y => Lf (indP y j) f * ψ y.1 y.2).sum
 | [], _ => by
  have : (K.map fun y => Lf (indP y j) [] * ψ y.1 y.2) = K.map fun _ => (0 : Int) := List.map_congr_left fun y _ => by rw [Lf_nil]; omega
  have h0 : ∀ K : List (Nat × List Int), (K.map fun _ => (0 : Int)).sum = 0 := fun K => by
   induction K with
   | nil => rfl
   | cons a K ih => rw [List.map_cons, List.sum_cons, ih]; rfl
  rw [this, Lf_nil, h0]
 | t :: f, h => by
  rw [Lf_cons, Lf_all hK ψ j f fun u hu => h u (by simp [hu])]
  have e : (K.map fun y => Lf (indP y j) (t :: f) * ψ y.1 y.2) = K.map fun y => t.c * ((if (j, t.e) = y then (1 : Int) else 0) * ψ y.1 y.2) + Lf (indP y j) f * ψ y.1 y.2 := List.map_congr_left fun y _ => by
   rw [Lf_cons, Int.add_mul, Int.mul_assoc]
   rfl
  rw [e, sum_add2, sum_mul2, sum_single (fun y => ψ y.1 y.2) hK (h t (by simp))]

theorem LvGo_all {K : List (Nat × List Int)} (hK : K.Nodup) (ψ : Ps) : ∀ (v : Vc) (j : Nat), (∀ (i : Nat) (hi : i < v.length), ∀ t ∈ v[i], (j + i, t.e) ∈ K) → LvGo ψ j v = (K.map fun y => LvGo (indP y) j v * ψ y.1 y.2).sum
 | [], j, _ => by
  have := Lf_all hK ψ 0 [] fun t ht => (by cases ht)
  exact this
 | f :: v, j, h => by
  have h1 := Lf_all hK ψ j f fun t ht => by simpa using h 0 (by simp) t (by simpa using ht)
  have h2 := LvGo_all hK ψ v (j + 1) fun i hi t ht => by
   have := h (i + 1) (by simp; omega) t (by simpa using ht)
   rwa [show j + 1 + i = j + (i + 1) by omega]
  show Lf (ψ j) f + LvGo ψ (j + 1) v = (K.map fun y => (Lf (indP y j) f + LvGo (indP y) (j + 1) v) * ψ y.1 y.2).sum
  rw [h1, h2, ← sum_add2]
  congr 1
  exact List.map_congr_left fun y _ => (Int.add_mul _ _ _).symm

def tF (K : List (Nat × List Int)) (u : Fv) : Fu := fun ψ => ((List.range K.length).map fun c => u c * ψ (K.getD c default).1 (K.getD c default).2).sum

theorem range_map {α : Type} [Inhabited α] (K : List α) (g : α → Int) : ((List.range K.length).map fun c => g (K.getD c default)) = K.map g := by
 apply List.ext_getElem
 ·simp
 ·intro i h1 h2
  have hi : i < K.length := by simpa using h1
  simp [hi]

theorem tF_ev {r : Rg} {k : Nat} {δ : Nat → Int} {τ : Int} {v : Vc} (hc : Cx r k δ) (hv : HV r k δ τ v) (ψ : Ps) : tF (keysT r.n.toNat k δ τ) (vec (rowK (keysT r.n.toNat k δ τ) v)) ψ = ev v ψ := by
 have hn1 := hc.rg.2.2.1
 have hap : ∀ f ∈ v, f.Pairwise fun a b => a.e ≠ b.e := fun f hf => (hv.pb f hf).apart
 have hnd := keysT_nodup r.n.toNat k δ τ
 have hall := LvGo_all hnd ψ v 0 fun i hi t ht => by
  rw [Nat.zero_add]
  have hik : i < k := by have := hv.len; omega
  have hb := (hv.all i hi).all t ht
  exact (keysT_mem (by omega)).2 ⟨hik, ⟨hb.len, fun x hx => (hb.mem x hx).1⟩, hv.hom i hi t ht⟩
 unfold tF
 show _ = LvGo ψ 0 v
 rw [hall, ← range_map (keysT r.n.toNat k δ τ) fun y => LvGo (indP y) 0 v * ψ y.1 y.2]
 congr 1
 refine List.map_congr_left fun c hcr => ?_
 have hcl := List.mem_range.1 hcr
 rw [rowK_vec hap c]
 unfold indK
 rw [List.getElem?_eq_getElem hcl, getD_lt hcl]
 rfl

theorem tF_sub (K : List (Nat × List Int)) (u e : Fv) (c : Int) (ψ : Ps) : tF K (fun j => u j - c * e j) ψ = tF K u ψ - c * tF K e ψ := by
 unfold tF
 generalize List.range K.length = l
 induction l with
 | nil => simp
 | cons x l ih =>
  rw [List.map_cons, List.map_cons, List.map_cons, List.sum_cons, List.sum_cons, List.sum_cons, ih, Int.mul_add, Int.sub_mul, Int.mul_assoc]
  omega

theorem spn_sp {p : Int} {K : List (Nat × List Int)} : ∀ {R : List Fv} {u : Fv}, Spn p R u → Sp p (fun X => ∃ e ∈ R, X = tF K e) (tF K u)
 | [], u, h => .zero fun ψ => by
  unfold tF
  generalize List.range K.length = l
  induction l with
  | nil => exact Int.dvd_zero p
  | cons x l ih =>
   rw [List.map_cons, List.sum_cons]
   exact Int.dvd_add (Int.dvd_trans (h x) (Int.dvd_mul_right _ _)) ih
 | e :: R, u, h => by
  obtain ⟨c, hc⟩ := h
  refine Sp.step c ⟨e, by simp, rfl⟩ ?_
  have h2 := spn_sp (K := K) hc
  have e1 : (fun ψ => tF K u ψ - c * tF K e ψ) = tF K fun j => u j - c * e j := funext fun ψ => (tF_sub K u e c ψ).symm
  rw [e1]
  exact h2.mono fun X ⟨x, hx, hX⟩ => ⟨x, by simp [hx], hX⟩
end
section
open Go.RowKit
set_option maxHeartbeats 8000000
end
section
open Go.RowKit
set_option maxHeartbeats 8000000

theorem turn_all : ((List.range 102).all fun p => ckP (p : Int) != 0 || ((List.range p).all fun a => a == 0 || ((a : Int) * turnP p a % p == 1))) = true := by decide +kernel

theorem turnP_inv {p : Int} (hp : ckP p = 0) : InvOk (turnP p) p := by
 intro a h0 h1
 have h2 := ckP_ok hp
 obtain ⟨q, rfl⟩ := Int.eq_ofNat_of_zero_le (show 0 ≤ p by omega)
 obtain ⟨b, rfl⟩ := Int.eq_ofNat_of_zero_le (show 0 ≤ a by omega)
 have h3 := List.all_eq_true.1 turn_all q (List.mem_range.2 (by omega))
 rw [hp] at h3
 have h4 : ((List.range q).all fun a => a == 0 || ((a : Int) * turnP q a % q == 1)) = true := h3
 have h5 := List.all_eq_true.1 h4 b (List.mem_range.2 (by omega))
 simp only [Bool.or_eq_true, beq_iff_eq] at h5
 exact h5.resolve_left (by omega)

theorem PureH.call {P : Program} {H : Heap} {f : FuncId} {ds : List D} {d : D} (h : PureH P H f ds d) {K : D → Heap → Prop} (hk : K d H) : CallD P H f ds K :=
 ⟨h.body, fun w args ho ha => (h.calls w args ho ha).mono fun en w' ⟨v, h1, h2, h3, h4⟩ => ⟨v, d, H, h1, hk, h2, h3, h4⟩⟩

def rowD (n b : Nat) : D := if 0 < n then .ref b 0 n 1 else .list 1 []

theorem Acc.over {H0 H H' : Heap} {d : D} {k : Nat} {T : TypeId} {l : List D} (h : Acc H0 H d k T l) (ho : Over H H') : Acc H0 H' d k T l :=
 ⟨h.uni, h.is.imp id fun ⟨b, h1, h2, h3⟩ => ⟨b, h1, h2, ho _ _ h3⟩⟩

theorem Over.trans {A B C : Heap} (h : Over A B) (k : Over B C) : Over A C := fun b x hx => k b x (h b x hx)

def rowsCk (p : Int) (rows : List (List Int)) : Int :=
 if 400 < rows.length ∨ (rows.any fun r => decide (400 < r.length)) = true then 2
 else if (rows.any fun r => decide (r.length ≠ (rows.headD []).length)) = true then 1
 else if (rows.any fun r => !(r.all (inP p))) = true then 3 else 0

theorem rowsCk_ok {p : Int} {rows : List (List Int)} (h : rowsCk p rows = 0) : rows.length ≤ 400 ∧ (rows.headD []).length ≤ 400 ∧ ∀ r ∈ rows, RowOk p (rows.headD []).length r := by
 unfold rowsCk at h
 split at h
 ·cases h
 ·rename_i h1
  split at h
  ·cases h
  ·rename_i h2
   split at h
   ·cases h
   ·rename_i h3
    have g1 : rows.length ≤ 400 := by omega
    have g2 : ∀ r ∈ rows, r.length ≤ 400 := fun r hr => by
     rcases Nat.lt_or_ge 400 r.length with hlt | hge
     ·exact absurd (.inr (List.any_eq_true.2 ⟨r, hr, by simpa using hlt⟩)) h1
     ·exact hge
    refine ⟨g1, ?_, fun r hr => ⟨?_, fun x hx => ?_⟩⟩
    ·cases rows with
     | nil => simp
     | cons r rows => exact g2 r (by simp)
    ·refine Classical.byContradiction fun hne => h2 (List.any_eq_true.2 ⟨r, hr, by simpa using hne⟩)
    ·have : r.all (inP p) = true := by
      cases hb : r.all (inP p) with
      | true => rfl
      | false => exact absurd (List.any_eq_true.2 ⟨r, hr, by rw [hb]; rfl⟩) h3
     exact inP_iff.1 (List.all_eq_true.1 this x hx)
end
section
open Go.RowKit
set_option maxHeartbeats 8000000
end
end Go.Proofs.YtfjmdhemlfafbaaGreat
