/-
  Package hilbert: numerator. No condition.
-/
import Derived.Test.YtfjmdhemlfafbaaGreatKHc23
import Derived.Test.YtfjmdhemlfafbaaGreatKHc6
import Derived.Test.YtfjmdhemlfafbaaGreatKHc20
import Derived.Test.YtfjmdhemlfafbaaGreatKHc21
import Derived.Test.YtfjmdhemlfafbaaGreatKHc14
import Derived.Test.YtfjmdhemlfafbaaGreatKHc8
set_option linter.unusedVariables false
set_option linter.unusedSimpArgs false

namespace Go.Proofs.YtfjmdhemlfafbaaGreat
section
open Go.RowKit
set_option maxHeartbeats 8000000

theorem MkAt.next {H00 H H' : Heap} {bm bp b1 : Nat} {r : Rg} {ms : List Mb} {ps ps' : List Pr} (h : MkAt H00 H bm r ms ps (.ref b1 0 ms.length 5) (.ref bp 0 ps.length 3)) (h1 : H' bm = some (83, mkCs r (.ref b1 0 ms.length 5) (.ref bp 0 ps'.length 3))) (h2 : H' bp = some (93, (ps'.map prC).flatten))
  (hk : ∀ c z, c ≠ bm → c ≠ bp → H c = some z → H' c = some z) (hm0 : H00 bp = none) (hx : H b1 = some (68, (ms.map mbD).flatMap cellsOf)) (h10 : H00 b1 = none) : MkAt H00 H' bm r ms ps' (.ref b1 0 ms.length 5) (.ref bp 0 ps'.length 3) := by
 have n1 : b1 ≠ bm := fun e => h.n1 (by rw [e]; rfl)
 have n3 : b1 ≠ bp := fun e => h.n3 (b := b1) rfl (by rw [e]; rfl)
 refine ⟨h.own, fun c z hc => hk c z (fun e => by rw [e, h.own] at hc; cases hc) (fun e => by rw [e, hm0] at hc; cases hc) (h.over c z hc), h1, ⟨uni_mb _, .inr ⟨b1, h10, by simp, hk _ _ n1 n3 hx⟩⟩, ⟨uni_pr _, .inr ⟨bp, hm0, by simp, ?_⟩⟩⟩
 rw [h2]
 congr 2
 exact (flat_map prC ps').symm

theorem ME.mok {n : Nat} {e : List Int} (h : ME n e) : MOk e := by
 rcases h.cases with ⟨_, rfl⟩ | ⟨x, _, rfl, h1, h2⟩ | ⟨x, y, _, rfl, h1, h2, h3⟩ | ⟨x, y, z, _, rfl, h1, h2, h3, h4⟩
 ·exact ⟨by simp, fun x hx => by simp at hx⟩
 ·exact ⟨by simp, fun y hy => by simp at hy; omega⟩
 ·exact ⟨by simp, fun w hw => by simp at hw; omega⟩
 ·exact ⟨by simp, fun w hw => by simp at hw; omega⟩

theorem ME.le {n : Nat} {e : List Int} (h : ME n e) {x : Int} (hx : x ∈ e) : x ≤ 8000 := by
 rcases h.cases with ⟨_, rfl⟩ | ⟨y, _, rfl, h1, h2⟩ | ⟨y, z, _, rfl, h1, h2, h3⟩ | ⟨y, z, w, _, rfl, h1, h2, h3, h4⟩
 ·simp at hx
 ·simp at hx; omega
 ·simp at hx; omega
 ·simp at hx; omega

theorem dvC_mb {r : Rg} {x : Mb} (h : topV r x.v = some (x.a, x.u)) : dvC r x.v = [vcD x.v, I (x.a : Nat), I x.u.c, intsD x.u.e] := by
 unfold dvC
 rw [h]
 rfl

theorem grow_call {H00 H : Heap} {bm : Nat} {r : Rg} {k : Nat} {δ : Nat → Int} {m : Nat} {d : Nat → Int} {G0 : List Mb} {s0 : GS} {dm dp : D} (hm0 : MkAt H00 H bm r s0.ms s0.ps dm dp) (hg0 : GInv r k δ m d G0 s0) :
  CallD Tryz.prog H 52 [.ptr bm 0] fun _ H' => ∃ dm' dp', MkAt H00 H' bm r (growEnd r k s0).ms [] dm' dp' ∧ GInv r k δ m d G0 (growEnd r k s0) ∧ (growEnd r k s0).ps = [] := by
 refine CallD.of_body Tryz.func52 rfl (by decide) (Nat.le_of_ble_eq_true rfl) fun w0 => ?_
 (repeat(first|refine zA ?_|refine zB ?_|refine zE rfl (by decide) rfl ?_|refine zF ?_|refine zG ?_|refine zH ?_|refine zI ?_|refine zJ ?_|refine zK ?_|refine zL rfl ?_|refine zM rfl ?_))
 refine DW.loopG (fun z : GS × Heap × D × D => GAt r k δ m d G0 s0 z.1 ∧ MkAt H00 z.2.1 bm r z.1.ms z.1.ps z.2.2.1 z.2.2.2) (fun z => [(0, .ptr bm 0)]) (fun z => z.2.1) (fun z => muG z.1) (s0, H, dm, dp)
  ⟨⟨hg0, rfl⟩, hm0⟩ (Heap.sub_refl _) (by repeat first | exact trivial | refine HasG.one rfl ?_ | refine HasN.one rfl ?_) fun ⟨s, Hs, em, ep⟩ ⟨hat, hmk⟩ => ?_
 dsimp only at hat hmk ⊢
 have hmb := hmk.at_
 (repeat(first|refine zA ?_|refine zB ?_|refine zE rfl (by decide) rfl ?_|refine zF ?_|refine zG ?_|refine zH ?_|refine zI ?_|refine zJ ?_|refine zK ?_|refine zL rfl ?_|refine zM rfl ?_))
 refine RO.sta (s_nilCheck rfl) rfl ?_
 (repeat(first|refine zA ?_|refine zB ?_|refine zE rfl (by decide) rfl ?_|refine zF ?_|refine zG ?_|refine zH ?_|refine zI ?_|refine zJ ?_|refine zK ?_|refine zL rfl ?_|refine zM rfl ?_))
 refine RO.sta (s_loadMut (d := ep) rfl hmb rfl) rfl ?_
 refine RO.sta (s_len rfl hmk.ps.len') rfl ?_
 rw [List.length_map]
 (repeat(first|refine zA ?_|refine zB ?_|refine zE rfl (by decide) rfl ?_|refine zF ?_|refine zG ?_|refine zH ?_|refine zI ?_|refine zJ ?_|refine zK ?_|refine zL rfl ?_|refine zM rfl ?_))
 refine DW.cond rfl (fun hb => ?_) (fun hb => ?_)
 ·have hpos : 0 < s.ps.length := by have := of_decide_eq_true hb; omega
  clear hb
  have hne : s.ps ≠ [] := fun e => by rw [e] at hpos; exact absurd hpos (by simp)
  obtain ⟨p, hp⟩ := hat.inv.next hne
  obtain ⟨hat2, hmu⟩ := hat.step hne
  have hinv := hat.inv
  have hst := hinv.pair hp
  have hc := hinv.gens.cx
  have hcY := hinv.cxY
  obtain ⟨hp2, hn3, hn1, hpr, hck⟩ := hc.rg
  have htot := hinv.total
  have hmany := hinv.many
  have hpl : s.ps.length ≤ 2900000000000 := by
   have : s.ms.length * 948224 ≤ 2844664 * 948224 := Nat.mul_le_mul_right _ htot
   omega
  have hik := hp.ik
  have hkl := hp.kl
  have hil : p.i < s.ms.length := by omega
  have mi := GS.m_eq hil
  have mk := GS.m_eq hkl
  have ox := hp.pair.ox
  have oy := hp.pair.oy
  obtain ⟨fL, gx, gy, mx, my, tx, ty, xk, sx, sy⟩ := hp.pair.facts
  have hsame := hp.pair.same
  have yx := hinv.ys _ (GS.m_mem hil)
  have yy := hinv.ys _ (GS.m_mem hkl)
  have he := hp.e
  have h8 := hp.pair.t8
  have hx0 := hc.pos (s.m p.i).a
  have hpv : pairV2 r s p = lessT r (s.m p.i).v (s.m p.k).v (upT r (s.m p.i).u p.e) (upT r (s.m p.k).u p.e) := rfl
  have hpy : pairY r s p = lessT r (s.m p.i).y (s.m p.k).y (upT r (s.m p.i).u p.e) (upT r (s.m p.k).u p.e) := rfl
  have hgs := growStep_eq r k s
  rw [hp.is] at hgs
  obtain ⟨⟨ua1, ua2⟩, ua3, ua4, ua5, ua6⟩ := upT_ok hck tx mx.mn fL gx
  obtain ⟨⟨ub1, ub2⟩, ub3, ub4, ub5, ub6⟩ := upT_ok hck ty my.mn fL gy
  rw [← he] at ua1 ua2 ua3 ua4 ua5 ub1 ub2 ub3 ub4 ub5 fL h8
  generalize hX : s.m p.i = X at *
  generalize hY : s.m p.k = Y at *
  obtain ⟨b1, g1, g2, g3, g4⟩ := hmk.ms.rowAt (f := mbC) (fun _ => rfl) (by omega)
  obtain ⟨bp, q1, q2, q3, q4⟩ := hmk.ps.rowAt (f := prC) (fun _ => rfl) hpos
  subst g2; subst q2
  have hbmp : bm ≠ bp := fun e => hmk.n2 (by rw [e]; rfl)
  (repeat(first|refine zA ?_|refine zB ?_|refine zE rfl (by decide) rfl ?_|refine zF ?_|refine zG ?_|refine zH ?_|refine zI ?_|refine zJ ?_|refine zK ?_|refine zL rfl ?_|refine zM rfl ?_))
  refine RO.dyn rfl ((opD_call rfl rfl (next_call hmb q4 hbmp hne (by omega) fun q hq => ?_)).mono fun dd Hn ⟨hdd, hn1', hn2', hn3'⟩ => ?_)
  ·obtain ⟨v1, v2, v3, v4⟩ := hinv.val q hq
   have d3 := hinv.dgb _ (GS.m_mem (show q.i < s.ms.length by omega))
   have d4 := hinv.dgb _ (GS.m_mem v2)
   have e3 := hc.pos (s.m q.i).a
   have e4 := hc.pos (s.m q.k).a
   obtain ⟨_, _, w3⟩ := (hinv.ok _ (GS.m_mem (show q.i < s.ms.length by omega))).ld hc
   obtain ⟨_, _, w4⟩ := (hinv.ok _ (GS.m_mem v2)).ld hc
   obtain ⟨l1, l2, l3, l4⟩ := max_sum (a := (s.m q.i).u.e) (b := (s.m q.k).u.e) (by rw [w3.len, w4.len]) w3.pos w4.pos
   unfold Mb.dg at d3 d4
   rw [v4]
   exact ME.mok (n := r.n.toNat) ⟨zipE_same_len w3.len w4.len, hn3, l4, by unfold lcmE; omega⟩
  subst hdd
  have hmN : MkAt H00 Hn bm r s.ms (s.ps.eraseIdx (nextAt s.ps)) (.ref b1 0 s.ms.length 5) (.ref bp 0 (s.ps.eraseIdx (nextAt s.ps)).length 3) := by
   have hel : (s.ps.eraseIdx (nextAt s.ps)).length = s.ps.length - 1 := by rw [List.length_eraseIdx, if_pos hp.at_]
   refine hmk.next (by rw [hel]; exact hn1') hn2' hn3' q1 ?_ g1
   rw [g4]
   congr 2
   exact (flat_map mbC s.ms).symm
  clear hn1' hn2' hn3' hmb
  have hel : (s.ps.eraseIdx (nextAt s.ps)).length ≤ s.ps.length := List.length_eraseIdx_le _ _
  rw [hp.is]
  refine RO.dyn rfl (d_alloc fun b2 hb2 => ?_)
  (repeat(first|refine zA ?_|refine zB ?_|refine zE rfl (by decide) rfl ?_|refine zF ?_|refine zG ?_|refine zH ?_|refine zI ?_|refine zJ ?_|refine zK ?_|refine zL rfl ?_|refine zM rfl ?_))
  refine RO.dyn rfl (d_store (k := 3) rfl rfl rfl (Heap.set_self _ _ _) (Nat.le_refl _) (by simp [cellsOf, prC, prD, D.isCell, intsD]) ?_)
  rw [Heap.set_set]
  have hov2 : Over Hn (Hn.set b2 (93, setMany [I 0, I 0, .nil] 0 (cellsOf (prD p)))) := (Over.refl Hn).set hb2
  have h2 : (Hn.set b2 (93, setMany [I 0, I 0, .nil] 0 (cellsOf (prD p)))) b2 = some (93, prC p) := Heap.set_self _ _ _
  generalize Hn.set b2 (93, setMany [I 0, I 0, .nil] 0 (cellsOf (prD p))) = H2 at *
  have hm2 := hmN.mono hov2
  have hat_2 := hm2.at_
  obtain ⟨bb, gg1, gg2, gg3, gg4⟩ := hm2.ms.rowAt (f := mbC) (fun _ => rfl) (by omega)
  cases gg2
  have hci : ∃ T cells, H2 b1 = some (T, cells) ∧ (cells.drop (0 + p.i * 5)).take 5 = mbC X ∧ (cells.drop (0 + p.k * 5)).take 5 = mbC Y := by
   obtain ⟨T2, cells, z1, z2, z3⟩ := gg3
   exact ⟨T2, cells, z1, by rw [z3 p.i (by simpa using hil)]; simp [← mi], by rw [z3 p.k (by simpa using hkl)]; simp [← mk]⟩
  obtain ⟨T2, cells, z1, z2, z3⟩ := hci
  (repeat(first|refine zA ?_|refine zB ?_|refine zE rfl (by decide) rfl ?_|refine zF ?_|refine zG ?_|refine zH ?_|refine zI ?_|refine zJ ?_|refine zK ?_|refine zL rfl ?_|refine zM rfl ?_))
  refine DW.draw2Y 16 [8, 9, 10, 11, 12, 13, 14, 15] ⟨3, 68, [.nil, I 0, I 0, .nil, .nil], 4, 68, [.nil, I 0, I 0, .nil, .nil]⟩ Tryz.mixed rfl rfl ⟨_, _, _, rfl⟩ ⟨_, _, _, rfl⟩ (by kernel_rfl) (by kernel_rfl) (ElT.z (P := Tryz.prog) (E := 68)) (ElT.z (P := Tryz.prog) (E := 68)) (Nat.le_of_ble_eq_true rfl) (Nat.le_of_ble_eq_true rfl) ?_
  (repeat(first|refine RX.A ?_|refine RX.nil ?_))
  refine RX.any (fun H' => s_nilCheck rfl) rfl ?_
  (repeat(first|refine RX.A ?_|refine RX.nil ?_))
  refine RX.old (r_loadMut (d := .ref b1 0 s.ms.length 5) rfl hat_2 rfl) rfl ?_
  (repeat(first|refine RX.A ?_|refine RX.nil ?_))
  refine RX.old (r_loadMut (d := I (p.i : Nat)) rfl h2 rfl) rfl ?_
  refine RX.any (fun H' => s_indexRef (i := p.i) rfl rfl hil) rfl ?_
  refine RX.old (r_loadMutAgg (ds := mbC X) rfl z1 z2 rfl) rfl ?_
  (repeat(first|refine RX.A ?_|refine RX.nil ?_))
  refine RX.any (fun H' => s_nilCheck rfl) rfl ?_
  (repeat(first|refine RX.A ?_|refine RX.nil ?_))
  refine RX.old (r_loadMut (d := .ref b1 0 s.ms.length 5) rfl hat_2 rfl) rfl ?_
  (repeat(first|refine RX.A ?_|refine RX.nil ?_))
  refine RX.old (r_loadMut (d := I (p.k : Nat)) rfl h2 rfl) rfl ?_
  refine RX.any (fun H' => s_indexRef (i := p.k) rfl rfl hkl) rfl ?_
  refine RX.old (r_loadMutAgg (ds := mbC Y) rfl z1 z3 rfl) rfl ?_
  refine RX.nil ?_
  intro b3 b4 hb3 hb4 hne34
  have e4 : (H2.set b3 (68, [.nil, I 0, I 0, .nil, .nil])) b4 = none := by rw [Heap.set_other _ _ hne34.symm]; exact hb4
  have e3 : ((H2.set b3 (68, [.nil, I 0, I 0, .nil, .nil])).set b4 (68, [.nil, I 0, I 0, .nil, .nil])) b3 = some (68, [.nil, I 0, I 0, .nil, .nil]) := by rw [Heap.set_other _ _ hne34]; exact Heap.set_self _ _ _
  have o3 : Over H2 ((H2.set b3 (68, [.nil, I 0, I 0, .nil, .nil])).set b4 (68, [.nil, I 0, I 0, .nil, .nil])) := ((Over.refl H2).set hb3).set hb4
  refine RY.dyn rfl (d_store (k := 5) rfl rfl rfl e3 (Nat.le_refl _) (by simp [cellsOf, mbC, D.isCell, vcD, intsD]) ⟨o3.set hb3, ?_⟩)
  refine RY.dyn rfl (d_store (k := 5) (cells := [.nil, I 0, I 0, .nil, .nil]) (T0 := 68) rfl rfl rfl (by rw [Heap.set_other _ _ hne34.symm]; exact Heap.set_self _ _ _) (Nat.le_refl _) (by simp [cellsOf, mbC, D.isCell, vcD, intsD]) ⟨(o3.set hb3).set hb4, ?_⟩)
  refine RY.nil ?_
  have h3 : ((((H2.set b3 (68, [.nil, I 0, I 0, .nil, .nil])).set b4 (68, [.nil, I 0, I 0, .nil, .nil])).set b3 (68, setMany [.nil, I 0, I 0, .nil, .nil] 0 (cellsOf (D.agg (mbC X))))).set b4 (68, setMany [.nil, I 0, I 0, .nil, .nil] 0 (cellsOf (D.agg (mbC Y))))) b3 = some (68, mbC X) := by rw [Heap.set_other _ _ hne34, Heap.set_self]; rfl
  have h4 : ((((H2.set b3 (68, [.nil, I 0, I 0, .nil, .nil])).set b4 (68, [.nil, I 0, I 0, .nil, .nil])).set b3 (68, setMany [.nil, I 0, I 0, .nil, .nil] 0 (cellsOf (D.agg (mbC X))))).set b4 (68, setMany [.nil, I 0, I 0, .nil, .nil] 0 (cellsOf (D.agg (mbC Y))))) b4 = some (68, mbC Y) := Heap.set_self _ _ _
  have hov4 : Over H2 ((((H2.set b3 (68, [.nil, I 0, I 0, .nil, .nil])).set b4 (68, [.nil, I 0, I 0, .nil, .nil])).set b3 (68, setMany [.nil, I 0, I 0, .nil, .nil] 0 (cellsOf (D.agg (mbC X))))).set b4 (68, setMany [.nil, I 0, I 0, .nil, .nil] 0 (cellsOf (D.agg (mbC Y))))) := (o3.set hb3).set hb4
  generalize ((((H2.set b3 (68, [.nil, I 0, I 0, .nil, .nil])).set b4 (68, [.nil, I 0, I 0, .nil, .nil])).set b3 (68, setMany [.nil, I 0, I 0, .nil, .nil] 0 (cellsOf (D.agg (mbC X))))).set b4 (68, setMany [.nil, I 0, I 0, .nil, .nil] 0 (cellsOf (D.agg (mbC Y))))) = H4 at *
  clear o3 e3 e4 hb3 hb4
  have hm4 := hm2.mono hov4
  have hat_4 := hm4.at_
  have h24 := hov4 _ _ h2
  have hpx0 : 0 ≤ X.u.e.sum := mx.mn.sum0
  have hpy0 : 0 ≤ Y.u.e.sum := my.mn.sum0
  have hL0 := fL.sum0
  have meA := ua3.me hn3 (by omega)
  have meB := ub3.me hn3 (by omega)
  have meL : ME r.n.toNat p.e := fL.me hn3 (by omega)
  have tbA : TB 1 r.p r.n.toNat 8000 (upT r X.u p.e) := ⟨ua1, ua2, ua3.len, fun x hx => ⟨ua3.pos x hx, meA.le hx⟩⟩
  have tbB : TB 1 r.p r.n.toNat 8000 (upT r Y.u p.e) := ⟨ub1, ub2, ub3.len, fun x hx => ⟨ub3.pos x hx, meB.le hx⟩⟩
  have c1 := Up_pure r X.v p.e hp2 (by rw [ox.top]; exact ⟨by have := tx.lo; show 0 ≤ X.u.c; omega, tx.hi⟩) meL.mok (by rw [ox.top]; exact mx.mok) (by rw [ox.top]; show p.e.length = X.u.e.length; rw [fL.len, mx.len])
  have c2 := Up_pure r Y.v p.e hp2 (by rw [oy.top]; exact ⟨by have := ty.lo; show 0 ≤ Y.u.c; omega, ty.hi⟩) meL.mok (by rw [oy.top]; exact my.mok) (by rw [oy.top]; show p.e.length = Y.u.e.length; rw [fL.len, my.len])
  rw [show tmOf (topV r X.v) = X.u by rw [ox.top]; rfl] at c1
  rw [show tmOf (topV r Y.v) = Y.u by rw [oy.top]; rfl] at c2
  have hk40 := hc.k40
  have hm40 := hcY.k40
  have c3 := lessen_pure r X.v Y.v (upT r X.u p.e) (upT r Y.u p.e) (n := r.n.toNat) (B := 8000) (C := 8000) (L := 512192024001) hn3 (by omega) (by omega) (by omega) hck hpr (by rw [ox.hv.len]; omega) (by rw [ox.hv.len, oy.hv.len]) (by omega) (ox.hv.vb hc) (oy.hv.vb hc) tbA tbB
  have c4 := lessen_pure r X.y Y.y (upT r X.u p.e) (upT r Y.u p.e) (n := r.n.toNat) (B := 8000) (C := 8000) (L := 512192024001) hn3 (by omega) (by omega) (by omega) hck hpr (by rw [yx.len]; omega) (by rw [yx.len, yy.len]) (by omega) (yx.vb hcY) (yy.vb hcY) tbA tbB
  rw [← hpv] at c3
  rw [← hpy] at c4
  have hms : MsOk r k δ m d s.ms := ⟨hc, hcY, by omega, hinv.ok, hinv.ys⟩
  refine DW.seq ?_
  refine DW.draw2Y 18 [] ⟨5, 55, [I 0, .nil], 6, 55, [I 0, .nil]⟩ Tryz.mixed rfl rfl ⟨_, _, _, rfl⟩ ⟨_, _, _, rfl⟩ (by kernel_rfl) (by kernel_rfl) (ElT.z (P := Tryz.prog) (E := 55)) (ElT.z (P := Tryz.prog) (E := 55)) (Nat.le_of_ble_eq_true rfl) (Nat.le_of_ble_eq_true rfl) ?_
  (repeat(first|refine RX.A ?_|refine RX.nil ?_))
  refine RX.any (fun H' => s_nilCheck rfl) rfl ?_
  (repeat(first|refine RX.A ?_|refine RX.nil ?_))
  refine RX.old (r_loadMutAgg (ds := [I r.p, I r.n, I r.order, I r.over]) rfl hat_4 rfl rfl) rfl ?_
  (repeat(first|refine RX.A ?_|refine RX.nil ?_))
  refine RX.old (r_loadMutAgg (ds := dvC r X.v) rfl h3 (by rw [dvC_mb ox.top]; rfl) (by rw [dvC_mb ox.top]; rfl)) rfl ?_
  (repeat(first|refine RX.A ?_|refine RX.nil ?_))
  refine RX.old (r_loadMut (d := intsD p.e) rfl h24 rfl) rfl ?_
  refine RX.any (fun H' => sta_call rfl rfl (c1 _)) rfl ?_
  (repeat(first|refine RX.A ?_|refine RX.nil ?_))
  refine RX.any (fun H' => s_nilCheck rfl) rfl ?_
  (repeat(first|refine RX.A ?_|refine RX.nil ?_))
  refine RX.old (r_loadMutAgg (ds := [I r.p, I r.n, I r.order, I r.over]) rfl hat_4 rfl rfl) rfl ?_
  (repeat(first|refine RX.A ?_|refine RX.nil ?_))
  refine RX.old (r_loadMutAgg (ds := dvC r Y.v) rfl h4 (by rw [dvC_mb oy.top]; rfl) (by rw [dvC_mb oy.top]; rfl)) rfl ?_
  (repeat(first|refine RX.A ?_|refine RX.nil ?_))
  refine RX.old (r_loadMut (d := intsD p.e) rfl h24 rfl) rfl ?_
  refine RX.any (fun H' => sta_call rfl rfl (c2 _)) rfl ?_
  refine RX.nil ?_
  intro b5 b6 hb5 hb6 hne56
  have e5 : ((H4.set b5 (55, [I 0, .nil])).set b6 (55, [I 0, .nil])) b5 = some (55, [I 0, .nil]) := by rw [Heap.set_other _ _ hne56]; exact Heap.set_self _ _ _
  have o5 : Over H4 ((H4.set b5 (55, [I 0, .nil])).set b6 (55, [I 0, .nil])) := ((Over.refl H4).set hb5).set hb6
  refine RY.dyn rfl (d_store (k := 2) rfl rfl rfl e5 (Nat.le_refl _) (by simp [cellsOf, tmD, D.isCell, intsD]) ⟨o5.set hb5, ?_⟩)
  refine RY.dyn rfl (d_store (k := 2) (cells := [I 0, .nil]) (T0 := 55) rfl rfl rfl (by rw [Heap.set_other _ _ hne56.symm]; exact Heap.set_self _ _ _) (Nat.le_refl _) (by simp [cellsOf, tmD, D.isCell, intsD]) ⟨(o5.set hb5).set hb6, ?_⟩)
  refine RY.nil ?_
  have h5 : ((((H4.set b5 (55, [I 0, .nil])).set b6 (55, [I 0, .nil])).set b5 (55, setMany [I 0, .nil] 0 (cellsOf (tmD (upT r X.u p.e))))).set b6 (55, setMany [I 0, .nil] 0 (cellsOf (tmD (upT r Y.u p.e))))) b5 = some (55, tmCl (upT r X.u p.e)) := by rw [Heap.set_other _ _ hne56, Heap.set_self]; rfl
  have h6 : ((((H4.set b5 (55, [I 0, .nil])).set b6 (55, [I 0, .nil])).set b5 (55, setMany [I 0, .nil] 0 (cellsOf (tmD (upT r X.u p.e))))).set b6 (55, setMany [I 0, .nil] 0 (cellsOf (tmD (upT r Y.u p.e))))) b6 = some (55, tmCl (upT r Y.u p.e)) := Heap.set_self _ _ _
  have hov6 : Over H4 ((((H4.set b5 (55, [I 0, .nil])).set b6 (55, [I 0, .nil])).set b5 (55, setMany [I 0, .nil] 0 (cellsOf (tmD (upT r X.u p.e))))).set b6 (55, setMany [I 0, .nil] 0 (cellsOf (tmD (upT r Y.u p.e))))) := (o5.set hb5).set hb6
  generalize ((((H4.set b5 (55, [I 0, .nil])).set b6 (55, [I 0, .nil])).set b5 (55, setMany [I 0, .nil] 0 (cellsOf (tmD (upT r X.u p.e))))).set b6 (55, setMany [I 0, .nil] 0 (cellsOf (tmD (upT r Y.u p.e))))) = H6 at *
  clear o5 e5 hb5 hb6
  have hm6 := hm4.mono hov6
  have hat_6 := hm6.at_
  have h36 := hov6 _ _ h3
  have h46 := hov6 _ _ h4
  obtain ⟨bc, cc1, cc2, cc3, cc4⟩ := hm6.ms.rowAt (f := mbC) (fun _ => rfl) (by omega)
  cases cc2
  have c5 : ∀ H', Over H6 H' → PureH Tryz.prog H' 68 [.ptr bm 0, vcD (pairV2 r s p), vcD (pairY r s p)] (.tup [vcD (hdiv r k (vsOf s.ms) (pairV2 r s p)).left, vcD (tellY r s.ms (pairY r s p) (hdiv r k (vsOf s.ms) (pairV2 r s p)).σ)]) := fun H' hov => reducedM_pureH hms (hov _ _ hat_6) (cc3.over hov) hst.v hst.top hst.y
  refine DW.seq ?_
  refine DW.drawX (List.range 31) [] H6 Tryz.mixed (by kernel_rfl) (Over.refl _) ?_
  (repeat(first|refine RX.A ?_|refine RX.nil ?_))
  refine RX.any (fun H' => s_nilCheck rfl) rfl ?_
  (repeat(first|refine RX.A ?_|refine RX.nil ?_))
  refine RX.old (r_loadMutAgg (ds := [I r.p, I r.n, I r.order, I r.over]) rfl hat_6 rfl rfl) rfl ?_
  (repeat(first|refine RX.A ?_|refine RX.nil ?_))
  refine RX.old (r_loadMut (d := vcD X.v) rfl h36 rfl) rfl ?_
  (repeat(first|refine RX.A ?_|refine RX.nil ?_))
  refine RX.old (r_loadMut (d := vcD Y.v) rfl h46 rfl) rfl ?_
  refine RX.old (r_loadMutAgg (ds := tmCl (upT r X.u p.e)) rfl h5 rfl rfl) rfl ?_
  refine RX.old (r_loadMutAgg (ds := tmCl (upT r Y.u p.e)) rfl h6 rfl rfl) rfl ?_
  refine RX.any (fun H' => sta_call rfl rfl (c3 _)) rfl ?_
  (repeat(first|refine RX.A ?_|refine RX.nil ?_))
  refine RX.any (fun H' => s_nilCheck rfl) rfl ?_
  (repeat(first|refine RX.A ?_|refine RX.nil ?_))
  refine RX.old (r_loadMutAgg (ds := [I r.p, I r.n, I r.order, I r.over]) rfl hat_6 rfl rfl) rfl ?_
  (repeat(first|refine RX.A ?_|refine RX.nil ?_))
  refine RX.old (r_loadMut (d := vcD X.y) rfl h36 rfl) rfl ?_
  (repeat(first|refine RX.A ?_|refine RX.nil ?_))
  refine RX.old (r_loadMut (d := vcD Y.y) rfl h46 rfl) rfl ?_
  refine RX.old (r_loadMutAgg (ds := tmCl (upT r X.u p.e)) rfl h5 rfl rfl) rfl ?_
  refine RX.old (r_loadMutAgg (ds := tmCl (upT r Y.u p.e)) rfl h6 rfl rfl) rfl ?_
  refine RX.any (fun H' => sta_call rfl rfl (c4 _)) rfl ?_
  refine RX.old (fun H' hov => sta_call rfl rfl (c5 H' hov)) rfl ?_
  (repeat(first|refine RX.A ?_|refine RX.nil ?_))
  refine RY.nil ?_
  have hleft : (hdiv r k (vsOf s.ms) (pairV2 r s p)).left.length = k := hst.inv.left.len
  have hfin := hst.fin
  have hinvD := hst.inv
  generalize hD : hdiv r k (vsOf s.ms) (pairV2 r s p) = D at *
  have hemp := vIs_pure D.left (by omega)
  (repeat(first|refine zA ?_|refine zB ?_|refine zE rfl (by decide) rfl ?_|refine zF ?_|refine zG ?_|refine zH ?_|refine zI ?_|refine zJ ?_|refine zK ?_|refine zL rfl ?_|refine zM rfl ?_))
  refine RO.sta (sta_call rfl rfl (hemp _)) rfl ?_
  cases hE : emptyT D.left with
  | true =>
   rw [hE, if_pos rfl] at hgs
   (repeat(first|refine zA ?_|refine zB ?_|refine zE rfl (by decide) rfl ?_|refine zF ?_|refine zG ?_|refine zH ?_|refine zI ?_|refine zJ ?_|refine zK ?_|refine zL rfl ?_|refine zM rfl ?_))
   refine ⟨(growStep r k s, Hn, .ref b1 0 s.ms.length 5, .ref bp 0 (s.ps.eraseIdx (nextAt s.ps)).length 3), ⟨hat2, by dsimp only; rw [hgs]; exact hmN⟩, hmu, ?_, (by repeat first | exact trivial | refine HasG.one rfl ?_ | refine HasN.one rfl ?_)⟩
   exact Heap.sub_trans (Heap.sub_trans hov2 hov4) hov6
  | false =>
   rw [hE, if_neg (by decide)] at hgs
   cases htop : topV r D.left with
   | none => exact absurd ((emptyT_iff _).2 (topV_noneM (hinvD.left.vm hc) htop)) (by rw [hE]; decide)
   | some y =>
    obtain ⟨b, w⟩ := y
    obtain ⟨t1, t2, t3, t4⟩ := hinvD.left.top hc htop
    have hmk1 : mkM r D.left (tellY r s.ms (pairY r s p) D.σ) = ⟨D.left, b, w, tellY r s.ms (pairY r s p) D.σ⟩ := by
     unfold mkM
     rw [htop]
     rfl
    rw [hmk1] at hgs
    (repeat(first|refine zA ?_|refine zB ?_|refine zE rfl (by decide) rfl ?_|refine zF ?_|refine zG ?_|refine zH ?_|refine zI ?_|refine zJ ?_|refine zK ?_|refine zL rfl ?_|refine zM rfl ?_))
    refine RO.dyn rfl ((opD_call rfl rfl (addM_call (n := r.n.toNat) hm6 (hinvD.left.vm hc) (hinvD.left.vb hc) htop (by omega) (by omega) (fun x hx => ?_) t3.mok)).mono fun dd Ha ⟨dm', dp', hma⟩ => ?_)
    ·obtain ⟨_, _, w3⟩ := (hinv.ok _ hx).ld hc
     exact ⟨w3.mok, by rw [w3.len, t3.len]⟩
    ·(repeat(first|refine zA ?_|refine zB ?_|refine zE rfl (by decide) rfl ?_|refine zF ?_|refine zG ?_|refine zH ?_|refine zI ?_|refine zJ ?_|refine zK ?_|refine zL rfl ?_|refine zM rfl ?_))
     exact ⟨(growStep r k s, Ha, dm', dp'), ⟨hat2, by dsimp only; rw [hgs]; exact hma⟩, hmu, Heap.sub_refl _, (by repeat first | exact trivial | refine HasG.one rfl ?_ | refine HasN.one rfl ?_)⟩
 ·have hz : s.ps = [] := by
   have := of_decide_eq_false hb
   exact List.length_eq_zero_iff.1 (by omega)
  clear hb
  have hend := hat.done hz
  (repeat(first|refine zA ?_|refine zB ?_|refine zE rfl (by decide) rfl ?_|refine zF ?_|refine zG ?_|refine zH ?_|refine zI ?_|refine zJ ?_|refine zK ?_|refine zL rfl ?_|refine zM rfl ?_))
  refine ⟨.inr rfl, _, _, _, rfl, Heap.sub_refl _, .same _, em, ep, ?_, ?_, ?_⟩
  ·rw [hend, ← hz]; exact hmk
  ·rw [hend]; exact hat.inv
  ·rw [hend]; exact hz
end
section
open Go.RowKit
set_option maxHeartbeats 8000000

theorem quo_me {n : Nat} {x e : List Int} (hx : ME n x) (he : ME n e) : ME n (quoM x e) := by
 obtain ⟨h1, h2⟩ := quo_ok hx.mn he.mn
 exact ⟨h1.len, he.n3, h1.pos, by have := he.deg; omega⟩

theorem max_me {n : Nat} {x e : List Int} (hx : ME n x) (he : ME n e) : MOk (zipE max e x) := by
 have hl := hx.len
 have hl2 := he.len
 have h3 := he.n3
 refine zipE_mok (by omega) (by omega) fun i h1 h2 => ?_
 have a1 := he.mok.at h1
 have a2 := hx.mok.at h2
 omega

theorem sums_le {n : Nat} : ∀ (l : List (List Int)), (∀ e ∈ l, ME n e) → (l.map List.sum).sum ≤ 8000 * l.length
 | [], _ => by simp
 | e :: l, h => by
  have h1 := (h e (by simp)).deg
  have h2 := sums_le l fun y hy => h y (by simp [hy])
  rw [List.map_cons, List.sum_cons, List.length_cons]
  omega

theorem numT_len {n : Nat} {l : List (List Int)} (h : ∀ e ∈ l, ME n e) : (numT l).length ≤ 1 + 8000 * l.length := by
 unfold numT
 have h1 := numF_len (n := n) l.length l.reverse fun e he => (h e (by simpa using he)).mn
 have h2 := sums_le l.reverse fun e he => h e (by simpa using he)
 rw [List.length_reverse] at h2
 omega

theorem numerator_pure {n : Nat} : ∀ (L : Nat) (l : List (List Int)), l.length ≤ L → L ≤ 100000000 → (∀ e ∈ l, ME n e) → Pure Tryz.prog 31 [intssD l] (intsD (numT l)) := by
 intro L
 induction L with
 | zero =>
  intro l hl _ _ H
  obtain rfl : l = [] := List.length_eq_zero_iff.1 (by omega)
  refine PureH.of_body Tryz.func31 rfl (by decide) (Nat.le_of_ble_eq_true rfl) fun w0 => ?_
  (repeat(first|refine zA ?_|refine zB ?_|refine zE rfl (by decide) rfl ?_|refine zF ?_|refine zG ?_|refine zH ?_|refine zI ?_|refine zJ ?_|refine zK ?_|refine zL rfl ?_|refine zM rfl ?_))
  exact DW.ret ⟨.inl rfl, _, rfl, Over.refl _, .same _⟩
 | succ L ih =>
  intro l hl hL hm H
  refine PureH.of_body Tryz.func31 rfl (by decide) (Nat.le_of_ble_eq_true rfl) fun w0 => ?_
  rcases List.eq_nil_or_concat l with rfl | ⟨rest, last, rfl⟩
  ·(repeat(first|refine zA ?_|refine zB ?_|refine zE rfl (by decide) rfl ?_|refine zF ?_|refine zG ?_|refine zH ?_|refine zI ?_|refine zJ ?_|refine zK ?_|refine zL rfl ?_|refine zM rfl ?_))
   exact DW.ret ⟨.inl rfl, _, rfl, Over.refl _, .same _⟩
  rw [List.concat_eq_append] at hl hm ⊢
  have hlen : (rest ++ [last]).length = rest.length + 1 := by simp
  have hlast := hm last (by simp)
  have hrest : ∀ e ∈ rest, ME n e := fun e he => hm e (by simp [he])
  have hlt : rest.length < ((rest ++ [last]).map intsD).length := by simp
  have hne : (((rest ++ [last]).length : Int) == 0) = false := by rw [hlen]; simp; omega
  have hz : ((rest ++ [last]).length : Int) - 1 = rest.length := by rw [hlen]; omega
  have hs : (((rest ++ [last]).map intsD).take rest.length).drop 0 = rest.map intsD := by simp
  have hrl : rest.length ≤ 100000000 := by omega
  (repeat(first|refine zA ?_|refine zB ?_|refine zE rfl (by decide) rfl ?_|refine zF ?_|refine zG ?_|refine zH ?_|refine zI ?_|refine zJ ?_|refine zK ?_|refine zL rfl ?_|refine zM rfl ?_))
  rw [hne]
  (repeat(first|refine zA ?_|refine zB ?_|refine zE rfl (by decide) rfl ?_|refine zF ?_|refine zG ?_|refine zH ?_|refine zI ?_|refine zJ ?_|refine zK ?_|refine zL rfl ?_|refine zM rfl ?_))
  rw [hz]
  refine RO.sta (s_index (i := rest.length) rfl rfl hlt) rfl ?_
  refine RO.sta (s_load (d := intsD last) rfl (by simp [cellAt, cellsOf, intsD])) rfl ?_
  (repeat(first|refine zA ?_|refine zB ?_|refine zE rfl (by decide) rfl ?_|refine zF ?_|refine zG ?_|refine zH ?_|refine zI ?_|refine zJ ?_|refine zK ?_|refine zL rfl ?_|refine zM rfl ?_))
  rw [hz]
  refine RO.sta (s_slice (a := 0) (b := rest.length) rfl rfl (boundD_eq rfl rfl) (Nat.zero_le _) (by omega)) rfl ?_
  rw [hs]
  (repeat(first|refine zA ?_|refine zB ?_|refine zE rfl (by decide) rfl ?_|refine zF ?_|refine zG ?_|refine zH ?_|refine zI ?_|refine zJ ?_|refine zK ?_|refine zL rfl ?_|refine zM rfl ?_))
  refine DW.loopG (fun z : Nat × Heap × D => z.1 ≤ rest.length ∧ Acc H z.2.1 z.2.2 1 24 (((rest.take z.1).map (quoM last)).map intsD) ∧ Over H z.2.1) (fun z => [(3, intsD last), (4, intssD rest), (5, z.2.2), (23, intssD rest), (24, I rest.length), (25, I z.1)]) (fun z => z.2.1) (fun z => rest.length - z.1) (0, H, .nil)
   ⟨Nat.zero_le _, Acc.nil _ _ _ _, Over.refl _⟩ (Heap.sub_refl _) (by repeat first | exact trivial | refine HasG.one rfl ?_ | refine HasN.one rfl ?_) fun ⟨i, Hi, di⟩ ⟨hi, hai, hoi⟩ => ?_
  dsimp only at hi hai hoi ⊢
  (repeat(first|refine zA ?_|refine zB ?_|refine zE rfl (by decide) rfl ?_|refine zF ?_|refine zG ?_|refine zH ?_|refine zI ?_|refine zJ ?_|refine zK ?_|refine zL rfl ?_|refine zM rfl ?_))
  refine DW.cond rfl (fun hb => ?_) (fun hb => ?_)
  ·have hil : i < rest.length := by have := of_decide_eq_true hb; omega
   clear hb
   have hei := hrest _ (List.getElem_mem hil)
   have hml : MOk (zipE max rest[i] last) := max_me hlast hei
   have hl1 : rest[i].length = last.length := by rw [hei.len, hlast.len]
   (repeat(first|refine zA ?_|refine zB ?_|refine zE rfl (by decide) rfl ?_|refine zF ?_|refine zG ?_|refine zH ?_|refine zI ?_|refine zJ ?_|refine zK ?_|refine zL rfl ?_|refine zM rfl ?_))
   refine RO.sta (sta_call rfl rfl (Common_pure hei.mok hl1 _)) rfl ?_
   (repeat(first|refine zA ?_|refine zB ?_|refine zE rfl (by decide) rfl ?_|refine zF ?_|refine zG ?_|refine zH ?_|refine zI ?_|refine zJ ?_|refine zK ?_|refine zL rfl ?_|refine zM rfl ?_))
   refine RO.sta (sta_call rfl rfl (Quotient_pure hml hlast.mok (by rw [zipE_len hl1, hl1]) _)) rfl ?_
   (repeat(first|refine zA ?_|refine zB ?_|refine zE rfl (by decide) rfl ?_|refine zF ?_|refine zG ?_|refine zH ?_|refine zI ?_|refine zJ ?_|refine zK ?_|refine zL rfl ?_|refine zM rfl ?_))
   refine RO.dyn rfl (d_append (H0 := H) (l := ((rest.take i).map (quoM last)).map intsD) (xs := [intsD (quoM last rest[i])]) rfl hai hoi rfl (.inl rfl) (uni_ints [quoM last rest[i]]) (by simp; omega) (by simp; omega) fun d' H' q1 q2 q3 => ?_)
   (repeat(first|refine zA ?_|refine zB ?_|refine zE rfl (by decide) rfl ?_|refine zF ?_|refine zG ?_|refine zH ?_|refine zI ?_|refine zJ ?_|refine zK ?_|refine zL rfl ?_|refine zM rfl ?_))
   refine ⟨(i + 1, H', d'), ⟨hil, ?_, q2⟩, by dsimp only; omega, Heap.sub_refl _, (by repeat first | exact trivial | refine HasG.one rfl ?_ | refine HasN.one rfl ?_)⟩
   dsimp only
   rw [List.take_succ_eq_append_getElem hil, List.map_append, List.map_append]
   exact q1
  ·have hie : i = rest.length := by have := of_decide_eq_false hb; omega
   subst hie
   clear hb
   rw [List.take_of_length_le (Nat.le_refl _)] at hai
   have hby : ∀ e ∈ rest.map (quoM last), ME n e := fun e he => by
    obtain ⟨y, hy, rfl⟩ := List.mem_map.1 he
    exact quo_me hlast (hrest y hy)
   have hn1 := numT_len hrest
   have hn2 := numT_len hby
   rw [List.length_map] at hn2
   have h8 := hlast.deg
   have h0 := hlast.mn.sum0
   have hfar : I last.sum = I (last.sum.toNat : Nat) := by rw [show ((last.sum.toNat : Nat) : Int) = last.sum by omega]
   (repeat(first|refine zA ?_|refine zB ?_|refine zE rfl (by decide) rfl ?_|refine zF ?_|refine zG ?_|refine zH ?_|refine zI ?_|refine zJ ?_|refine zK ?_|refine zL rfl ?_|refine zM rfl ?_))
   refine RO.sta (sta_call rfl rfl (ih rest (by omega) (by omega) hrest _)) rfl ?_
   (repeat(first|refine zA ?_|refine zB ?_|refine zE rfl (by decide) rfl ?_|refine zF ?_|refine zG ?_|refine zH ?_|refine zI ?_|refine zJ ?_|refine zK ?_|refine zL rfl ?_|refine zM rfl ?_))
   refine RO.dyn rfl (opD_callF (ds' := [intssD (rest.map (quoM last))]) (H' := H) rfl rfl hoi (.cons hai.done .nil) (ih (rest.map (quoM last)) (by simp; omega) (by omega) hby H) ?_)
   (repeat(first|refine zA ?_|refine zB ?_|refine zE rfl (by decide) rfl ?_|refine zF ?_|refine zG ?_|refine zH ?_|refine zI ?_|refine zJ ?_|refine zK ?_|refine zL rfl ?_|refine zM rfl ?_))
   refine RO.sta (sta_call rfl rfl (Degree_pure hlast.mok _)) rfl ?_
   rw [hfar]
   refine RO.sta (sta_call rfl rfl (plus_pure (-1) last.sum.toNat (by omega) (by omega) (by omega) _)) rfl ?_
   (repeat(first|refine zA ?_|refine zB ?_|refine zE rfl (by decide) rfl ?_|refine zF ?_|refine zG ?_|refine zH ?_|refine zI ?_|refine zJ ?_|refine zK ?_|refine zL rfl ?_|refine zM rfl ?_))
   rw [← numT_snoc]
   exact DW.ret ⟨.inl rfl, _, rfl, Over.refl _, .same _⟩
end
end Go.Proofs.YtfjmdhemlfafbaaGreat
