/-
  HilbertCounts holds: whatever it is handed, the law answers true, and its arguments read as before. No condition.
-/
import Derived.Test.YtfjmdhemlfafbaaGreatKHc14
import Derived.Test.YtfjmdhemlfafbaaGreatKHc28
import Derived.Test.YtfjmdhemlfafbaaGreatKHc17
import Derived.Test.YtfjmdhemlfafbaaGreatKHc27
import Derived.Test.YtfjmdhemlfafbaaGreatKHc9
set_option linter.unusedVariables false
set_option linter.unusedSimpArgs false

namespace Go.Proofs.YtfjmdhemlfafbaaGreat
section
open Go.RowKit
set_option maxHeartbeats 8000000

theorem Acc.keep {H0 H H' : Heap} {d : D} {k : Nat} {T : TypeId} {l : List D} (h : Acc H0 H d k T l) (hk : ∀ b z, d.blk = some b → H b = some z → H' b = some z) : Acc H0 H' d k T l := by
 refine ⟨h.uni, ?_⟩
 rcases h.is with h1 | ⟨b, h1, h2, h3⟩
 ·exact .inl h1
 ·exact .inr ⟨b, h1, h2, hk b _ (by rw [h2]; rfl) h3⟩

theorem monos_few : ∀ n : Nat, n ≤ 3 → ∀ t : Nat, t ≤ 12 → (monosT n t).length ≤ 91 := by decide +kernel

theorem monZ_few {n : Nat} (hn : n ≤ 3) {d : Int} (hd : d ≤ 12) : (monZ n d).length ≤ 91 := by
 unfold monZ
 split
 ·simp
 ·exact monos_few n hn d.toNat (by omega)

def keyU (n : Nat) (gs : List Int) (d : Int) (i : Nat) : List (Nat × List Int) := (List.range i).flatMap fun a => (monZ n (d - gs.getD a 0)).map fun e => (a, e)

theorem keyU_succ (n : Nat) (gs : List Int) (d : Int) (i : Nat) : keyU n gs d (i + 1) = keyU n gs d i ++ (monZ n (d - gs.getD i 0)).map fun e => (i, e) := by
 unfold keyU
 rw [List.range_succ, List.flatMap_append, List.flatMap_singleton]

theorem keyU_all (n : Nat) (gs : List Int) (d : Int) : keyU n gs d gs.length = keysT n gs.length (gsF gs) d := (keys_monZ n gs.length (gsF gs) d).symm

theorem keyU_len {n : Nat} {gs : List Int} {d : Int} (hn : n ≤ 3) (hd : d ≤ 12) (hg : ∀ g ∈ gs, 0 ≤ g ∧ g ≤ 6) (i : Nat) : (keyU n gs d i).length ≤ 91 * i := by
 induction i with
 | zero => simp [keyU]
 | succ i ih =>
  have h3 : 0 ≤ gs.getD i 0 := by
   rw [List.getD_eq_getElem?_getD]
   cases hx : gs[i]? with
   | none => simp
   | some g => exact (hg g (List.mem_of_getElem? hx)).1
  have := monZ_few hn (d := d - gs.getD i 0) (by omega)
  rw [keyU_succ, List.length_append, List.length_map]
  omega

def rowV (r : Rg) (gs : List Int) (d : Int) (v : Vc) : List (List Int) := if (sameT gs v).2 = 0 then (monZ r.n.toNat (d - (sameT gs v).1)).map fun m => rowK (keysT r.n.toNat gs.length (gsF gs) d) (vbyT r v ⟨1, m⟩) else []

theorem rowsT_def (r : Rg) (gs : List Int) (l : List Vc) (d : Int) : rowsT r gs l d = l.flatMap (rowV r gs d) := rfl

def rowPart (K : List (Nat × List Int)) (v : Vc) (c : Nat) : List Int := (rowK K v).take c ++ List.replicate (K.length - c) 0

theorem rowPart_len {K : List (Nat × List Int)} {v : Vc} {c : Nat} (hc : c ≤ K.length) : (rowPart K v c).length = K.length := by
 unfold rowPart rowK
 simp
 omega

theorem rowPart_set {K : List (Nat × List Int)} {v : Vc} {c : Nat} (hc : c < K.length) : (rowPart K v c).set c (coefT K[c].2 (v.getD K[c].1 [])) = rowPart K v (c + 1) := by
 unfold rowPart
 have hl : (rowK K v).length = K.length := by unfold rowK; simp
 have hlt : c < (rowK K v).length := by omega
 have hr : K.length - c = (K.length - (c + 1)) + 1 := by omega
 have ht : ((rowK K v).take c).length = c := by rw [List.length_take]; omega
 rw [hr, List.replicate_succ, List.set_append, if_neg (by omega), ht, Nat.sub_self, List.set_cons_zero, List.take_succ_eq_append_getElem hlt, List.append_assoc]
 congr 1
 unfold rowK
 simp

theorem rowPart_at {K : List (Nat × List Int)} {v : Vc} {c : Nat} (hc : c < K.length) : (rowPart K v c).set c 0 = rowPart K v c := by
 unfold rowPart
 have hl : (rowK K v).length = K.length := by unfold rowK; simp
 have ht : ((rowK K v).take c).length = c := by rw [List.length_take]; omega
 have hr : K.length - c = (K.length - (c + 1)) + 1 := by omega
 rw [hr, List.replicate_succ, List.set_append, if_neg (by omega), ht, Nat.sub_self, List.set_cons_zero]

def coefP (e : List Int) (f : Pl) (t : Nat) : Int := (f.take t).foldl (fun x t => if (t.e == e) = true then t.c else x) 0

theorem coefP_succ {e : List Int} {f : Pl} {t : Nat} (h : t < f.length) : coefP e f (t + 1) = if (f[t].e == e) = true then f[t].c else coefP e f t := by
 unfold coefP
 rw [List.take_succ_eq_append_getElem h, List.foldl_append]
 rfl

theorem coefP_all (e : List Int) (f : Pl) : coefP e f f.length = coefT e f := by
 unfold coefP coefT
 rw [List.take_length]

theorem rowPart_zero (K : List (Nat × List Int)) (v : Vc) : (rowPart K v 0).map I = List.replicate K.length (I 0) := by
 unfold rowPart
 simp

theorem rowPart_all (K : List (Nat × List Int)) (v : Vc) : rowPart K v K.length = rowK K v := by
 unfold rowPart
 have hl : (rowK K v).length = K.length := by unfold rowK; simp
 rw [← hl, List.take_length, Nat.sub_self]
 simp

theorem sameT_pos (gs : List Int) (v : Vc) : 0 ≤ (sameT gs v).1 := by
 unfold sameT
 split
 ·exact Int.le_refl _
 ·split
  ·exact Int.le_refl _
  ·rename_i h
   show 0 ≤ _
   omega

theorem flat_few {α β : Type} (f : α → List β) (B : Nat) : ∀ l : List α, (∀ x ∈ l, (f x).length ≤ B) → (l.flatMap f).length ≤ l.length * B
 | [], _ => by simp
 | x :: l, h => by
  have h1 := h x (by simp)
  have h2 := flat_few f B l fun y hy => h y (by simp [hy])
  rw [List.flatMap_cons, List.length_append, List.length_cons, Nat.succ_mul]
  omega

theorem rows_ck {r : Rg} {gs : List Int} {l : List Vc} (h : hilCk r gs l = 0) {d : Int} (hd : d ≤ 12) : rowsCk r.p (rowsT r gs l d) = 0 ∧ (rowsT r gs l d).length ≤ 400 := by
 obtain ⟨hlst, hk1⟩ := hil_lst h
 obtain ⟨_, hgs, _⟩ := hilCk_ok h
 have hk3 := hlst.k3
 have hl4 := hlst.l4
 have hc := hlst.cx
 obtain ⟨hp2, hn3, hn1, hpr, hckp⟩ := hc.rg
 have hKl := keyU_len (n := r.n.toNat) hn3 hd hgs gs.length
 rw [keyU_all] at hKl
 have hfew : (rowsT r gs l d).length ≤ 400 := by
  rw [rowsT_def]
  have := flat_few (rowV r gs d) 91 l fun v _ => by
   unfold rowV
   split
   ·rw [List.length_map]
    have := sameT_pos gs v
    exact monZ_few hn3 (by omega)
   ·simp
  have : l.length * 91 ≤ 4 * 91 := Nat.mul_le_mul_right 91 hl4
  omega
 have hall : ∀ row ∈ rowsT r gs l d, row.length = (keysT r.n.toNat gs.length (gsF gs) d).length ∧ ∀ x ∈ row, 0 ≤ x ∧ x < r.p := fun row hrow => by
  rw [rowsT_def] at hrow
  obtain ⟨v, hv, hm⟩ := List.mem_flatMap.1 hrow
  unfold rowV at hm
  split at hm
  ·obtain ⟨m, hmm, rfl⟩ := List.mem_map.1 hm
   have h0 := sameT_pos gs v
   obtain ⟨m1, m2⟩ := (monZ_mem (n := r.n.toNat) (by omega)).1 hmm
   obtain ⟨i, hi, rfl⟩ := List.getElem_of_mem hv
   have hby := (hlst.hv i hi).by hc (tm_one hc m1) (by
    have := hlst.d9 i hi
    show _ + m.sum ≤ 8000
    omega)
   refine ⟨by unfold rowK; simp, fun x hx => ?_⟩
   unfold rowK at hx
   obtain ⟨y, _, rfl⟩ := List.mem_map.1 hx
   rw [List.getD_eq_getElem?_getD]
   cases hq : (vbyT r l[i] ⟨1, m⟩)[y.1]? with
   | none => exact ⟨Int.le_refl _, by show (0 : Int) < r.p; omega⟩
   | some f => exact coef_range (by omega) (by decide) (hby.pb f (List.mem_of_getElem? hq)) _
  ·cases hm
 refine ⟨?_, hfew⟩
 generalize rowsT r gs l d = R at *
 have hhead : ∀ row ∈ R, row.length = (R.headD []).length := fun row hrow => by
  cases R with
  | nil => cases hrow
  | cons a R => rw [(hall row hrow).1]; exact ((hall a (by simp)).1).symm
 unfold rowsCk
 rw [if_neg, if_neg, if_neg]
 ·simp only [Bool.not_eq_true, List.any_eq_false]
  intro row hrow
  have : row.all (inP r.p) = true := List.all_eq_true.2 fun x hx => by
   have := (hall row hrow).2 x hx
   unfold inP
   simp
   omega
  rw [this]
  decide
 ·simp only [Bool.not_eq_true, List.any_eq_false]
  intro row hrow
  have := hhead row hrow
  simp [this]
 ·rintro (h1 | h1)
  ·omega
  ·obtain ⟨row, hrow, h2⟩ := List.any_eq_true.1 h1
   have := (hall row hrow).1
   simp at h2
   omega

theorem CountOf_pure {r : Rg} {gs : List Int} {l : List Vc} (h : hilCk r gs l = 0) {d : Int} (hd0 : 0 ≤ d) (hd : d ≤ 12) : Pure Tryz.prog 9 [rgD r, intsD gs, vcsD l, I d] (I (docC r gs l d)) := by
 intro H
 refine PureH.of_body Tryz.func9 rfl (by decide) (Nat.le_of_ble_eq_true rfl) fun w0 => ?_
 obtain ⟨hlst, hk1⟩ := hil_lst h
 obtain ⟨_, hgs, _⟩ := hilCk_ok h
 have hk3 := hlst.k3
 have hl4 := hlst.l4
 obtain ⟨hp2, hn3, hn1, hpr, hckp⟩ := hlst.cx.rg
 obtain ⟨hrc, hrl⟩ := rows_ck h hd
 have hn1' : r.n = ((r.n.toNat - 1 + 1 : Nat) : Int) := by omega
 have hnn : r.n.toNat - 1 + 1 = r.n.toNat := by omega
 have hmon : ∀ (e : Int), -1000 ≤ e → e ≤ 100 → ∀ H, PureH Tryz.prog H 10 [I r.n, I e] (intssD (monZ r.n.toNat e)) := fun e h1 h2 H => by
  have := Monos_pure (r.n.toNat - 1) e (by omega) h1 h2 H
  rw [hnn] at this
  rw [show r.n = ((r.n.toNat : Nat) : Int) by omega]
  exact this
 (repeat(first|refine zA ?_|refine zB ?_|refine zE rfl (by decide) rfl ?_|refine zF ?_|refine zG ?_|refine zH ?_|refine zI ?_|refine zJ ?_|refine zK ?_|refine zL rfl ?_|refine zM rfl ?_))
 refine DW.loopG (fun z : Nat × Heap × D × D => z.1 ≤ gs.length ∧ Acc H z.2.1 z.2.2.1 1 3 (((keyU r.n.toNat gs d z.1).map fun y => (y.1 : Int)).map I) ∧ Acc H z.2.1 z.2.2.2 1 24 (((keyU r.n.toNat gs d z.1).map fun y => y.2).map intsD) ∧ Over H z.2.1)
  (fun z => [(1, intsD gs), (2, vcsD l), (3, I d), (4, .ipt 4 [rgD r] 0 0), (9, z.2.2.1), (10, z.2.2.2), (11, I z.1)]) (fun z => z.2.1) (fun z => gs.length - z.1) (0, H, .nil, .nil)
  ⟨Nat.zero_le _, Acc.nil _ _ _ _, Acc.nil _ _ _ _, Over.refl _⟩ (Heap.sub_refl _) (by repeat first | exact trivial | refine HasG.one rfl ?_ | refine HasN.one rfl ?_) fun ⟨i, Hi, d9, d10⟩ ⟨hi, a9, a10, hoi⟩ => ?_
 dsimp only at hi a9 a10 hoi ⊢
 (repeat(first|refine zA ?_|refine zB ?_|refine zE rfl (by decide) rfl ?_|refine zF ?_|refine zG ?_|refine zH ?_|refine zI ?_|refine zJ ?_|refine zK ?_|refine zL rfl ?_|refine zM rfl ?_))
 refine DW.cond rfl (fun hb => ?_) (fun hb => ?_)
 ·have hlt : i < gs.length := by have := of_decide_eq_true hb; omega
  clear hb
  have hgi := hgs _ (List.getElem_mem hlt)
  have hkl := keyU_len (n := r.n.toNat) hn3 hd hgs i
  have hks := keyU_succ r.n.toNat gs d i
  rw [getD_lt hlt] at hks
  have hmf := monZ_few hn3 (d := d - gs[i]) (by omega)
  have hm1 := hmon (d - gs[i]) (by omega) (by omega)
  (repeat(first|refine zA ?_|refine zB ?_|refine zE rfl (by decide) rfl ?_|refine zF ?_|refine zG ?_|refine zH ?_|refine zI ?_|refine zJ ?_|refine zK ?_|refine zL rfl ?_|refine zM rfl ?_))
  refine DW.drawS 10 Tryz.mixed (by kernel_rfl) (by decide) ?_
  dsimp only [List.take, List.drop]
  (repeat(first|refine zN ?_|refine zO ?_|refine zR rfl (by decide) rfl ?_|refine zS ?_))
  refine RS.sta (fun H' hov => sta_call rfl rfl (hm1 H')) rfl ?_
  (repeat(first|refine zN ?_|refine zO ?_|refine zR rfl (by decide) rfl ?_|refine zS ?_))
  (repeat(first|refine zA ?_|refine zB ?_|refine zE rfl (by decide) rfl ?_|refine zF ?_|refine zG ?_|refine zH ?_|refine zI ?_|refine zJ ?_|refine zK ?_|refine zL rfl ?_|refine zM rfl ?_))
  generalize hM : monZ r.n.toNat (d - gs[i]) = M at hks hmf
  refine DW.loopG (fun z : Nat × Heap × D × D => z.1 ≤ M.length ∧ Acc H z.2.1 z.2.2.1 1 3 (((keyU r.n.toNat gs d i ++ (M.take z.1).map fun e => (i, e)).map fun y => (y.1 : Int)).map I) ∧ Acc H z.2.1 z.2.2.2 1 24 (((keyU r.n.toNat gs d i ++ (M.take z.1).map fun e => (i, e)).map fun y => y.2).map intsD) ∧ Over H z.2.1)
   (fun z => [(1, intsD gs), (2, vcsD l), (3, I d), (4, .ipt 4 [rgD r] 0 0), (9, z.2.2.1), (10, z.2.2.2), (11, I i), (12, intssD M), (13, I z.1)]) (fun z => z.2.1) (fun z => M.length - z.1) (0, Hi, d9, d10)
   ⟨Nat.zero_le _, by simpa using a9, by simpa using a10, hoi⟩ (Heap.sub_refl _) (by repeat first | exact trivial | refine HasG.one rfl ?_ | refine HasN.one rfl ?_) fun ⟨k, Hk, e9, e10⟩ ⟨hk, c9, c10, hok⟩ => ?_
  dsimp only at hk c9 c10 hok ⊢
  (repeat(first|refine zA ?_|refine zB ?_|refine zE rfl (by decide) rfl ?_|refine zF ?_|refine zG ?_|refine zH ?_|refine zI ?_|refine zJ ?_|refine zK ?_|refine zL rfl ?_|refine zM rfl ?_))
  refine DW.cond rfl (fun hb => ?_) (fun hb => ?_)
  ·have hkm : k < M.length := by have := of_decide_eq_true hb; omega
   clear hb
   have hne1 : ∀ (b : Nat), e9.blk = some b → e10.blk ≠ some b := fun b h1 h2 => by
    have h3 := (c9.blk_some h1).1.symm.trans (c10.blk_some h2).1
    exact absurd (Prod.mk.inj (Option.some.inj h3)).1 (by decide)
   (repeat(first|refine zA ?_|refine zB ?_|refine zE rfl (by decide) rfl ?_|refine zF ?_|refine zG ?_|refine zH ?_|refine zI ?_|refine zJ ?_|refine zK ?_|refine zL rfl ?_|refine zM rfl ?_))
   refine DW.drawX [0, 1, 2, 4, 5, 6, 7, 8, 9] [4, 5, 6, 7, 8, 9] (fun _ => none) Tryz.mixed (by kernel_rfl) (fun c z hc => by cases hc) ?_
   (repeat(first|refine RX.A ?_|refine RX.nil ?_))
   refine RY.dyn rfl (d_append (H0 := H) (l := ((keyU r.n.toNat gs d i ++ (M.take k).map fun e => (i, e)).map fun y => (y.1 : Int)).map I) (xs := [I i]) rfl c9 hok rfl (.inl rfl) (uni_I [(i : Int)]) (by simp; omega) (by simp; omega) fun d' H' q1 q2 q3 => ⟨Over.nul _, ?_⟩)
   have c10' := c10.keep (H' := H') fun b z hb hz => q3 b z hz fun h9 => hne1 b h9 hb
   have hne2 : ∀ (b : Nat), d'.blk = some b → e10.blk ≠ some b := fun b h1 h2 => by
    have h3 := (q1.blk_some h1).1.symm.trans (c10'.blk_some h2).1
    exact absurd (Prod.mk.inj (Option.some.inj h3)).1 (by decide)
   refine RY.dyn rfl (d_append (H0 := H) (l := ((keyU r.n.toNat gs d i ++ (M.take k).map fun e => (i, e)).map fun y => y.2).map intsD) (xs := [intsD M[k]]) rfl c10' q2 rfl (.inl rfl) (uni_ints [M[k]]) (by simp; omega) (by simp; omega) fun d'' H'' p1 p2 p3 => ⟨Over.nul _, ?_⟩)
   have q1' := q1.keep (H' := H'') fun b z hb hz => p3 b z hz fun h10 => hne2 b hb h10
   (repeat(first|refine RY.S ?_|refine RY.nil ?_))
   (repeat(first|refine zA ?_|refine zB ?_|refine zE rfl (by decide) rfl ?_|refine zF ?_|refine zG ?_|refine zH ?_|refine zI ?_|refine zJ ?_|refine zK ?_|refine zL rfl ?_|refine zM rfl ?_))
   refine ⟨(k + 1, H'', d', d''), ⟨hkm, ?_, ?_, p2⟩, by dsimp only; omega, Heap.sub_refl _, (by repeat first | exact trivial | refine HasG.one rfl ?_ | refine HasN.one rfl ?_)⟩
   ·dsimp only
    have hx : (((keyU r.n.toNat gs d i ++ (M.take (k + 1)).map fun e => (i, e)).map fun y => (y.1 : Int)).map I) = (((keyU r.n.toNat gs d i ++ (M.take k).map fun e => (i, e)).map fun y => (y.1 : Int)).map I) ++ [I i] := by
     rw [List.take_succ_eq_append_getElem hkm]
     simp only [List.map_append, List.append_assoc, List.map_cons, List.map_nil]
    rw [hx]
    exact q1'
   ·dsimp only
    have hx : (((keyU r.n.toNat gs d i ++ (M.take (k + 1)).map fun e => (i, e)).map fun y => y.2).map intsD) = (((keyU r.n.toNat gs d i ++ (M.take k).map fun e => (i, e)).map fun y => y.2).map intsD) ++ [intsD M[k]] := by
     rw [List.take_succ_eq_append_getElem hkm]
     simp only [List.map_append, List.append_assoc, List.map_cons, List.map_nil]
    rw [hx]
    exact p1
  ·have hke : k = M.length := by have := of_decide_eq_false hb; omega
   subst hke
   clear hb
   rw [List.take_length, ← hks] at c9 c10
   (repeat(first|refine zA ?_|refine zB ?_|refine zE rfl (by decide) rfl ?_|refine zF ?_|refine zG ?_|refine zH ?_|refine zI ?_|refine zJ ?_|refine zK ?_|refine zL rfl ?_|refine zM rfl ?_))
   exact ⟨(i + 1, Hk, e9, e10), ⟨hlt, c9, c10, hok⟩, by dsimp only; omega, Heap.sub_refl _, (by repeat first | exact trivial | refine HasG.one rfl ?_ | refine HasN.one rfl ?_)⟩
 have hie : i = gs.length := by have := of_decide_eq_false hb; omega
 subst hie
 clear hb
 rw [keyU_all] at a9 a10
 have hKl := keyU_len (n := r.n.toNat) hn3 hd hgs gs.length
 rw [keyU_all] at hKl
 unfold docC
 generalize hK : keysT r.n.toNat gs.length (gsF gs) d = K at *
 refine DW.exit ?_
 refine DW.freezeG [(1, intsD gs), (2, vcsD l), (3, I d), (4, .ipt 4 [rgD r] 0 0), (9, intsD (K.map fun y => (y.1 : Int))), (10, intssD (K.map fun y => y.2))] H hoi ?_ ?_
 ·(repeat refine HasG.one rfl ?_)
  exact ⟨⟨_, rfl, a9.done⟩, ⟨⟨_, rfl, a10.done⟩, trivial⟩⟩
 clear a9 a10 hoi
 (repeat(first|refine zA ?_|refine zB ?_|refine zE rfl (by decide) rfl ?_|refine zF ?_|refine zG ?_|refine zH ?_|refine zI ?_|refine zJ ?_|refine zK ?_|refine zL rfl ?_|refine zM rfl ?_))
 refine DW.loopG (fun z : Nat × Heap × D => z.1 ≤ l.length ∧ Acc H z.2.1 z.2.2 1 24 (((l.take z.1).flatMap (rowV r gs d)).map intsD) ∧ Over H z.2.1)
  (fun z => [(1, intsD gs), (2, vcsD l), (3, I d), (4, .ipt 4 [rgD r] 0 0), (9, intsD (K.map fun y => (y.1 : Int))), (10, intssD (K.map fun y => y.2)), (14, z.2.2), (15, I z.1)]) (fun z => z.2.1) (fun z => l.length - z.1) (0, H, .nil)
  ⟨Nat.zero_le _, Acc.nil _ _ _ _, Over.refl _⟩ (Heap.sub_refl _) (by repeat first | exact trivial | refine HasG.one rfl ?_ | refine HasN.one rfl ?_) fun ⟨i, Hi, d14⟩ ⟨hi, a14, hoi⟩ => ?_
 dsimp only at hi a14 hoi ⊢
 (repeat(first|refine zA ?_|refine zB ?_|refine zE rfl (by decide) rfl ?_|refine zF ?_|refine zG ?_|refine zH ?_|refine zI ?_|refine zJ ?_|refine zK ?_|refine zL rfl ?_|refine zM rfl ?_))
 refine DW.cond rfl (fun hb => ?_) (fun hb => ?_)
 ·have hlt : i < l.length := by have := of_decide_eq_true hb; omega
  clear hb
  obtain ⟨hbk, _, _⟩ := hilCk_ok h
  obtain ⟨hvc, _⟩ := basCk_ok hbk
  obtain ⟨hr, _, _, _, hokv⟩ := vecsCk_ok hvc
  have hvk := hokv _ (List.getElem_mem hlt)
  have hr3 := ringCk_ok hr
  have hvl : l[i].length = gs.length := by have := hvk.len; simpa using this
  have hsuc : (l.take (i + 1)).flatMap (rowV r gs d) = (l.take i).flatMap (rowV r gs d) ++ rowV r gs d l[i] := by
   rw [List.take_succ_eq_append_getElem hlt, List.flatMap_append, List.flatMap_singleton]
  obtain ⟨sm1, sm2⟩ := same_of h (List.getElem_mem hlt)
  (repeat(first|refine zA ?_|refine zB ?_|refine zE rfl (by decide) rfl ?_|refine zF ?_|refine zG ?_|refine zH ?_|refine zI ?_|refine zJ ?_|refine zK ?_|refine zL rfl ?_|refine zM rfl ?_))
  refine RO.sta (sta_call rfl rfl (VDegree_pure gs l[i] (by omega) (by omega) (fun g hg => by have := hgs g hg; omega) (fun f hf => ⟨by have := (hvk.all f hf).len; omega, fun t ht => ((hvk.all f hf).ok.all t ht).mok (by omega) (by omega)⟩) _)) rfl ?_
  (repeat(first|refine zA ?_|refine zB ?_|refine zE rfl (by decide) rfl ?_|refine zF ?_|refine zG ?_|refine zH ?_|refine zI ?_|refine zJ ?_|refine zK ?_|refine zL rfl ?_|refine zM rfl ?_))
  by_cases hs : (sameT gs l[i]).2 = 0
  case neg =>
   have hrv : rowV r gs d l[i] = [] := by unfold rowV; rw [if_neg hs]
   rw [hrv, List.append_nil] at hsuc
   rw [show ((sameT gs l[i]).2 != 0) = true by simpa using hs]
   (repeat(first|refine zA ?_|refine zB ?_|refine zE rfl (by decide) rfl ?_|refine zF ?_|refine zG ?_|refine zH ?_|refine zI ?_|refine zJ ?_|refine zK ?_|refine zL rfl ?_|refine zM rfl ?_))
   exact ⟨(i + 1, Hi, d14), ⟨hlt, by dsimp only; rw [hsuc]; exact a14, hoi⟩, by dsimp only; omega, Heap.sub_refl _, (by repeat first | exact trivial | refine HasG.one rfl ?_ | refine HasN.one rfl ?_)⟩
  rw [show ((sameT gs l[i]).2 != 0) = false by simpa using hs]
  have hne : emptyT l[i] ≠ true := fun he => sm1 he hs
  have hst := sm2 hne
  have hτ : (sameT gs l[i]).1 = dgO gs l[i] := by rw [hst]
  have hτ0 : 0 ≤ dgO gs l[i] ∧ dgO gs l[i] ≤ 9 := by
   have h1 := hlst.d0 i
   have h2 := hlst.d9 i hlt
   rw [getD_lt hlt] at h1 h2
   exact ⟨h1, h2⟩
  have hrv : rowV r gs d l[i] = (monZ r.n.toNat (d - dgO gs l[i])).map fun m => rowK K (vbyT r l[i] ⟨1, m⟩) := by
   unfold rowV
   rw [if_pos hs, hτ, hK]
  rw [hτ]
  have hmf := monZ_few hn3 (d := d - dgO gs l[i]) (by omega)
  have hm1 := hmon (d - dgO gs l[i]) (by omega) (by omega)
  have hMm : ∀ m ∈ monZ r.n.toNat (d - dgO gs l[i]), Mn r.n.toNat m ∧ m.sum = d - dgO gs l[i] := fun m hm => (monZ_mem (by omega)).1 hm
  have hrl2 : ((l.take i).flatMap (rowV r gs d)).length + (rowV r gs d l[i]).length ≤ 400 := by
   have e : rowsT r gs l d = (l.take (i + 1)).flatMap (rowV r gs d) ++ (l.drop (i + 1)).flatMap (rowV r gs d) := by
    rw [rowsT_def, ← List.flatMap_append, List.take_append_drop]
   rw [e, hsuc, List.length_append, List.length_append] at hrl
   omega
  rw [hrv, List.length_map] at hrl2
  generalize hM : monZ r.n.toNat (d - dgO gs l[i]) = M at *
  (repeat(first|refine zA ?_|refine zB ?_|refine zE rfl (by decide) rfl ?_|refine zF ?_|refine zG ?_|refine zH ?_|refine zI ?_|refine zJ ?_|refine zK ?_|refine zL rfl ?_|refine zM rfl ?_))
  refine RO.sta (sta_call rfl rfl (hm1 _)) rfl ?_
  (repeat(first|refine zA ?_|refine zB ?_|refine zE rfl (by decide) rfl ?_|refine zF ?_|refine zG ?_|refine zH ?_|refine zI ?_|refine zJ ?_|refine zK ?_|refine zL rfl ?_|refine zM rfl ?_))
  refine DW.loopG (fun z : Nat × Heap × D => z.1 ≤ M.length ∧ Acc H z.2.1 z.2.2 1 24 (((l.take i).flatMap (rowV r gs d) ++ (M.take z.1).map fun m => rowK K (vbyT r l[i] ⟨1, m⟩)).map intsD) ∧ Over H z.2.1)
   (fun z => [(1, intsD gs), (2, vcsD l), (3, I d), (4, .ipt 4 [rgD r] 0 0), (9, intsD (K.map fun y => (y.1 : Int))), (10, intssD (K.map fun y => y.2)), (14, z.2.2), (15, I i), (18, intssD M), (19, I z.1)]) (fun z => z.2.1) (fun z => M.length - z.1) (0, Hi, d14)
   ⟨Nat.zero_le _, by simpa using a14, hoi⟩ (Heap.sub_refl _) (by repeat first | exact trivial | refine HasG.one rfl ?_ | refine HasN.one rfl ?_) fun ⟨j, Hj, dj⟩ ⟨hj, aj, hoj⟩ => ?_
  dsimp only at hj aj hoj ⊢
  (repeat(first|refine zA ?_|refine zB ?_|refine zE rfl (by decide) rfl ?_|refine zF ?_|refine zG ?_|refine zH ?_|refine zI ?_|refine zJ ?_|refine zK ?_|refine zL rfl ?_|refine zM rfl ?_))
  refine DW.cond rfl (fun hb => ?_) (fun hb => ?_)
  ·have hjm : j < M.length := by have := of_decide_eq_true hb; omega
   clear hb
   obtain ⟨hmn, hms⟩ := hMm _ (List.getElem_mem hjm)
   have hmx : ∀ x ∈ M[j], 0 ≤ x ∧ x ≤ 200 := fun x hx => by
    have h1 := hmn.pos x hx
    have h2 : x ≤ M[j].sum := mem_le_sum hmn.pos x hx
    omega
   have hf1 : PB 1 r.p r.order r.n.toNat 200 [⟨1, M[j]⟩] := PB.one ⟨Int.le_refl _, by show (1 : Int) < r.p; omega, hmn.len, hmx⟩
   have hvt := VTimes_pure r [⟨1, M[j]⟩] l[i] (n := r.n.toNat) (B := 200) (C := 200) (L := 2000) hn3 (by omega) (by omega) (by omega) hckp hpr (by omega) (by simp) (by omega) (by simp) hf1 hvk.vb
   rw [vtimes_one] at hvt
   have hvv : (vbyT r l[i] ⟨1, M[j]⟩).length = gs.length := by simp [vbyT, hvl]
   have hvp : ∀ f ∈ vbyT r l[i] ⟨1, M[j]⟩, f.length ≤ 2000 := fun f hf => by
    unfold vbyT at hf
    obtain ⟨g, hg, rfl⟩ := List.mem_map.1 hf
    have h1 := (hvk.all g hg).len
    have h2 := byT_length r.p g ⟨1, M[j]⟩
    omega
   (repeat(first|refine zA ?_|refine zB ?_|refine zE rfl (by decide) rfl ?_|refine zF ?_|refine zG ?_|refine zH ?_|refine zI ?_|refine zJ ?_|refine zK ?_|refine zL rfl ?_|refine zM rfl ?_))
   refine DW.drawS 13 Tryz.mixed (by kernel_rfl) (by decide) ?_
   dsimp only [List.take, List.drop]
   (repeat(first|refine zN ?_|refine zO ?_|refine zR rfl (by decide) rfl ?_|refine zS ?_))
   refine RS.sta (fun H' hov => s_buildT (out := [I 1, intsD M[j]]) rfl rfl) rfl ?_
   (repeat(first|refine zN ?_|refine zO ?_|refine zR rfl (by decide) rfl ?_|refine zS ?_))
   refine RS.sta (fun H' hov => sta_call rfl rfl (hvt H')) rfl ?_
   (repeat(first|refine zN ?_|refine zO ?_|refine zR rfl (by decide) rfl ?_|refine zS ?_))
   have hvh : HV r gs.length (gsF gs) (dgO gs (l.getD i []) + M[j].sum) (vbyT r l[i] ⟨1, M[j]⟩) := (hlst.hv i hlt).by hlst.cx (tm_one hlst.cx hmn) (by
    have := hlst.d9 i hlt
    show _ + M[j].sum ≤ 8000
    omega)
   generalize hv : vbyT r l[i] ⟨1, M[j]⟩ = v at *
   have hlenK : (K.map fun y => y.2).length = K.length := by simp
   (repeat(first|refine zA ?_|refine zB ?_|refine zE rfl (by decide) rfl ?_|refine zF ?_|refine zG ?_|refine zH ?_|refine zI ?_|refine zJ ?_|refine zK ?_|refine zL rfl ?_|refine zM rfl ?_))
   rw [hlenK]
   refine RO.dyn rfl (d_make rfl rfl (Nat.le_refl _) (by omega) (by omega) fun bR hbR => ?_)
   rw [flatten_replicate1, ← rowPart_zero K v]
   (repeat(first|refine zA ?_|refine zB ?_|refine zE rfl (by decide) rfl ?_|refine zF ?_|refine zG ?_|refine zH ?_|refine zI ?_|refine zJ ?_|refine zK ?_|refine zL rfl ?_|refine zM rfl ?_))
   refine DW.loopG (fun c : Nat => c ≤ K.length) (fun c => [(1, intsD gs), (2, vcsD l), (3, I d), (4, .ipt 4 [rgD r] 0 0), (9, intsD (K.map fun y => (y.1 : Int))), (10, intssD (K.map fun y => y.2)), (14, dj), (15, I i), (18, intssD M), (19, I j), (20, vcD v), (21, .ref bR 0 K.length 1), (22, I c)]) (fun c => Hj.set bR (3, (rowPart K v c).map I)) (fun c => K.length - c) 0
    (Nat.zero_le _) (Heap.sub_refl _) (by repeat first | exact trivial | refine HasG.one rfl ?_ | refine HasN.one rfl ?_) fun c hc => ?_
   (repeat(first|refine zA ?_|refine zB ?_|refine zE rfl (by decide) rfl ?_|refine zF ?_|refine zG ?_|refine zH ?_|refine zI ?_|refine zJ ?_|refine zK ?_|refine zL rfl ?_|refine zM rfl ?_))
   rw [hlenK]
   refine DW.cond rfl (fun hb => ?_) (fun hb => ?_)
   ·have hcl : c < K.length := by have := of_decide_eq_true hb; omega
    clear hb
    have hKc : K[c].1 < v.length := by
     have := (keysT_mem (n := r.n.toNat) (a := K[c].1) (e := K[c].2) (by omega)).1 (by rw [hK]; exact List.getElem_mem hcl)
     omega
    (repeat(first|refine zA ?_|refine zB ?_|refine zE rfl (by decide) rfl ?_|refine zF ?_|refine zG ?_|refine zH ?_|refine zI ?_|refine zJ ?_|refine zK ?_|refine zL rfl ?_|refine zM rfl ?_))
    refine RO.sta (s_index (i := c) rfl rfl (by simpa using hcl)) rfl ?_
    refine RO.sta (s_load (d := I (K[c].1 : Nat)) rfl (by simp [cellAt, cellsOf, hcl])) rfl ?_
    refine RO.sta (s_index (i := K[c].1) rfl rfl (by simpa using hKc)) rfl ?_
    refine RO.sta (s_load (d := plD v[K[c].1]) rfl (by simp [cellAt, cellsOf, hKc, plD])) rfl ?_
    have hfg : v.getD K[c].1 [] = v[K[c].1] := getD_lt hKc
    have hfl := hvp _ (List.getElem_mem hKc)
    have hfe : ∀ u ∈ v[K[c].1], u.e.length ≤ 3 := fun u hu => by
     have := ((hvh.all _ hKc).all u hu).len
     omega
    have hset := rowPart_set (v := v) hcl
    rw [hfg] at hset
    generalize hf : v[K[c].1] = f at *
    (repeat(first|refine zA ?_|refine zB ?_|refine zE rfl (by decide) rfl ?_|refine zF ?_|refine zG ?_|refine zH ?_|refine zI ?_|refine zJ ?_|refine zK ?_|refine zL rfl ?_|refine zM rfl ?_))
    refine DW.loopG (fun t : Nat => t ≤ f.length) (fun t => [(1, intsD gs), (2, vcsD l), (3, I d), (4, .ipt 4 [rgD r] 0 0), (9, intsD (K.map fun y => (y.1 : Int))), (10, intssD (K.map fun y => y.2)), (14, dj), (15, I i), (18, intssD M), (19, I j), (20, vcD v), (21, .ref bR 0 K.length 1), (22, I c), (23, plD f), (24, I t)]) (fun t => Hj.set bR (3, ((rowPart K v c).set c (coefP K[c].2 f t)).map I)) (fun t => f.length - t) 0
     (Nat.zero_le _) (by rw [show coefP K[c].2 f 0 = 0 from rfl, rowPart_at hcl]; exact Heap.sub_refl _) (by repeat first | exact trivial | refine HasG.one rfl ?_ | refine HasN.one rfl ?_) fun t ht => ?_
    (repeat(first|refine zA ?_|refine zB ?_|refine zE rfl (by decide) rfl ?_|refine zF ?_|refine zG ?_|refine zH ?_|refine zI ?_|refine zJ ?_|refine zK ?_|refine zL rfl ?_|refine zM rfl ?_))
    refine DW.cond rfl (fun hb => ?_) (fun hb => ?_)
    ·have htl : t < f.length := by have := of_decide_eq_true hb; omega
     clear hb
     have hcs := coefP_succ (e := K[c].2) htl
     have hsi := fun H => SameInts_pure f[t].e K[c].2 (by have := hfe _ (List.getElem_mem htl); omega) H
     have hrl3 : ((rowPart K v c).set c (coefP K[c].2 f t)).length = K.length := by rw [List.length_set, rowPart_len hc]
     (repeat(first|refine zA ?_|refine zB ?_|refine zE rfl (by decide) rfl ?_|refine zF ?_|refine zG ?_|refine zH ?_|refine zI ?_|refine zJ ?_|refine zK ?_|refine zL rfl ?_|refine zM rfl ?_))
     refine DW.drawS 10 Tryz.mixed (by kernel_rfl) (by decide) ?_
     dsimp only [List.take, List.drop]
     (repeat(first|refine zN ?_|refine zO ?_|refine zR rfl (by decide) rfl ?_|refine zS ?_))
     refine RS.sta (d := .bool (f[t].e == K[c].2)) (fun H' hov => sta_call rfl rfl (by have := hsi H'; simpa only [List.getElem_map, List.append_nil] using this)) rfl ?_
     (repeat(first|refine zN ?_|refine zO ?_|refine zR rfl (by decide) rfl ?_|refine zS ?_))
     (repeat(first|refine zA ?_|refine zB ?_|refine zE rfl (by decide) rfl ?_|refine zF ?_|refine zG ?_|refine zH ?_|refine zI ?_|refine zJ ?_|refine zK ?_|refine zL rfl ?_|refine zM rfl ?_))
     cases hE : (f[t].e == K[c].2)
     case true =>
      rw [hE, if_pos rfl] at hcs
      (repeat(first|refine zA ?_|refine zB ?_|refine zE rfl (by decide) rfl ?_|refine zF ?_|refine zG ?_|refine zH ?_|refine zI ?_|refine zJ ?_|refine zK ?_|refine zL rfl ?_|refine zM rfl ?_))
      refine RO.sta (s_indexRef (i := c) rfl rfl hcl) rfl ?_
      refine RO.dyn rfl (d_storeInt (l := (rowPart K v c).set c (coefP K[c].2 f t)) rfl rfl (Heap.set_self _ _ _) (by rw [hrl3]; omega) ?_)
      rw [Heap.set_set, show 0 + c * 1 = c by omega, List.set_set, ← hcs]
      (repeat(first|refine zA ?_|refine zB ?_|refine zE rfl (by decide) rfl ?_|refine zF ?_|refine zG ?_|refine zH ?_|refine zI ?_|refine zJ ?_|refine zK ?_|refine zL rfl ?_|refine zM rfl ?_))
      exact ⟨t + 1, htl, by dsimp only; omega, Heap.sub_refl _, (by repeat first | exact trivial | refine HasG.one rfl ?_ | refine HasN.one rfl ?_)⟩
     rw [hE, if_neg (by decide)] at hcs
     rw [← hcs]
     (repeat(first|refine zA ?_|refine zB ?_|refine zE rfl (by decide) rfl ?_|refine zF ?_|refine zG ?_|refine zH ?_|refine zI ?_|refine zJ ?_|refine zK ?_|refine zL rfl ?_|refine zM rfl ?_))
     exact ⟨t + 1, htl, by dsimp only; omega, Heap.sub_refl _, (by repeat first | exact trivial | refine HasG.one rfl ?_ | refine HasN.one rfl ?_)⟩
    ·have hte : t = f.length := by have := of_decide_eq_false hb; omega
     subst hte
     clear hb
     rw [coefP_all, hset]
     (repeat(first|refine zA ?_|refine zB ?_|refine zE rfl (by decide) rfl ?_|refine zF ?_|refine zG ?_|refine zH ?_|refine zI ?_|refine zJ ?_|refine zK ?_|refine zL rfl ?_|refine zM rfl ?_))
     exact ⟨c + 1, hcl, by dsimp only; omega, Heap.sub_refl _, (by repeat first | exact trivial | refine HasG.one rfl ?_ | refine HasN.one rfl ?_)⟩
   have hce : c = K.length := by have := of_decide_eq_false hb; omega
   subst hce
   clear hb
   rw [rowPart_all]
   refine DW.exit ?_
   refine DW.freezeG [(1, intsD gs), (2, vcsD l), (3, I d), (4, .ipt 4 [rgD r] 0 0), (9, intsD (K.map fun y => (y.1 : Int))), (10, intssD (K.map fun y => y.2)), (14, dj), (15, I i), (18, intssD M), (19, I j), (21, intsD (rowK K v))] Hj (Heap.sub_set _ hbR) ?_ ?_
   ·(repeat refine HasG.one rfl ?_)
    exact ⟨⟨_, rfl, Frz.list (T := 3) (by rw [Heap.set_self, cellsI]) hbR (uni_I _) (by unfold rowK; simp)⟩, trivial⟩
   (repeat(first|refine zA ?_|refine zB ?_|refine zE rfl (by decide) rfl ?_|refine zF ?_|refine zG ?_|refine zH ?_|refine zI ?_|refine zJ ?_|refine zK ?_|refine zL rfl ?_|refine zM rfl ?_))
   refine RO.dyn rfl (d_append (H0 := H) (l := ((l.take i).flatMap (rowV r gs d) ++ (M.take j).map fun m => rowK K (vbyT r l[i] ⟨1, m⟩)).map intsD) (xs := [intsD (rowK K v)]) rfl aj hoj rfl (.inl rfl) (uni_ints [rowK K v]) (by simp only [List.length_map, List.length_append, List.length_take, List.length_singleton]; omega) (by simp only [List.length_map, List.length_append, List.length_take, List.length_singleton]; omega) fun d' H' q1 q2 q3 => ?_)
   (repeat(first|refine zA ?_|refine zB ?_|refine zE rfl (by decide) rfl ?_|refine zF ?_|refine zG ?_|refine zH ?_|refine zI ?_|refine zJ ?_|refine zK ?_|refine zL rfl ?_|refine zM rfl ?_))
   refine ⟨(j + 1, H', d'), ⟨hjm, ?_, q2⟩, by dsimp only; omega, Heap.sub_refl _, (by repeat first | exact trivial | refine HasG.one rfl ?_ | refine HasN.one rfl ?_)⟩
   dsimp only
   have hx : (((l.take i).flatMap (rowV r gs d) ++ (M.take (j + 1)).map fun m => rowK K (vbyT r l[i] ⟨1, m⟩)).map intsD) = (((l.take i).flatMap (rowV r gs d) ++ (M.take j).map fun m => rowK K (vbyT r l[i] ⟨1, m⟩)).map intsD) ++ [intsD (rowK K (vbyT r l[i] ⟨1, M[j]⟩))] := by
    rw [List.take_succ_eq_append_getElem hjm]
    simp only [List.map_append, List.append_assoc, List.map_cons, List.map_nil]
   rw [hx]
   rw [← hv] at q1
   exact q1
  ·have hje : j = M.length := by have := of_decide_eq_false hb; omega
   subst hje
   clear hb
   rw [List.take_length, ← hrv, ← hsuc] at aj
   (repeat(first|refine zA ?_|refine zB ?_|refine zE rfl (by decide) rfl ?_|refine zF ?_|refine zG ?_|refine zH ?_|refine zI ?_|refine zJ ?_|refine zK ?_|refine zL rfl ?_|refine zM rfl ?_))
   exact ⟨(i + 1, Hj, dj), ⟨hlt, aj, hoj⟩, by dsimp only; omega, Heap.sub_refl _, (by repeat first | exact trivial | refine HasG.one rfl ?_ | refine HasN.one rfl ?_)⟩
 have hie : i = l.length := by have := of_decide_eq_false hb; omega
 subst hie
 clear hb
 rw [List.take_length, ← rowsT_def] at a14
 have hrk := fun H => rankOf_pure r.p (rowsT r gs l d) hckp hrc H
 refine DW.exit ?_
 refine DW.freezeG [(4, .ipt 4 [rgD r] 0 0), (10, intssD (K.map fun y => y.2)), (14, intssD (rowsT r gs l d))] H hoi ?_ ?_
 ·(repeat refine HasG.one rfl ?_)
  exact ⟨⟨_, rfl, a14.done⟩, trivial⟩
 have hlen : (K.map fun y => y.2).length = K.length := by simp
 obtain ⟨_, _, _, _, _, hrle⟩ := rankT_spec (by omega) (invT_inv hckp) (rowsCk_ok hrc).2.2
 (repeat(first|refine zA ?_|refine zB ?_|refine zE rfl (by decide) rfl ?_|refine zF ?_|refine zG ?_|refine zH ?_|refine zI ?_|refine zJ ?_|refine zK ?_|refine zL rfl ?_|refine zM rfl ?_))
 refine RO.sta (sta_call rfl rfl (hrk _)) rfl ?_
 rw [hlen]
 (repeat(first|refine zA ?_|refine zB ?_|refine zE rfl (by decide) rfl ?_|refine zF ?_|refine zG ?_|refine zH ?_|refine zI ?_|refine zJ ?_|refine zK ?_|refine zL rfl ?_|refine zM rfl ?_))
 exact DW.ret ⟨.inl rfl, _, rfl, Over.refl _, .same _⟩
end
section
open Go.RowKit
set_option maxHeartbeats 8000000

def oneL : List Vc := [[[⟨1, [1, 0]⟩]]]

theorem oneLds : ldsT xyR 1 oneL = [[[1, 0]]] := by decide +kernel

theorem oneCk : hilCk xyR [0] oneL = 0 := by decide +kernel

theorem oneNum : numA xyR [0] oneL = [1, -1] := by
 unfold numA
 rw [if_pos oneCk]
 show trimT (totU [0] (ldsT xyR 1 oneL) 1) = _
 rw [oneLds]
 decide +kernel

theorem oneCnt : cntA xyR [0] oneL 3 = 1 ∧ cntC xyR [0] oneL 3 = 0 := by
 have h : cntC xyR [0] oneL 3 = 0 := by
  unfold cntC
  rw [if_pos oneCk]
  decide +kernel
 refine ⟨?_, h⟩
 unfold cntA
 rw [if_pos h]
 show (((cntU xyR.n.toNat [0] (ldsT xyR 1 oneL) 3 1 : Nat) : Int)) = 1
 rw [oneLds]
 decide +kernel

theorem oneFree : freeN 2 3 = 4 ∧ freeE 2 3 = 0 := by decide +kernel

theorem hTerm_pure (c : Int) (e : List Int) : Pure Tryz.prog 45 [I c, intsD e] (tmD ⟨c, e⟩) := by
 intro H
 refine PureH.of_bodyCell (r := 4) (t := 55) (T0 := 55) (cells := [I c, intsD e]) Tryz.func45 rfl (by decide) (Nat.le_of_ble_eq_true rfl) rfl fun w0 => ?_
 (repeat(first|refine zA ?_|refine zB ?_|refine zE rfl (by decide) rfl ?_|refine zF ?_|refine zG ?_|refine zH ?_|refine zI ?_|refine zJ ?_|refine zK ?_|refine zL rfl ?_|refine zM rfl ?_))
 refine RO.dyn rfl (d_alloc fun b hb => ?_)
 (repeat(first|refine zA ?_|refine zB ?_|refine zE rfl (by decide) rfl ?_|refine zF ?_|refine zG ?_|refine zH ?_|refine zI ?_|refine zJ ?_|refine zK ?_|refine zL rfl ?_|refine zM rfl ?_))
 refine RO.sta (s_buildT (out := [I c, intsD e]) rfl rfl) rfl ?_
 refine RO.dyn rfl (d_store (k := 2) rfl rfl rfl (Heap.set_self _ _ _) (by show 0 + 2 ≤ 2; omega) (by simp [cellsOf, D.isCell, intsD]) ?_)
 rw [Heap.set_set]
 (repeat(first|refine zA ?_|refine zB ?_|refine zE rfl (by decide) rfl ?_|refine zF ?_|refine zG ?_|refine zH ?_|refine zI ?_|refine zJ ?_|refine zK ?_|refine zL rfl ?_|refine zM rfl ?_))
 exact DW.ret ⟨.inl rfl, b, rfl, Heap.set_self _ _ _, (Over.refl _).set hb, hb⟩

theorem hOne_pure : Pure Tryz.prog 29 [] (vcsD oneL) := by
 intro H
 refine PureH.of_body Tryz.func29 rfl (by decide) (Nat.le_of_ble_eq_true rfl) fun w0 => ?_
 (repeat(first|refine zA ?_|refine zB ?_|refine zE rfl (by decide) rfl ?_|refine zF ?_|refine zG ?_|refine zH ?_|refine zI ?_|refine zJ ?_|refine zK ?_|refine zL rfl ?_|refine zM rfl ?_))
 refine RO.sta (s_two rfl rfl) rfl ?_
 refine RO.sta (sta_call rfl rfl (hTerm_pure 1 [1, 0] _)) rfl ?_
 (repeat(first|refine zA ?_|refine zB ?_|refine zE rfl (by decide) rfl ?_|refine zF ?_|refine zG ?_|refine zH ?_|refine zI ?_|refine zJ ?_|refine zK ?_|refine zL rfl ?_|refine zM rfl ?_))
 exact DW.ret ⟨.inl rfl, _, rfl, Over.refl _, .same _⟩

theorem hilbertBegun_pure : Pure Tryz.prog 11 [] (.bool true) := by
 intro H
 have hcnt : ∀ H, PureH Tryz.prog H 5 [rgD xyR, intsD [0], vcsD oneL, I 3] (.tup [I 1, I 0]) := fun H => by
  have := Count_pure xyR [0] oneL 3 (by decide) (by decide) (by decide) H
  rw [oneCnt.1, oneCnt.2] at this
  exact this
 have hnum : ∀ H, PureH Tryz.prog H 12 [rgD xyR, intsD [0], vcsD oneL] (.tup [intsD [1, -1], I 0]) := fun H => by
  have := Numerator_pure xyR [0] oneL (by decide) (by decide) (by decide) H
  rw [oneNum, oneCk] at this
  exact this
 have hfree : ∀ H, PureH Tryz.prog H 6 [I 2, I 3] (.tup [I 4, I 0]) := fun H => by
  have := Free_pure 2 3 H
  rw [oneFree.1, oneFree.2] at this
  exact this
 have hchk : ∀ H, PureH Tryz.prog H 8 [rgD xyR, intsD [0], vcsD oneL] (I 0) := fun H => by
  have := hilCheck_pure xyR [0] oneL (by decide) (by decide) (by decide) H
  rw [oneCk] at this
  exact this
 refine PureH.of_body Tryz.func11 rfl (by decide) (Nat.le_of_ble_eq_true rfl) fun w0 => ?_
 (repeat(first|refine zA ?_|refine zB ?_|refine zE rfl (by decide) rfl ?_|refine zF ?_|refine zG ?_|refine zH ?_|refine zI ?_|refine zJ ?_|refine zK ?_|refine zL rfl ?_|refine zM rfl ?_))
 refine RO.sta (sta_call rfl rfl (xy_pure _)) rfl ?_
 (repeat(first|refine zA ?_|refine zB ?_|refine zE rfl (by decide) rfl ?_|refine zF ?_|refine zG ?_|refine zH ?_|refine zI ?_|refine zJ ?_|refine zK ?_|refine zL rfl ?_|refine zM rfl ?_))
 refine RO.sta (sta_call rfl rfl (hOne_pure _)) rfl ?_
 (repeat(first|refine zA ?_|refine zB ?_|refine zE rfl (by decide) rfl ?_|refine zF ?_|refine zG ?_|refine zH ?_|refine zI ?_|refine zJ ?_|refine zK ?_|refine zL rfl ?_|refine zM rfl ?_))
 refine RO.sta (sta_call rfl rfl (hcnt _)) rfl ?_
 (repeat(first|refine zA ?_|refine zB ?_|refine zE rfl (by decide) rfl ?_|refine zF ?_|refine zG ?_|refine zH ?_|refine zI ?_|refine zJ ?_|refine zK ?_|refine zL rfl ?_|refine zM rfl ?_))
 refine RO.sta (sta_call rfl rfl (xy_pure _)) rfl ?_
 (repeat(first|refine zA ?_|refine zB ?_|refine zE rfl (by decide) rfl ?_|refine zF ?_|refine zG ?_|refine zH ?_|refine zI ?_|refine zJ ?_|refine zK ?_|refine zL rfl ?_|refine zM rfl ?_))
 refine RO.sta (sta_call rfl rfl (hOne_pure _)) rfl ?_
 (repeat(first|refine zA ?_|refine zB ?_|refine zE rfl (by decide) rfl ?_|refine zF ?_|refine zG ?_|refine zH ?_|refine zI ?_|refine zJ ?_|refine zK ?_|refine zL rfl ?_|refine zM rfl ?_))
 refine RO.sta (sta_call rfl rfl (hnum _)) rfl ?_
 (repeat(first|refine zA ?_|refine zB ?_|refine zE rfl (by decide) rfl ?_|refine zF ?_|refine zG ?_|refine zH ?_|refine zI ?_|refine zJ ?_|refine zK ?_|refine zL rfl ?_|refine zM rfl ?_))
 refine RO.sta (sta_call rfl rfl (hfree _)) rfl ?_
 (repeat(first|refine zA ?_|refine zB ?_|refine zE rfl (by decide) rfl ?_|refine zF ?_|refine zG ?_|refine zH ?_|refine zI ?_|refine zJ ?_|refine zK ?_|refine zL rfl ?_|refine zM rfl ?_))
 refine RO.yes rfl rfl (OpD.of_sta (s_two rfl rfl) ?_)
 refine RO.yes rfl rfl (OpD.of_sta (sta_call rfl rfl (SameInts_pure [1, -1] [1, -1] (by decide) _)) ?_)
 (repeat(first|refine zA ?_|refine zB ?_|refine zE rfl (by decide) rfl ?_|refine zF ?_|refine zG ?_|refine zH ?_|refine zI ?_|refine zJ ?_|refine zK ?_|refine zL rfl ?_|refine zM rfl ?_))
 refine RO.yes rfl rfl (OpD.of_sta (sta_call rfl rfl (xy_pure _)) ?_)
 (repeat(first|refine zA ?_|refine zB ?_|refine zE rfl (by decide) rfl ?_|refine zF ?_|refine zG ?_|refine zH ?_|refine zI ?_|refine zJ ?_|refine zK ?_|refine zL rfl ?_|refine zM rfl ?_))
 refine RO.yes rfl rfl (OpD.of_sta (sta_call rfl rfl (hOne_pure _)) ?_)
 (repeat(first|refine zA ?_|refine zB ?_|refine zE rfl (by decide) rfl ?_|refine zF ?_|refine zG ?_|refine zH ?_|refine zI ?_|refine zJ ?_|refine zK ?_|refine zL rfl ?_|refine zM rfl ?_))
 refine RO.yes rfl rfl (OpD.of_sta (sta_call rfl rfl (hchk _)) ?_)
 (repeat(first|refine zA ?_|refine zB ?_|refine zE rfl (by decide) rfl ?_|refine zF ?_|refine zG ?_|refine zH ?_|refine zI ?_|refine zJ ?_|refine zK ?_|refine zL rfl ?_|refine zM rfl ?_))
 exact DW.ret ⟨.inl rfl, _, rfl, Over.refl _, .same _⟩
end
section
open Go.RowKit
set_option maxHeartbeats 8000000

theorem hilbertCounts_pure (r : Rg) (gs : List Int) (l : List Vc) (d n : Int) (hgl : gs.length ≤ 4611686018427387904) (hl : l.length ≤ 4611686018427387904) (hv : ∀ v ∈ l, v.length ≤ 4611686018427387904 ∧ ∀ f ∈ v, f.length ≤ 4611686018427387904) : Pure Tryz.prog 3 [rgD r, intsD gs, vcsD l, I d, I n] (.bool true) := by
 intro H
 refine PureH.of_body Tryz.func3 rfl (by decide) (Nat.le_of_ble_eq_true rfl) fun w0 => ?_
 (repeat(first|refine zA ?_|refine zB ?_|refine zE rfl (by decide) rfl ?_|refine zF ?_|refine zG ?_|refine zH ?_|refine zI ?_|refine zJ ?_|refine zK ?_|refine zL rfl ?_|refine zM rfl ?_))
 refine RO.sta (sta_call rfl rfl (Count_pure r gs l d hgl hl hv _)) rfl ?_
 (repeat(first|refine zA ?_|refine zB ?_|refine zE rfl (by decide) rfl ?_|refine zF ?_|refine zG ?_|refine zH ?_|refine zI ?_|refine zJ ?_|refine zK ?_|refine zL rfl ?_|refine zM rfl ?_))
 refine RO.sta (sta_call rfl rfl (Free_pure n d _)) rfl ?_
 (repeat(first|refine zA ?_|refine zB ?_|refine zE rfl (by decide) rfl ?_|refine zF ?_|refine zG ?_|refine zH ?_|refine zI ?_|refine zJ ?_|refine zK ?_|refine zL rfl ?_|refine zM rfl ?_))
 refine RO.sta (sta_call rfl rfl (CheckHilbert_pure r gs l hgl hl hv _)) rfl ?_
 (repeat(first|refine zA ?_|refine zB ?_|refine zE rfl (by decide) rfl ?_|refine zF ?_|refine zG ?_|refine zH ?_|refine zI ?_|refine zJ ?_|refine zK ?_|refine zL rfl ?_|refine zM rfl ?_))
 refine RO.sta (sta_call rfl rfl (hilCheck_pure r gs l hgl hl hv _)) rfl ?_
 (repeat(first|refine zA ?_|refine zB ?_|refine zE rfl (by decide) rfl ?_|refine zF ?_|refine zG ?_|refine zH ?_|refine zI ?_|refine zJ ?_|refine zK ?_|refine zL rfl ?_|refine zM rfl ?_))
 have hee : (hilCk r gs l != hilCk r gs l) = false := by simp
 rw [hee]
 (repeat(first|refine zA ?_|refine zB ?_|refine zE rfl (by decide) rfl ?_|refine zF ?_|refine zG ?_|refine zH ?_|refine zI ?_|refine zJ ?_|refine zK ?_|refine zL rfl ?_|refine zM rfl ?_))
 refine RO.cut [(1, intsD gs), (2, vcsD l), (3, I d), (4, I n), (5, .ipt 4 [rgD r] 0 0), (11, I (cntA r gs l d)), (12, I (cntC r gs l d)), (13, I (freeN n d)), (14, I (freeE n d)), (15, I (hilCk r gs l)), (16, I 0), (17, I 0), (18, I 0), (52, .bool (decide (hilCk r gs l = 0 ∧ (d < 0 ∨ 12 < d))))] H ?_ ?_
 rotate_left
 ·by_cases h0 : hilCk r gs l = 0
  ·rw [show (hilCk r gs l == 0) = true by simpa using h0]
   (repeat(first|refine zA ?_|refine zB ?_|refine zE rfl (by decide) rfl ?_|refine zF ?_|refine zG ?_|refine zH ?_|refine zI ?_|refine zJ ?_|refine zK ?_|refine zL rfl ?_|refine zM rfl ?_))
   cases h1 : decide (d < 0)
   case true =>
    have hdec : decide (hilCk r gs l = 0 ∧ (d < 0 ∨ 12 < d)) = true := decide_eq_true ⟨h0, .inl (of_decide_eq_true h1)⟩
    rw [hdec]
    (repeat(first|refine zA ?_|refine zB ?_|refine zE rfl (by decide) rfl ?_|refine zF ?_|refine zG ?_|refine zH ?_|refine zI ?_|refine zJ ?_|refine zK ?_|refine zL rfl ?_|refine zM rfl ?_))
    exact ⟨(by repeat first | exact trivial | refine HasG.one rfl ?_ | refine HasN.one rfl ?_), rfl⟩
   (repeat(first|refine zA ?_|refine zB ?_|refine zE rfl (by decide) rfl ?_|refine zF ?_|refine zG ?_|refine zH ?_|refine zI ?_|refine zJ ?_|refine zK ?_|refine zL rfl ?_|refine zM rfl ?_))
   cases h2 : decide (12 < d)
   case true =>
    have hdec : decide (hilCk r gs l = 0 ∧ (d < 0 ∨ 12 < d)) = true := decide_eq_true ⟨h0, .inr (of_decide_eq_true h2)⟩
    rw [hdec]
    (repeat(first|refine zA ?_|refine zB ?_|refine zE rfl (by decide) rfl ?_|refine zF ?_|refine zG ?_|refine zH ?_|refine zI ?_|refine zJ ?_|refine zK ?_|refine zL rfl ?_|refine zM rfl ?_))
    exact ⟨(by repeat first | exact trivial | refine HasG.one rfl ?_ | refine HasN.one rfl ?_), rfl⟩
   have hdec : decide (hilCk r gs l = 0 ∧ (d < 0 ∨ 12 < d)) = false := decide_eq_false fun h => by
    have g1 := of_decide_eq_false h1
    have g2 := of_decide_eq_false h2
    omega
   rw [hdec]
   (repeat(first|refine zA ?_|refine zB ?_|refine zE rfl (by decide) rfl ?_|refine zF ?_|refine zG ?_|refine zH ?_|refine zI ?_|refine zJ ?_|refine zK ?_|refine zL rfl ?_|refine zM rfl ?_))
   exact ⟨(by repeat first | exact trivial | refine HasG.one rfl ?_ | refine HasN.one rfl ?_), rfl⟩
  ·have hdec : decide (hilCk r gs l = 0 ∧ (d < 0 ∨ 12 < d)) = false := decide_eq_false fun h => h0 h.1
   rw [hdec, show (hilCk r gs l == 0) = false by simpa using h0]
   (repeat(first|refine zA ?_|refine zB ?_|refine zE rfl (by decide) rfl ?_|refine zF ?_|refine zG ?_|refine zH ?_|refine zI ?_|refine zJ ?_|refine zK ?_|refine zL rfl ?_|refine zM rfl ?_))
   exact ⟨(by repeat first | exact trivial | refine HasG.one rfl ?_ | refine HasN.one rfl ?_), rfl⟩
 (repeat(first|refine zA ?_|refine zB ?_|refine zE rfl (by decide) rfl ?_|refine zF ?_|refine zG ?_|refine zH ?_|refine zI ?_|refine zJ ?_|refine zK ?_|refine zL rfl ?_|refine zM rfl ?_))
 refine DW.cutg [(1, intsD gs), (2, vcsD l), (3, I d), (4, I n), (5, .ipt 4 [rgD r] 0 0), (11, I (cntA r gs l d)), (12, I (cntC r gs l d)), (13, I (freeN n d)), (14, I (freeE n d)), (15, I (cntC r gs l d)), (16, I 0), (17, I 0), (18, I 0)] H ?_ ?_
 rotate_left
 ·refine DW.cond rfl (fun hb => ?_) (fun hb => ?_)
  ·have hb' := of_decide_eq_true hb
   have hc : cntC r gs l d = 3 := by unfold cntC; rw [if_pos hb'.1, if_pos hb'.2]
   (repeat(first|refine zA ?_|refine zB ?_|refine zE rfl (by decide) rfl ?_|refine zF ?_|refine zG ?_|refine zH ?_|refine zI ?_|refine zJ ?_|refine zK ?_|refine zL rfl ?_|refine zM rfl ?_))
   rw [hc]
   exact ⟨Heap.sub_refl _, (by repeat first | exact trivial | refine HasG.one rfl ?_ | refine HasN.one rfl ?_ | refine HasG.nil1 rfl ?_)⟩
  ·have hb' := of_decide_eq_false hb
   have hc : cntC r gs l d = hilCk r gs l := by
    unfold cntC
    by_cases h0 : hilCk r gs l = 0
    ·rw [if_pos h0, if_neg fun h => hb' ⟨h0, h⟩, h0]
    ·rw [if_neg h0]
   (repeat(first|refine zA ?_|refine zB ?_|refine zE rfl (by decide) rfl ?_|refine zF ?_|refine zG ?_|refine zH ?_|refine zI ?_|refine zJ ?_|refine zK ?_|refine zL rfl ?_|refine zM rfl ?_))
   rw [hc]
   exact ⟨Heap.sub_refl _, (by repeat first | exact trivial | refine HasG.one rfl ?_ | refine HasN.one rfl ?_ | refine HasG.nil1 rfl ?_)⟩
 (repeat(first|refine zA ?_|refine zB ?_|refine zE rfl (by decide) rfl ?_|refine zF ?_|refine zG ?_|refine zH ?_|refine zI ?_|refine zJ ?_|refine zK ?_|refine zL rfl ?_|refine zM rfl ?_))
 refine DW.cutg [(3, I d), (4, I n), (11, I (cntA r gs l d)), (12, I (cntC r gs l d)), (13, I (freeN n d)), (14, I (freeE n d)), (15, I (cntC r gs l d)), (16, I (cntA r gs l d)), (17, I 0), (18, I 0)] H ?_ ?_
 rotate_left
 ·by_cases hc : cntC r gs l d = 0
  ·have hck : hilCk r gs l = 0 := by
    unfold cntC at hc
    split at hc
    ·assumption
    ·exact hc
   have hd : 0 ≤ d ∧ d ≤ 12 := by
    unfold cntC at hc
    rw [if_pos hck] at hc
    by_cases hx : d < 0 ∨ 12 < d
    ·rw [if_pos hx] at hc; cases hc
    ·omega
   have hA : cntA r gs l d = docC r gs l d := by
    unfold cntA
    rw [if_pos hc, doc_count hck hd.1 hd.2]
   rw [show (cntC r gs l d == 0) = true by simpa using hc]
   (repeat(first|refine zA ?_|refine zB ?_|refine zE rfl (by decide) rfl ?_|refine zF ?_|refine zG ?_|refine zH ?_|refine zI ?_|refine zJ ?_|refine zK ?_|refine zL rfl ?_|refine zM rfl ?_))
   refine RO.sta (sta_call rfl rfl (CountOf_pure hck hd.1 hd.2 _)) rfl ?_
   (repeat(first|refine zA ?_|refine zB ?_|refine zE rfl (by decide) rfl ?_|refine zF ?_|refine zG ?_|refine zH ?_|refine zI ?_|refine zJ ?_|refine zK ?_|refine zL rfl ?_|refine zM rfl ?_))
   rw [hA]
   exact ⟨Heap.sub_refl _, (by repeat first | exact trivial | refine HasG.one rfl ?_ | refine HasN.one rfl ?_ | refine HasG.nil1 rfl ?_)⟩
  ·have hA : cntA r gs l d = 0 := by unfold cntA; rw [if_neg hc]
   rw [show (cntC r gs l d == 0) = false by simpa using hc]
   (repeat(first|refine zA ?_|refine zB ?_|refine zE rfl (by decide) rfl ?_|refine zF ?_|refine zG ?_|refine zH ?_|refine zI ?_|refine zJ ?_|refine zK ?_|refine zL rfl ?_|refine zM rfl ?_))
   rw [hA]
   exact ⟨Heap.sub_refl _, (by repeat first | exact trivial | refine HasG.one rfl ?_ | refine HasN.one rfl ?_ | refine HasG.nil1 rfl ?_)⟩
 (repeat(first|refine zA ?_|refine zB ?_|refine zE rfl (by decide) rfl ?_|refine zF ?_|refine zG ?_|refine zH ?_|refine zI ?_|refine zJ ?_|refine zK ?_|refine zL rfl ?_|refine zM rfl ?_))
 refine RO.cut [(3, I d), (4, I n), (11, I (cntA r gs l d)), (12, I (cntC r gs l d)), (13, I (freeN n d)), (14, I (freeE n d)), (15, I (cntC r gs l d)), (16, I (cntA r gs l d)), (17, I 0), (18, I 0), (73, .bool (freeBad n d))] H ?_ ?_
 rotate_left
 ·have hbad : freeBad n d = (decide (n < 1) || decide (3 < n) || decide (d < -100) || decide (100 < d)) := rfl
  cases h1 : decide (n < 1)
  case true =>
   rw [hbad, h1]
   (repeat(first|refine zA ?_|refine zB ?_|refine zE rfl (by decide) rfl ?_|refine zF ?_|refine zG ?_|refine zH ?_|refine zI ?_|refine zJ ?_|refine zK ?_|refine zL rfl ?_|refine zM rfl ?_))
   exact ⟨(by repeat first | exact trivial | refine HasG.one rfl ?_ | refine HasN.one rfl ?_), rfl⟩
  (repeat(first|refine zA ?_|refine zB ?_|refine zE rfl (by decide) rfl ?_|refine zF ?_|refine zG ?_|refine zH ?_|refine zI ?_|refine zJ ?_|refine zK ?_|refine zL rfl ?_|refine zM rfl ?_))
  cases h2 : decide (3 < n)
  case true =>
   rw [hbad, h1, h2]
   (repeat(first|refine zA ?_|refine zB ?_|refine zE rfl (by decide) rfl ?_|refine zF ?_|refine zG ?_|refine zH ?_|refine zI ?_|refine zJ ?_|refine zK ?_|refine zL rfl ?_|refine zM rfl ?_))
   exact ⟨(by repeat first | exact trivial | refine HasG.one rfl ?_ | refine HasN.one rfl ?_), rfl⟩
  (repeat(first|refine zA ?_|refine zB ?_|refine zE rfl (by decide) rfl ?_|refine zF ?_|refine zG ?_|refine zH ?_|refine zI ?_|refine zJ ?_|refine zK ?_|refine zL rfl ?_|refine zM rfl ?_))
  cases h3 : decide (d < -100)
  case true =>
   rw [hbad, h1, h2, h3]
   (repeat(first|refine zA ?_|refine zB ?_|refine zE rfl (by decide) rfl ?_|refine zF ?_|refine zG ?_|refine zH ?_|refine zI ?_|refine zJ ?_|refine zK ?_|refine zL rfl ?_|refine zM rfl ?_))
   exact ⟨(by repeat first | exact trivial | refine HasG.one rfl ?_ | refine HasN.one rfl ?_), rfl⟩
  (repeat(first|refine zA ?_|refine zB ?_|refine zE rfl (by decide) rfl ?_|refine zF ?_|refine zG ?_|refine zH ?_|refine zI ?_|refine zJ ?_|refine zK ?_|refine zL rfl ?_|refine zM rfl ?_))
  rw [hbad, h1, h2, h3]
  exact ⟨(by repeat first | exact trivial | refine HasG.one rfl ?_ | refine HasN.one rfl ?_), rfl⟩
 (repeat(first|refine zA ?_|refine zB ?_|refine zE rfl (by decide) rfl ?_|refine zF ?_|refine zG ?_|refine zH ?_|refine zI ?_|refine zJ ?_|refine zK ?_|refine zL rfl ?_|refine zM rfl ?_))
 refine DW.cutg [(11, I (cntA r gs l d)), (12, I (cntC r gs l d)), (13, I (freeN n d)), (14, I (freeE n d)), (15, I (cntC r gs l d)), (16, I (cntA r gs l d)), (17, I (freeN n d)), (18, I (freeE n d))] H ?_ ?_
 rotate_left
 ·cases hfb : freeBad n d
  case true =>
   have f1 : freeN n d = 0 := by unfold freeN; rw [hfb]; rfl
   have f2 : freeE n d = 3 := by unfold freeE; rw [hfb]; rfl
   (repeat(first|refine zA ?_|refine zB ?_|refine zE rfl (by decide) rfl ?_|refine zF ?_|refine zG ?_|refine zH ?_|refine zI ?_|refine zJ ?_|refine zK ?_|refine zL rfl ?_|refine zM rfl ?_))
   rw [f1, f2]
   exact ⟨Heap.sub_refl _, (by repeat first | exact trivial | refine HasG.one rfl ?_ | refine HasN.one rfl ?_ | refine HasG.nil1 rfl ?_)⟩
  have hbd : 1 ≤ n ∧ n ≤ 3 ∧ -100 ≤ d ∧ d ≤ 100 := by
   unfold freeBad at hfb
   simp only [Bool.or_eq_false_iff, decide_eq_false_iff_not] at hfb
   omega
  have f1 : freeN n d = ((monZ n.toNat d).length : Nat) := by unfold freeN; rw [hfb]; rfl
  have f2 : freeE n d = 0 := by unfold freeE; rw [hfb]; rfl
  have hmo := fun H => Monos_pure (n.toNat - 1) d (by omega) (by omega) (by omega) H
  rw [show n.toNat - 1 + 1 = n.toNat by omega, show ((n.toNat : Nat) : Int) = n by omega] at hmo
  (repeat(first|refine zA ?_|refine zB ?_|refine zE rfl (by decide) rfl ?_|refine zF ?_|refine zG ?_|refine zH ?_|refine zI ?_|refine zJ ?_|refine zK ?_|refine zL rfl ?_|refine zM rfl ?_))
  refine RO.sta (sta_call rfl rfl (hmo _)) rfl ?_
  (repeat(first|refine zA ?_|refine zB ?_|refine zE rfl (by decide) rfl ?_|refine zF ?_|refine zG ?_|refine zH ?_|refine zI ?_|refine zJ ?_|refine zK ?_|refine zL rfl ?_|refine zM rfl ?_))
  rw [f1, f2]
  exact ⟨Heap.sub_refl _, (by repeat first | exact trivial | refine HasG.one rfl ?_ | refine HasN.one rfl ?_ | refine HasG.nil1 rfl ?_)⟩
 (repeat(first|refine zA ?_|refine zB ?_|refine zE rfl (by decide) rfl ?_|refine zF ?_|refine zG ?_|refine zH ?_|refine zI ?_|refine zJ ?_|refine zK ?_|refine zL rfl ?_|refine zM rfl ?_))
 refine RO.sta (sta_call rfl rfl (hilbertBegun_pure _)) rfl ?_
 have e1 : (cntC r gs l d == cntC r gs l d) = true := by simp
 have e2 : (cntA r gs l d == cntA r gs l d) = true := by simp
 have e3 : (freeE n d == freeE n d) = true := by simp
 have e4 : (freeN n d == freeN n d) = true := by simp
 (repeat(first|refine zA ?_|refine zB ?_|refine zE rfl (by decide) rfl ?_|refine zF ?_|refine zG ?_|refine zH ?_|refine zI ?_|refine zJ ?_|refine zK ?_|refine zL rfl ?_|refine zM rfl ?_))
 rw [e1]
 (repeat(first|refine zA ?_|refine zB ?_|refine zE rfl (by decide) rfl ?_|refine zF ?_|refine zG ?_|refine zH ?_|refine zI ?_|refine zJ ?_|refine zK ?_|refine zL rfl ?_|refine zM rfl ?_))
 rw [e2]
 (repeat(first|refine zA ?_|refine zB ?_|refine zE rfl (by decide) rfl ?_|refine zF ?_|refine zG ?_|refine zH ?_|refine zI ?_|refine zJ ?_|refine zK ?_|refine zL rfl ?_|refine zM rfl ?_))
 rw [e3]
 (repeat(first|refine zA ?_|refine zB ?_|refine zE rfl (by decide) rfl ?_|refine zF ?_|refine zG ?_|refine zH ?_|refine zI ?_|refine zJ ?_|refine zK ?_|refine zL rfl ?_|refine zM rfl ?_))
 rw [e4]
 (repeat(first|refine zA ?_|refine zB ?_|refine zE rfl (by decide) rfl ?_|refine zF ?_|refine zG ?_|refine zH ?_|refine zI ?_|refine zJ ?_|refine zK ?_|refine zL rfl ?_|refine zM rfl ?_))
 exact DW.ret ⟨.inl rfl, _, rfl, Over.refl _, .same _⟩
end
section
open Go.RowKit Go.ChangeShapes Go.WideShapes Go.ChangeAt

set_option maxRecDepth 100000 in
theorem hilbertCounts_lifted (os : Os) (started : os.Started) (H : Type) (enc : TypeId × Value → H) :
  ReturnsInHanded {} Tryz.checked os 3 .any (Rows.hilbertCountsSpec.pre6 enc Tryz.prog Tryz.f3 Rows.hilbertCountsRow.domain false) (Rows.hilbertCountsSpec.post enc Tryz.prog Tryz.f3 false true false false) := by
 refine returnsInHanded_of_change_sized (C := Tryz.checked) Tryz.ownK started (by kernel_rfl) Tryz.func3
  (ChangeSpec.witness6 (enc := enc) (C := Tryz.checked) false ⟨#[], #[.agg #[.int .i64 0, .int .i64 0, .int .i64 0, .int .i64 0], .slice none 0 0, .slice none 0 0, .int .i64 0, .int .i64 0], []⟩ 8 (by kernel_rfl) (by kernel_rfl) (by kernel_rfl) (by kernel_rfl)) ?_
 intro W base args ds gs before hval0 hW hcnd hwt _
 have hval : ∀ (j : Nat) t v, Tryz.f3.params[j]? = some t → args[j]? = some v → Value.okWide Tryz.prog W .any base t v := hval0
 have hW' := hW
 obtain ⟨p, q, hA0, hV, rfl, hfz, hnd⟩ := hW
 have hA : DataW.TrodAll enc Tryz.prog W 0 (fun _ => true) true Tryz.f3.params.toList args.toList ds p := hA0
 rw [Tryz.params3] at hA hval
 obtain ⟨v0, vs0, d0, ds0, p0, q0, hargs, rfl, rfl, h0, r0⟩ := trodAll_cons hA
 obtain ⟨v1, vs1, d1, ds1, p1, q1, rfl, rfl, rfl, h1, r1⟩ := trodAll_cons r0
 obtain ⟨v2, vs2, d2, ds2, p2, q2, rfl, rfl, rfl, h2, r2⟩ := trodAll_cons r1
 obtain ⟨v3, vs3, d3, ds3, p3, q3, rfl, rfl, rfl, h3, r3⟩ := trodAll_cons r2
 obtain ⟨v4, vs4, d4, ds4, p4, q4, rfl, rfl, rfl, h4, r4⟩ := trodAll_cons r3
 obtain ⟨rfl, rfl, rfl⟩ := trodAll_nil r4
 obtain rfl : args = #[v0, v1, v2, v3, v4] := by cases args; simp_all
 obtain ⟨rfl, rfl⟩ := trodVars_none hV
 rw [Tryz.params3] at hwt
 obtain ⟨w0, hwt⟩ := weights_head hwt
 obtain ⟨w1, hwt⟩ := weights_head hwt
 obtain ⟨w2, hwt⟩ := weights_head hwt
 obtain ⟨w3, hwt⟩ := weights_head hwt
 obtain ⟨w4, hwt⟩ := weights_head hwt
 obtain ⟨c0, rfl, _⟩ := okWide_struct Tryz.underlying23 (hval 0 _ v0 rfl rfl)
 obtain ⟨s1, n1, k1, rfl⟩ := okWide_slice Tryz.underlying24 (hval 1 _ v1 rfl rfl)
 obtain ⟨s2, n2, k2, rfl⟩ := okWide_slice Tryz.underlying25 (hval 2 _ v2 rfl rfl)
 obtain ⟨n3, rfl⟩ := okWide_int Tryz.underlying3 (hval 3 _ v3 rfl rfl)
 obtain ⟨n4, rfl⟩ := okWide_int Tryz.underlying3 (hval 4 _ v4 rfl rfl)
 obtain ⟨x0, g0, b0⟩ := arg_agg Tryz.opensRing (fun _ => rfl) h0 w0
 obtain ⟨x1, g1, b1⟩ := arg_cell Tryz.opensInts (fun _ => rfl) (slice_cells _ _ _) h1 w1
 obtain ⟨x2, g2, b2⟩ := arg_cell Tryz.opensVecs (fun _ => rfl) (slice_cells _ _ _) h2 w2
 obtain ⟨x3, g3, b3⟩ := arg_cell Tryz.opensInt (fun _ => rfl) (int_cells _ _) h3 w3
 obtain ⟨x4, g4, b4⟩ := arg_cell Tryz.opensInt (fun _ => rfl) (int_cells _ _) h4 w4
 refine (law_calls (hilbertCounts_pure x0 x1 x2 x3 x4 (by have := len_le b1.2 Tryz.bytes_int; omega) (vcsLe b2).1 (vcsLe b2).2) (inv_plain _ _) (.cons g0 (.cons g1 (.cons g2 (.cons g3 (.cons g4 .nil)))))).mono fun e W' ⟨he, hb⟩ => ?_
 subst he
 exact ⟨_, rfl, law_post hW' rfl Tryz.laidOutK (of_decide_eq_true (by kernel_rfl)) (tb := 4) rfl Tryz.underlying4 rfl rfl rfl hb⟩

theorem hilbertCounts_holds : Rows.HilbertCountsSaid :=
 OpenClaim.holds_of_wide 3 Tryz.f3 rfl rfl rfl rfl rfl rfl rfl ⟨rfl, rfl, rfl, rfl, rfl⟩ rfl rfl rfl rfl rfl (by kernel_rfl) Tryz.func3 (by kernel_rfl)
  (of_decide_eq_true (by kernel_rfl)) (by unfold Func.isWrapper; first | (rw [if_pos (by decide +kernel)]; kernel_rfl) | (rw [if_neg (by decide +kernel)]; exact ⟨rfl, rfl⟩))
  (fun os started H enc _ => hilbertCounts_lifted os started H enc)
end
end Go.Proofs.YtfjmdhemlfafbaaGreat
