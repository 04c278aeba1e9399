/-
  The document's count is the program's. No condition.
-/
import Derived.Test.YtfjmdhemlfafbaaGreatKHc27
import Derived.Test.YtfjmdhemlfafbaaGreatKHc7
set_option linter.unusedVariables false
set_option linter.unusedSimpArgs false

namespace Go.Proofs.YtfjmdhemlfafbaaGreat
section
open Go.RowKit
set_option maxHeartbeats 8000000

theorem invT_all : ((List.range 102).all fun p => ckP (p : Int) != 0 || ((List.range p).all fun a => a == 0 || (invT p a == turnP p a))) = true := by decide +kernel

theorem invT_turnR {p a : Int} (hp : ckP p = 0) (h0 : 0 < a) (h1 : a < p) : invT p a = turnP p a := by
 have h2 := ckP_ok hp
 obtain ⟨q, rfl⟩ := Int.eq_ofNat_of_zero_le (show 0 ≤ p by omega)
 obtain ⟨b, rfl⟩ := Int.eq_ofNat_of_zero_le (show 0 ≤ a by omega)
 have h3 := List.all_eq_true.1 invT_all q (List.mem_range.2 (by omega))
 rw [hp] at h3
 have h4 : ((List.range q).all fun a => a == 0 || (invT q a == turnP q a)) = true := h3
 have h5 := List.all_eq_true.1 h4 b (List.mem_range.2 (by omega))
 simp only [Bool.or_eq_true, beq_iff_eq] at h5
 exact h5.resolve_left (by omega)

theorem invT_inv {p : Int} (hp : ckP p = 0) : InvOk (invT p) p := fun a h0 h1 => by rw [invT_turnR hp h0 h1]; exact turnP_inv hp a h0 h1

theorem Acc.lenD {H0 H : Heap} {d : D} {k : Nat} {T : TypeId} {l : List D} (h : Acc H0 H d k T l) : lenD d = some l.length := by
 rcases h.is with ⟨rfl, rfl⟩ | ⟨b, _, rfl, _⟩ <;> rfl

section
variable {P : Program} {H : Heap} {e : Env} {dst : Option Tmp} {ty : TypeId} {pos : String} {af : Array Edge} {gd : Option (Nat × Bool)}

theorem d_copyRow {t E : TypeId} {x y : Operand} {bytes : Nat} {l : List Int} {K : D → Heap → Prop} [SliceT P t E] [ElT P E 1 [I 0] bytes] (hx : e.ev x = some .nil) (hy : e.ev y = some (intsD l)) (hb : l.length * bytes ≤ 140737488355328) (hlen : l.length ≤ 4611686018427387904)
  (hK : ∀ b H', (0 < l.length → H b = none ∧ H' b = some (E, l.map I)) → Over H H' → K (rowD l.length b) H') : OpD P H e ⟨dst, .call ⟨.builtin .append, #[x, y], #[t, t]⟩, ty, pos, af, gd⟩ K := by
 by_cases h0 : 0 < l.length
 ·refine d_append (H0 := H) (l := []) (xs := l.map I) (bytes := bytes) (zd := [I 0]) hx (Acc.nil _ _ _ _) (Over.refl _) hy (.inl rfl) (uni_I _) (by simpa using hb) (by simpa using hlen) fun d' H' h1 h2 h3 => ?_
  rcases h1.is with ⟨e1, e2⟩ | ⟨b, g1, g2, g3⟩
  ·have : l.length = 0 := by simpa using congrArg List.length e2
   omega
  ·have hd : d' = rowD l.length b := by rw [g2]; unfold rowD; rw [if_pos h0]; simp
   rw [hd]
   refine hK b H' (fun _ => ⟨g1, ?_⟩) h2
   rw [g3, List.nil_append, flat_cells1 (fun _ => rfl)]
 ·have hl : l = [] := List.eq_nil_of_length_eq_zero (by omega)
  subst hl
  have hd : rowD ([] : List Int).length 0 = .list 1 [] := rfl
  refine OpD.of_sta (d := .list 1 []) (s_appendNil (xs := []) (bytes := bytes) (zd := [I 0]) hx hy (.inl rfl) (Uni.nil 1) (by simp) (by simp)) ?_
  have := hK 0 H (fun h => absurd h (by simp)) (Over.refl _)
  rwa [hd] at this

end

def HasF (e : Env) (H H' : Heap) : Env → Prop
 | [] => True
 | (t, d) :: r => (∃ d', e.get t = some d' ∧ Frz H H' d' d) ∧ HasF e H H' r

theorem HasF.get {e : Env} {H H' : Heap} : ∀ {l : Env} {t : Nat} {d : D}, HasF e H H' l → l.get t = some d → ∃ d', e.get t = some d' ∧ Frz H H' d' d
 | [], t, d, _, h => by simp [Env.get] at h
 | (s, x) :: r, t, d, ⟨h1, h2⟩, h => by
  rw [Env.get_cons] at h
  split at h
  ·rename_i hst; subst hst; cases h; exact h1
  ·exact HasF.get h2 h

theorem HasF.one {e : Env} {H H' : Heap} {t : Nat} {d : D} {l : Env} (h : e.get t = some d) (r : HasF e H H' l) : HasF e H H' ((t, d) :: l) := ⟨⟨d, h, .same _⟩, r⟩
theorem HasF.frz {e : Env} {H H' : Heap} {t : Nat} {d d' : D} {l : Env} (h : e.get t = some d') (hf : Frz H H' d' d) (r : HasF e H H' l) : HasF e H H' ((t, d) :: l) := ⟨⟨d', h, hf⟩, r⟩

theorem DW.freeze {C : Ctx} {c : Code} {e : Env} {H : Heap} {Q : Post} (l : Env) (H' : Heap) (hH : H'.sub H) (h : HasF e H H' l) (hd : DW C c l H' Q) : DW C c e H Q := .change hH (fun t d ht => h.get ht) hd

theorem Acc.apart {H0 Ha Hb : Heap} {d e : D} {k k' : Nat} {T T' : TypeId} {l l' : List D} (hd : Acc H0 Ha d k T l) (he : Acc H0 Ha e k' T' l') (hT : T ≠ T') (hkeep : ∀ c z, Ha c = some z → e.blk ≠ some c → Hb c = some z) : Acc H0 Hb d k T l := by
 refine ⟨hd.uni, hd.is.imp id fun ⟨b, h1, h2, h3⟩ => ⟨b, h1, h2, hkeep _ _ h3 fun hb => ?_⟩⟩
 rcases he.is with ⟨g1, _⟩ | ⟨c, g1, g2, g3⟩
 ·rw [g1] at hb; cases hb
 ·rw [g2] at hb
  cases hb
  rw [h3] at g3
  have := congrArg (Option.map Prod.fst) g3
  simp at this
  exact hT this

structure RkSt where
 i : Nat
 H : Heap
 d5 : D
 d6 : D

def keptAt (inv : Int → Int) (p : Int) (rows : List (List Int)) (i : Nat) : Kp := (rows.take i).foldl (rankStep inv p) []

theorem keptAt_succ (inv : Int → Int) (p : Int) (rows : List (List Int)) {i : Nat} (h : i < rows.length) : keptAt inv p rows (i + 1) = rankStep inv p (keptAt inv p rows i) rows[i] := by
 unfold keptAt
 rw [List.take_succ_eq_append_getElem h, List.foldl_append]
 rfl

structure RkInv (H : Heap) (p : Int) (rows : List (List Int)) (x : RkSt) : Prop where
 le : x.i ≤ rows.length
 acc5 : Acc H x.H x.d5 1 24 ((keptAt (invT p) p rows x.i).map fun y => intsD y.1)
 acc6 : Acc H x.H x.d6 1 3 ((keptAt (invT p) p rows x.i).map fun y => I y.2)
 over : Over H x.H

theorem firstAt_eq {l : List Int} {f : Nat} (h1 : ∀ j, j < f → vec l j = 0) (h2 : f = l.length ∨ (f < l.length ∧ vec l f ≠ 0)) : firstAt l = f := by
 have hle := firstAt_le l
 have hfl : f ≤ l.length := by omega
 by_cases h : firstAt l = l.length
 ·rcases h2 with h2 | ⟨h2, h3⟩
  ·omega
  ·exact absurd (firstAt_zero (l := l) (j := f) (by omega)) h3
 ·obtain ⟨g1, g2⟩ := firstAt_ne h
  rcases Nat.lt_trichotomy (firstAt l) f with hlt | heq | hgt
  ·exact absurd (h1 _ hlt) g1
  ·exact heq
  ·rcases h2 with h2 | ⟨h2, h3⟩
   ·omega
   ·exact absurd (firstAt_zero hgt) h3

theorem rankOf_pure (p : Int) (rows : List (List Int)) (hp : ckP p = 0) (hck : rowsCk p rows = 0) : Pure Tryz.prog 27 [I p, intssD rows] (I (rankT (invT p) p rows)) := by
 have hp2 := ckP_ok hp
 obtain ⟨hm400, hn400, hok⟩ := rowsCk_ok hck
 have hiv := invT_inv hp
 generalize hn : (rows.headD []).length = n at hn400 hok
 intro H
 refine PureH.of_body Tryz.func27 rfl (by decide) (Nat.le_of_ble_eq_true rfl) fun w0 => ?_
 (repeat(first|refine zC ?_|refine zD ?_|refine zE rfl (by decide) rfl ?_|refine zF ?_|refine zG ?_|refine zH ?_|refine zI ?_|refine zJ ?_|refine zK ?_|refine zL rfl ?_|refine zM rfl ?_))
 refine DW.loopI (RkInv H p rows) (fun x => [(0, I p), (1, intssD rows), (5, x.d5), (6, x.d6), (7, I x.i)]) (fun x => x.H) (fun x => rows.length - x.i) ⟨0, H, .nil, .nil⟩
  ⟨Nat.zero_le _, Acc.nil _ _ _ _, Acc.nil _ _ _ _, Over.refl _⟩ rfl ⟨rfl, rfl, rfl, rfl, rfl, trivial⟩ fun ⟨i, Hi, d5, d6⟩ hinv => ?_
 obtain ⟨hle, a5, a6, hov⟩ := hinv
 dsimp only at hle a5 a6 hov
 dsimp only
 (repeat(first|refine zC ?_|refine zD ?_|refine zE rfl (by decide) rfl ?_|refine zF ?_|refine zG ?_|refine zH ?_|refine zI ?_|refine zJ ?_|refine zK ?_|refine zL rfl ?_|refine zM rfl ?_))
 refine DW.cond rfl (fun hb => ?_) (fun hb => ?_)
 ·have hlt : i < rows.length := by have := of_decide_eq_true hb; omega
  have hrow := hok _ (List.getElem_mem hlt)
  have hrl := hrow.1
  obtain ⟨hK, hKl, _, _, _⟩ := rankKept_ok (inv := invT p) (p := p) (by omega) hiv (n := n) (rows.take i) [] ⟨fun x h => (by cases h), fun x h => (by cases h), by simp⟩ fun r hr => hok r (List.mem_of_mem_take hr)
  have hstep := keptAt_succ (invT p) p rows hlt
  change KpOk p n (keptAt (invT p) p rows i) at hK
  change (keptAt (invT p) p rows i).length ≤ _ at hKl
  have hKlen : (keptAt (invT p) p rows i).length ≤ 400 := by simp at hKl; omega
  generalize hkp : keptAt (invT p) p rows i = kept at a5 a6 hK hKl hKlen hstep
  (repeat(first|refine zC ?_|refine zD ?_|refine zE rfl (by decide) rfl ?_|refine zF ?_|refine zG ?_|refine zH ?_|refine zI ?_|refine zJ ?_|refine zK ?_|refine zL rfl ?_|refine zM rfl ?_))
  refine RO.dyn rfl (d_copyRow rfl rfl (by omega) (by omega) fun b Hb hb1 hob => ?_)
  rw [hrl] at hb1
  rw [hrl]
  by_cases hn0 : 0 < n
  case neg =>
   have hk0 : kept = [] := by
    cases kept with
    | nil => rfl
    | cons x xs => have := (hK.rows x (by simp)).2; omega
   subst hk0
   have hst : keptAt (invT p) p rows (i + 1) = [] := by
    rw [hstep]
    unfold rankStep
    dsimp only [redAll, List.foldl]
    have hnil : rows[i] = [] := List.eq_nil_of_length_eq_zero (by omega)
    rw [hnil]; rfl
   rw [show rowD n b = .list 1 (([] : List Int).map I) by unfold rowD; rw [if_neg hn0]; rfl]
   (repeat(first|refine zC ?_|refine zD ?_|refine zE rfl (by decide) rfl ?_|refine zF ?_|refine zG ?_|refine zH ?_|refine zI ?_|refine zJ ?_|refine zK ?_|refine zL rfl ?_|refine zM rfl ?_))
   refine DW.loopI (fun _ : Unit => True) (fun _ => [(0, I p), (1, intssD rows), (5, d5), (6, d6), (7, I i), (8, .list 1 (([] : List Int).map I)), (9, I 0)]) (fun _ => Hb) (fun _ => 0) () trivial rfl ⟨rfl, rfl, rfl, rfl, rfl, rfl, rfl, trivial⟩ fun _ _ => ?_
   (repeat(first|refine zC ?_|refine zD ?_|refine zE rfl (by decide) rfl ?_|refine zF ?_|refine zG ?_|refine zH ?_|refine zI ?_|refine zJ ?_|refine zK ?_|refine zL rfl ?_|refine zM rfl ?_))
   refine RO.sta (s_len (n := 0) rfl (by rw [a5.lenD]; rfl)) rfl ?_
   (repeat(first|refine zC ?_|refine zD ?_|refine zE rfl (by decide) rfl ?_|refine zF ?_|refine zG ?_|refine zH ?_|refine zI ?_|refine zJ ?_|refine zK ?_|refine zL rfl ?_|refine zM rfl ?_))
   refine DW.loopI (fun _ : Unit => True) (fun _ => [(0, I p), (1, intssD rows), (5, d5), (6, d6), (7, I i), (8, .list 1 (([] : List Int).map I)), (12, I 0)]) (fun _ => Hb) (fun _ => 0) () trivial rfl ⟨rfl, rfl, rfl, rfl, rfl, rfl, rfl, trivial⟩ fun _ _ => ?_
   (repeat(first|refine zC ?_|refine zD ?_|refine zE rfl (by decide) rfl ?_|refine zF ?_|refine zG ?_|refine zH ?_|refine zI ?_|refine zJ ?_|refine zK ?_|refine zL rfl ?_|refine zM rfl ?_))
   exact ⟨⟨i + 1, Hb, d5, d6⟩, ⟨hlt, by dsimp only; rw [hst]; exact a5.over hob, by dsimp only; rw [hst]; exact a6.over hob, hov.trans hob⟩, by dsimp only; omega, rfl, rfl, rfl, rfl, rfl, rfl, trivial⟩
  obtain ⟨hbn, hbs⟩ := hb1 hn0
  rw [show rowD n b = .ref b 0 n 1 from if_pos hn0]
  generalize hrw : rows[i] = row at hrow hrl hbs hstep
  (repeat(first|refine zC ?_|refine zD ?_|refine zE rfl (by decide) rfl ?_|refine zF ?_|refine zG ?_|refine zH ?_|refine zI ?_|refine zJ ?_|refine zK ?_|refine zL rfl ?_|refine zM rfl ?_))
  refine DW.loopI (fun k : Nat => k ≤ kept.length) (fun k => [(0, I p), (1, intssD rows), (5, d5), (6, d6), (7, I i), (8, .ref b 0 n 1), (9, I k)]) (fun k => Hb.set b (3, (redAll p row (kept.take k)).map I)) (fun k => kept.length - k) 0 (Nat.zero_le _) (Heap.set_same hbs).symm ⟨rfl, rfl, rfl, rfl, rfl, rfl, rfl, trivial⟩ fun k hk => ?_
  have rok := redAll_ok (p := p) (by omega) (kept := kept.take k) (fun x hx => hK.rows x (List.mem_of_mem_take hx)) hrow
  have hksucc : ∀ h : k < kept.length, redAll p row (kept.take (k + 1)) = redBy p (vec (redAll p row (kept.take k)) kept[k].2) (redAll p row (kept.take k)) kept[k].1 := fun h => by
   unfold redAll
   rw [List.take_succ_eq_append_getElem h, List.foldl_append]
   rfl
  generalize hr0 : redAll p row (kept.take k) = r at rok hksucc
  (repeat(first|refine zC ?_|refine zD ?_|refine zE rfl (by decide) rfl ?_|refine zF ?_|refine zG ?_|refine zH ?_|refine zI ?_|refine zJ ?_|refine zK ?_|refine zL rfl ?_|refine zM rfl ?_))
  refine RO.sta (s_len (n := kept.length) rfl (by rw [a5.lenD, List.length_map])) rfl ?_
  (repeat(first|refine zC ?_|refine zD ?_|refine zE rfl (by decide) rfl ?_|refine zF ?_|refine zG ?_|refine zH ?_|refine zI ?_|refine zJ ?_|refine zK ?_|refine zL rfl ?_|refine zM rfl ?_))
  refine DW.cond rfl (fun hb => ?_) (fun hb => ?_)
  ·have hkl : k < kept.length := by have := of_decide_eq_true hb; omega
   have hkr := hK.rows _ (List.getElem_mem hkl)
   have hks := hksucc hkl
   obtain ⟨b6, m1, m2, m3⟩ : ∃ b6, H b6 = none ∧ d6 = .ref b6 0 kept.length 1 ∧ Hi b6 = some (3, kept.map fun y => I y.2) := by
    rcases a6.is with ⟨e1, e2⟩ | ⟨b6, e1, e2, e3⟩
    ·have : kept.length = 0 := by simpa using congrArg List.length e2
     omega
    ·exact ⟨b6, e1, by rw [e2, List.length_map], by rw [e3]; congr 2; exact flat_cells1 (f := fun y : List Int × Nat => I y.2) (fun _ => rfl) kept⟩
   obtain ⟨b5, n1, n2, n3⟩ : ∃ b5, H b5 = none ∧ d5 = .ref b5 0 kept.length 1 ∧ Hi b5 = some (24, kept.map fun y => intsD y.1) := by
    rcases a5.is with ⟨e1, e2⟩ | ⟨b5, e1, e2, e3⟩
    ·have : kept.length = 0 := by simpa using congrArg List.length e2
     omega
    ·exact ⟨b5, e1, by rw [e2, List.length_map], by rw [e3]; congr 2; exact flat_cells1 (f := fun y : List Int × Nat => intsD y.1) (fun _ => rfl) kept⟩
   have hb6 : b6 ≠ b := fun e => by rw [e, hbn] at m3; cases m3
   have hb5 : b5 ≠ b := fun e => by rw [e, hbn] at n3; cases n3
   have m4 := hob _ _ m3
   have n4 := hob _ _ n3
   rw [m2, n2]
   (repeat(first|refine zC ?_|refine zD ?_|refine zE rfl (by decide) rfl ?_|refine zF ?_|refine zG ?_|refine zH ?_|refine zI ?_|refine zJ ?_|refine zK ?_|refine zL rfl ?_|refine zM rfl ?_))
   refine RO.sta (s_ixRef rfl rfl (by omega) (by omega)) rfl ?_
   refine RO.sta (s_loadMut (d := I kept[k].2) rfl (by rw [Heap.set_other _ _ hb6]; exact m4) (by simp [hkl])) rfl ?_
   refine RO.sta (s_ixRef rfl rfl (by omega) (by omega)) rfl ?_
   refine RO.sta (s_loadVec (l := r) (j := kept[k].2) rfl (Heap.set_self _ _ _) (by omega) (by rw [rok.1]; exact hkr.2)) rfl ?_
   (repeat(first|refine zC ?_|refine zD ?_|refine zE rfl (by decide) rfl ?_|refine zF ?_|refine zG ?_|refine zH ?_|refine zI ?_|refine zJ ?_|refine zK ?_|refine zL rfl ?_|refine zM rfl ?_))
   have hby := rok.vec (by omega) kept[k].2
   generalize hbyn : vec r kept[k].2 = byn at hby hks
   have fok := redBy_ok (p := p) (by omega) (b := byn) rok hkr.1
   have fl : (redBy p byn r kept[k].1).length = r.length := by rw [fok.1, rok.1]
   have hend : ∀ j, (byn = 0 → j = 0) → (byn ≠ 0 → j = n) → partRow (redBy p byn r kept[k].1) r j = redBy p byn r kept[k].1 := fun j h1 h2 => by
    by_cases hz : byn = 0
    ·have : redBy p byn r kept[k].1 = r := by unfold redBy; rw [if_pos hz]
     rw [h1 hz, this]; rfl
    ·rw [h2 hz, ← rok.1]; exact partRow_all fl
   refine DW.loopI (fun j : Nat => j ≤ n ∧ (byn = 0 → j = 0)) (fun j => [(0, I p), (1, intssD rows), (5, .ref b5 0 kept.length 1), (6, .ref b6 0 kept.length 1), (7, I i), (8, .ref b 0 n 1), (9, I k), (10, I byn), (11, I j)])
    (fun j => Hb.set b (3, (partRow (redBy p byn r kept[k].1) r j).map I)) (fun j => n - j) 0 ⟨Nat.zero_le _, fun _ => rfl⟩ rfl ⟨rfl, rfl, rfl, rfl, rfl, rfl, rfl, rfl, rfl, trivial⟩ fun j ⟨hj1, hj2⟩ => ?_
   have pl := partRow_len fl j
   (repeat(first|refine zC ?_|refine zD ?_|refine zE rfl (by decide) rfl ?_|refine zF ?_|refine zG ?_|refine zH ?_|refine zI ?_|refine zJ ?_|refine zK ?_|refine zL rfl ?_|refine zM rfl ?_))
   cases hjn : decide ((j : Int) < (n : Int))
   case false =>
    have hje : j = n := by have := of_decide_eq_false hjn; omega
    have hd := hend j hj2 fun _ => hje
    rw [hd]
    (repeat(first|refine zC ?_|refine zD ?_|refine zE rfl (by decide) rfl ?_|refine zF ?_|refine zG ?_|refine zH ?_|refine zI ?_|refine zJ ?_|refine zK ?_|refine zL rfl ?_|refine zM rfl ?_))
    rw [← m2, ← n2]
    exact ⟨k + 1, hkl, by dsimp only; omega, by dsimp only; rw [hks], rfl, rfl, rfl, rfl, rfl, rfl, rfl, trivial⟩
   have hjl : j < n := by have := of_decide_eq_true hjn; omega
   (repeat(first|refine zC ?_|refine zD ?_|refine zE rfl (by decide) rfl ?_|refine zF ?_|refine zG ?_|refine zH ?_|refine zI ?_|refine zJ ?_|refine zK ?_|refine zL rfl ?_|refine zM rfl ?_))
   refine DW.cond rfl (fun hb => ?_) (fun hb => ?_)
   ·have hbne : byn ≠ 0 := by simpa using hb
    have hx0 := rok.vec (by omega) j
    have hy0 := hkr.1.vec (by omega) j
    have hpm : 0 ≤ (p - byn) * vec kept[k].1 j := Int.mul_nonneg (by omega) hy0.1
    have hpm2 : (p - byn) * vec kept[k].1 j ≤ 101 * 101 := Int.mul_le_mul (by omega) (by omega) (by omega) (by omega)
    have hpx : vec (partRow (redBy p byn r kept[k].1) r j) j = vec r j := by
     rw [vec_lt (by rw [pl, rok.1]; exact hjl), vec_lt (by rw [rok.1]; exact hjl), partRow_get fl (by rw [rok.1]; exact hjl), if_neg (by omega)]
    have hfull : (redBy p byn r kept[k].1)[j]'(by rw [fl, rok.1]; exact hjl) = (vec r j + (p - byn) * vec kept[k].1 j) % p := by
     rw [vec_lt (by rw [rok.1]; exact hjl), vec_lt (by rw [hkr.1.1]; exact hjl)]
     simp [redBy, hbne, lessBy]
    have hkj : j < kept[k].1.length := by rw [hkr.1.1]; exact hjl
    (repeat(first|refine zC ?_|refine zD ?_|refine zE rfl (by decide) rfl ?_|refine zF ?_|refine zG ?_|refine zH ?_|refine zI ?_|refine zJ ?_|refine zK ?_|refine zL rfl ?_|refine zM rfl ?_))
    refine DW.drawS 20 Tryz.mixed (by kernel_rfl) (by decide) ?_
    dsimp only [List.take, List.drop]
    (repeat(first|refine zP ?_|refine zQ ?_|refine zR rfl (by decide) rfl ?_|refine zS ?_))
    refine RS.sta (fun H' hov => s_ixRef rfl rfl (by omega) (by omega)) rfl ?_
    refine RS.sta (r_loadVec (l := partRow (redBy p byn r kept[k].1) r j) (j := j) rfl (Heap.set_self _ _ _) (by omega) (by rw [pl, rok.1]; exact hjl)) rfl ?_
    rw [hpx]
    (repeat(first|refine zP ?_|refine zQ ?_|refine zR rfl (by decide) rfl ?_|refine zS ?_))
    refine RS.sta (fun H' hov => s_ixRef rfl rfl (by omega) (by omega)) rfl ?_
    refine RS.sta (r_loadMut (d := intsD kept[k].1) rfl (by rw [Heap.set_other _ _ hb5]; exact n4) (by simp [hkl])) rfl ?_
    (repeat(first|refine zP ?_|refine zQ ?_|refine zR rfl (by decide) rfl ?_|refine zS ?_))
    rw [show kept[k].1[j]'hkj = vec kept[k].1 j from (vec_lt hkj).symm]
    (repeat(first|refine zP ?_|refine zQ ?_|refine zR rfl (by decide) rfl ?_|refine zS ?_))
    refine RO.sta (s_ixRef rfl rfl (by omega) (by omega)) rfl ?_
    refine RO.dyn rfl (d_storeInt (l := partRow (redBy p byn r kept[k].1) r j) rfl rfl (Heap.set_self _ _ _) (by rw [pl, rok.1]; omega) ?_)
    rw [Heap.set_set]
    (repeat(first|refine zC ?_|refine zD ?_|refine zE rfl (by decide) rfl ?_|refine zF ?_|refine zG ?_|refine zH ?_|refine zI ?_|refine zJ ?_|refine zK ?_|refine zL rfl ?_|refine zM rfl ?_))
    refine ⟨j + 1, ⟨by omega, fun h => absurd h hbne⟩, by dsimp only; omega, ?_, rfl, rfl, rfl, rfl, rfl, rfl, rfl, rfl, rfl, trivial⟩
    dsimp only
    rw [← partRow_set fl (by rw [rok.1]; exact hjl), hfull, show 0 + ((j : Int)).toNat = j by omega]
   ·have hbz : byn = 0 := by simpa using hb
    have hd := hend j hj2 fun h => absurd hbz h
    rw [hd]
    (repeat(first|refine zC ?_|refine zD ?_|refine zE rfl (by decide) rfl ?_|refine zF ?_|refine zG ?_|refine zH ?_|refine zI ?_|refine zJ ?_|refine zK ?_|refine zL rfl ?_|refine zM rfl ?_))
    rw [← m2, ← n2]
    exact ⟨k + 1, hkl, by dsimp only; omega, by dsimp only; rw [hks], rfl, rfl, rfl, rfl, rfl, rfl, rfl, trivial⟩
  ·have hke : k = kept.length := by have := of_decide_eq_false hb; omega
   rw [hke, List.take_length] at hr0
   (repeat(first|refine zC ?_|refine zD ?_|refine zE rfl (by decide) rfl ?_|refine zF ?_|refine zG ?_|refine zH ?_|refine zI ?_|refine zJ ?_|refine zK ?_|refine zL rfl ?_|refine zM rfl ?_))
   refine DW.loopI (fun f : Nat => f ≤ n ∧ ∀ j, j < f → vec r j = 0) (fun f => [(0, I p), (1, intssD rows), (5, d5), (6, d6), (7, I i), (8, .ref b 0 n 1), (12, I f)]) (fun _ => Hb.set b (3, r.map I)) (fun f => n - f) 0 ⟨Nat.zero_le _, fun j h => absurd h (Nat.not_lt_zero _)⟩ rfl ⟨rfl, rfl, rfl, rfl, rfl, rfl, rfl, trivial⟩ fun f ⟨hf, hfz⟩ => ?_
   (repeat(first|refine zC ?_|refine zD ?_|refine zE rfl (by decide) rfl ?_|refine zF ?_|refine zG ?_|refine zH ?_|refine zI ?_|refine zJ ?_|refine zK ?_|refine zL rfl ?_|refine zM rfl ?_))
   cases hfn : decide ((f : Int) < (n : Int))
   case false =>
    have hfe : f = n := by have := of_decide_eq_false hfn; omega
    have hfa : firstAt r = r.length := by
     rw [firstAt_eq (f := f) hfz (.inl (by rw [rok.1]; exact hfe)), rok.1]; exact hfe
    have hst : keptAt (invT p) p rows (i + 1) = kept := by
     rw [hstep]
     unfold rankStep
     dsimp only
     rw [hr0, if_pos hfa]
    (repeat(first|refine zC ?_|refine zD ?_|refine zE rfl (by decide) rfl ?_|refine zF ?_|refine zG ?_|refine zH ?_|refine zI ?_|refine zJ ?_|refine zK ?_|refine zL rfl ?_|refine zM rfl ?_))
    rw [show ((f : Int) == (n : Int)) = true by rw [hfe]; exact beq_self_eq_true _]
    (repeat(first|refine zC ?_|refine zD ?_|refine zE rfl (by decide) rfl ?_|refine zF ?_|refine zG ?_|refine zH ?_|refine zI ?_|refine zJ ?_|refine zK ?_|refine zL rfl ?_|refine zM rfl ?_))
    exact ⟨⟨i + 1, Hb.set b (3, r.map I), d5, d6⟩, ⟨hlt, by dsimp only; rw [hst]; exact a5.over (hob.set hbn), by dsimp only; rw [hst]; exact a6.over (hob.set hbn), hov.trans (hob.set hbn)⟩, by dsimp only; omega, rfl, rfl, rfl, rfl, rfl, rfl, trivial⟩
   have hfl : f < n := by have := of_decide_eq_true hfn; omega
   (repeat(first|refine zC ?_|refine zD ?_|refine zE rfl (by decide) rfl ?_|refine zF ?_|refine zG ?_|refine zH ?_|refine zI ?_|refine zJ ?_|refine zK ?_|refine zL rfl ?_|refine zM rfl ?_))
   refine RO.yes rfl rfl (OpD.of_sta (s_ixRef rfl rfl (by omega) (by omega)) ?_)
   refine RO.yes rfl rfl (OpD.of_sta (s_loadVec (l := r) (j := f) rfl (Heap.set_self _ _ _) (by omega) (by rw [rok.1]; exact hfl)) ?_)
   (repeat(first|refine zC ?_|refine zD ?_|refine zE rfl (by decide) rfl ?_|refine zF ?_|refine zG ?_|refine zH ?_|refine zI ?_|refine zJ ?_|refine zK ?_|refine zL rfl ?_|refine zM rfl ?_))
   refine DW.cond rfl (fun hb => ?_) (fun hb => ?_)
   ·have hz : vec r f = 0 := by simpa using hb
    (repeat(first|refine zC ?_|refine zD ?_|refine zE rfl (by decide) rfl ?_|refine zF ?_|refine zG ?_|refine zH ?_|refine zI ?_|refine zJ ?_|refine zK ?_|refine zL rfl ?_|refine zM rfl ?_))
    refine ⟨f + 1, ⟨hfl, fun j hj => ?_⟩, by dsimp only; omega, rfl, rfl, rfl, rfl, rfl, rfl, rfl, rfl, trivial⟩
    by_cases h : j = f
    ·subst h; exact hz
    ·exact hfz j (by omega)
   ·have hnz : vec r f ≠ 0 := by simpa using hb
    have hrl2 : r.length = n := rok.1
    have hfa : firstAt r = f := firstAt_eq hfz (.inr ⟨by omega, hnz⟩)
    have hv := rok.vec (by omega) f
    have hst : keptAt (invT p) p rows (i + 1) = kept ++ [(normed p (invT p (vec r f)) r, f)] := by
     rw [hstep]
     unfold rankStep
     dsimp only
     rw [hr0, hfa, if_neg (by omega)]
    have ht : 0 ≤ invT p (vec r f) ∧ invT p (vec r f) < p := by
     rw [invT_turnR hp (by omega) hv.2]
     exact turnP_range hp2.1 _
    (repeat(first|refine zC ?_|refine zD ?_|refine zE rfl (by decide) rfl ?_|refine zF ?_|refine zG ?_|refine zH ?_|refine zI ?_|refine zJ ?_|refine zK ?_|refine zL rfl ?_|refine zM rfl ?_))
    rw [show ((f : Int) == (n : Int)) = false by rw [beq_eq_false_iff_ne]; omega]
    (repeat(first|refine zC ?_|refine zD ?_|refine zE rfl (by decide) rfl ?_|refine zF ?_|refine zG ?_|refine zH ?_|refine zI ?_|refine zJ ?_|refine zK ?_|refine zL rfl ?_|refine zM rfl ?_))
    refine RO.sta (s_ixRef rfl rfl (by omega) (by omega)) rfl ?_
    refine RO.sta (s_loadVec (l := r) (j := f) rfl (Heap.set_self _ _ _) (by omega) (by omega)) rfl ?_
    refine RO.sta (sta_call rfl rfl (inverseOf_pure p (vec r f) hp2.1 hp2.2 hv.1 hv.2 _)) rfl ?_
    (repeat(first|refine zC ?_|refine zD ?_|refine zE rfl (by decide) rfl ?_|refine zF ?_|refine zG ?_|refine zH ?_|refine zI ?_|refine zJ ?_|refine zK ?_|refine zL rfl ?_|refine zM rfl ?_))
    generalize htn : invT p (vec r f) = tn at ht hst
    have nl : (normed p tn r).length = r.length := by simp [normed]
    refine DW.loopI (fun j : Nat => j ≤ n) (fun j => [(0, I p), (1, intssD rows), (5, d5), (6, d6), (7, I i), (8, .ref b 0 n 1), (12, I f), (13, I tn), (14, I j)]) (fun j => Hb.set b (3, (partRow (normed p tn r) r j).map I)) (fun j => n - j) 0 (Nat.zero_le _) rfl ⟨rfl, rfl, rfl, rfl, rfl, rfl, rfl, rfl, rfl, trivial⟩ fun j hj => ?_
    have pl := partRow_len nl j
    (repeat(first|refine zC ?_|refine zD ?_|refine zE rfl (by decide) rfl ?_|refine zF ?_|refine zG ?_|refine zH ?_|refine zI ?_|refine zJ ?_|refine zK ?_|refine zL rfl ?_|refine zM rfl ?_))
    refine DW.cond rfl (fun hb => ?_) (fun hb => ?_)
    ·have hjl : j < n := by have := of_decide_eq_true hb; omega
     have hx0 := rok.vec (by omega) j
     have hm0 : 0 ≤ vec r j * tn := Int.mul_nonneg hx0.1 ht.1
     have hm1 : vec r j * tn ≤ 101 * 101 := Int.mul_le_mul (by omega) (by omega) (by omega) (by omega)
     have hpx : vec (partRow (normed p tn r) r j) j = vec r j := by
      rw [vec_lt (by omega), vec_lt (by omega), partRow_get nl (by omega), if_neg (by omega)]
     have hfull : (normed p tn r)[j]'(by omega) = vec r j * tn % p := by
      rw [vec_lt (by omega)]
      simp [normed]
     (repeat(first|refine zC ?_|refine zD ?_|refine zE rfl (by decide) rfl ?_|refine zF ?_|refine zG ?_|refine zH ?_|refine zI ?_|refine zJ ?_|refine zK ?_|refine zL rfl ?_|refine zM rfl ?_))
     refine RO.sta (s_ixRef rfl rfl (by omega) (by omega)) rfl ?_
     refine RO.sta (s_loadVec (l := partRow (normed p tn r) r j) (j := j) rfl (Heap.set_self _ _ _) (by omega) (by omega)) rfl ?_
     rw [hpx]
     (repeat(first|refine zC ?_|refine zD ?_|refine zE rfl (by decide) rfl ?_|refine zF ?_|refine zG ?_|refine zH ?_|refine zI ?_|refine zJ ?_|refine zK ?_|refine zL rfl ?_|refine zM rfl ?_))
     refine RO.sta (s_ixRef rfl rfl (by omega) (by omega)) rfl ?_
     refine RO.dyn rfl (d_storeInt (l := partRow (normed p tn r) r j) rfl rfl (Heap.set_self _ _ _) (by omega) ?_)
     rw [Heap.set_set]
     (repeat(first|refine zC ?_|refine zD ?_|refine zE rfl (by decide) rfl ?_|refine zF ?_|refine zG ?_|refine zH ?_|refine zI ?_|refine zJ ?_|refine zK ?_|refine zL rfl ?_|refine zM rfl ?_))
     refine ⟨j + 1, hjl, by dsimp only; omega, ?_, rfl, rfl, rfl, rfl, rfl, rfl, rfl, rfl, rfl, trivial⟩
     dsimp only
     rw [← partRow_set nl (by omega), hfull, show 0 + ((j : Int)).toNat = j by omega]
    ·have hjn : j = n := by have := of_decide_eq_false hb; omega
     have hfin : partRow (normed p tn r) r j = normed p tn r := by rw [hjn, ← hrl2]; exact partRow_all nl
     rw [hfin]
     have hof : Over Hi ((Hb.set b (3, (normed p tn r).map I)).del b) := (hob.set hbn).del hbn
     refine DW.freeze [(0, I p), (1, intssD rows), (5, d5), (6, d6), (7, I i), (8, intsD (normed p tn r)), (12, I f)] ((Hb.set b (3, (normed p tn r).map I)).del b) (Heap.sub_del _ _)
      (.one rfl (.one rfl (.one rfl (.one rfl (.one rfl (.frz (d' := .ref b 0 n 1) rfl ?_ (.one rfl trivial))))))) ?_
     ·have hnn : n = ((normed p tn r).map I).length := by simp; omega
      rw [hnn]
      exact Frz.list (T := 3) (by rw [Heap.set_self, flat_cells1 (fun _ => rfl)]) (by simp [Heap.del]) (uni_I _) rfl
     (repeat(first|refine zC ?_|refine zD ?_|refine zE rfl (by decide) rfl ?_|refine zF ?_|refine zG ?_|refine zH ?_|refine zI ?_|refine zJ ?_|refine zK ?_|refine zL rfl ?_|refine zM rfl ?_))
     refine RO.dyn rfl (d_append (H0 := H) rfl (a5.over hof) (hov.trans hof) rfl (.inl rfl) (uni_ints [normed p tn r]) (by simp; omega) (by simp; omega) fun d5' H1 q1 q2 q3 => ?_)
     (repeat(first|refine zC ?_|refine zD ?_|refine zE rfl (by decide) rfl ?_|refine zF ?_|refine zG ?_|refine zH ?_|refine zI ?_|refine zJ ?_|refine zK ?_|refine zL rfl ?_|refine zM rfl ?_))
     have a6' := (a6.over hof).apart (Hb := H1) (a5.over hof) (by decide) q3
     refine RO.dyn rfl (d_append (H0 := H) rfl a6' q2 rfl (.inl rfl) (uni_I [(f : Int)]) (by simp; omega) (by simp; omega) fun d6' H2 s1 s2 s3 => ?_)
     (repeat(first|refine zC ?_|refine zD ?_|refine zE rfl (by decide) rfl ?_|refine zF ?_|refine zG ?_|refine zH ?_|refine zI ?_|refine zJ ?_|refine zK ?_|refine zL rfl ?_|refine zM rfl ?_))
     have a5' := q1.apart (Hb := H2) a6' (by decide) s3
     exact ⟨⟨i + 1, H2, d5', d6'⟩, ⟨hlt, by dsimp only; rw [hst, List.map_append]; exact a5', by dsimp only; rw [hst, List.map_append]; exact s1, s2⟩, by dsimp only; omega, rfl, rfl, rfl, rfl, rfl, rfl, trivial⟩
 ·have hie : i = rows.length := by have := of_decide_eq_false hb; omega
  have hres : (keptAt (invT p) p rows i).length = rankT (invT p) p rows := by rw [hie]; unfold keptAt rankT rankKept; rw [List.take_length]
  (repeat(first|refine zC ?_|refine zD ?_|refine zE rfl (by decide) rfl ?_|refine zF ?_|refine zG ?_|refine zH ?_|refine zI ?_|refine zJ ?_|refine zK ?_|refine zL rfl ?_|refine zM rfl ?_))
  refine RO.sta (s_len (n := rankT (invT p) p rows) rfl (by rw [a5.lenD, List.length_map, hres])) rfl ?_
  (repeat(first|refine zC ?_|refine zD ?_|refine zE rfl (by decide) rfl ?_|refine zF ?_|refine zG ?_|refine zH ?_|refine zI ?_|refine zJ ?_|refine zK ?_|refine zL rfl ?_|refine zM rfl ?_))
  exact DW.ret ⟨.inl rfl, _, rfl, hov, .same _⟩
end
section
open Go.RowKit
set_option maxHeartbeats 4000000

def rowsT (r : Rg) (gs : List Int) (l : List Vc) (d : Int) : List (List Int) :=
 l.flatMap fun v => if (sameT gs v).2 = 0 then (monZ r.n.toNat (d - (sameT gs v).1)).map fun m => rowK (keysT r.n.toNat gs.length (gsF gs) d) (vbyT r v ⟨1, m⟩) else []

def docC (r : Rg) (gs : List Int) (l : List Vc) (d : Int) : Int := ((keysT r.n.toNat gs.length (gsF gs) d).length : Int) - rankT (invT r.p) r.p (rowsT r gs l d)

theorem keys_monZ (n k : Nat) (δ : Nat → Int) (τ : Int) : keysT n k δ τ = (List.range k).flatMap fun a => (monZ n (τ - δ a)).map fun e => (a, e) := by
 unfold keysT
 congr 1
 funext a
 congr 1
 unfold monZ
 by_cases h : δ a ≤ τ
 ·rw [if_pos h, if_neg (by omega)]
 ·rw [if_neg h, if_pos (by omega)]

theorem range_flatMap {α β : Type} [Inhabited α] (K : List α) (g : α → List β) : ((List.range K.length).flatMap fun a => g (K.getD a default)) = K.flatMap g := by
 have e : K = (List.range K.length).map fun a => K.getD a default := by
  apply List.ext_getElem
  ·simp
  ·intro i h1 h2
   simp [h1]
 have h2 : K.flatMap g = ((List.range K.length).map fun a => K.getD a default).flatMap g := by rw [← e]
 rw [h2, List.flatMap_map]

theorem same_of {r : Rg} {gs : List Int} {l : List Vc} (h : hilCk r gs l = 0) {v : Vc} (hv : v ∈ l) : (emptyT v = true → (sameT gs v).2 ≠ 0) ∧ (emptyT v ≠ true → sameT gs v = (dgO gs v, 0)) := by
 obtain ⟨h1, hgs, hsame⟩ := hilCk_ok h
 obtain ⟨hvc, hsm⟩ := basCk_ok h1
 obtain ⟨hr, hr1, hr2, hlen, hok⟩ := vecsCk_ok hvc
 have hr3 := ringCk_ok hr
 have hvl : v.length = gs.length := by have := (hok v hv).len; simpa using this
 have hs := hsame v hv
 cases hd : degGo gs (-1) v with
 | none => unfold sameT at hs; rw [hd] at hs; exact absurd rfl hs
 | some d' =>
  have hsum : ∀ (i : Nat) (g1 : i < gs.length) (g2 : i < v.length), ∀ t ∈ v[i], 0 ≤ gs[i] + t.e.sum := fun i g1 g2 t ht => by
   have a1 := hgs _ (List.getElem_mem g1)
   have hp := (hok v hv).all _ (List.getElem_mem g2)
   have a2 := ((hp.ok.all t ht).mok (by omega) (by omega)).sum
   omega
  obtain ⟨b1, _, b3⟩ := degGo_is (by omega) hsum hd
  constructor
  ·intro he
   have hz := (emptyT_iff v).1 he
   rcases b3 with h3 | ⟨i, g1, g2, t, ht, h3⟩
   ·unfold sameT
    rw [hd, h3]
    decide
   ·rw [hz i g2] at ht
    cases ht
  ·intro hne
   have hex : ∃ (i : Nat) (hi : i < v.length), v[i] ≠ [] := Classical.byContradiction fun hn => hne ((emptyT_iff v).2 fun i hi => Classical.byContradiction fun hx => hn ⟨i, hi, hx⟩)
   obtain ⟨i, hi, hx⟩ := hex
   obtain ⟨t, ht⟩ := List.exists_mem_of_ne_nil _ hx
   have e := b1 i (by omega) hi t ht
   have e0 := hsum i (by omega) hi t ht
   unfold sameT dgO
   rw [hd]
   show (if d' < 0 then ((0 : Int), (5 : Int)) else (d', 0)) = (max 0 d', 0)
   rw [if_neg (by omega), show max 0 d' = d' by omega]

theorem rows_is {r : Rg} {gs : List Int} {l : List Vc} (h : hilCk r gs l = 0) (d : Int) :
  rowsT r gs l d = (keysT r.n.toNat (startG r l l.length).ms.length (dgAt (gsF gs) (startG r l l.length).ms) d).map fun y => rowK (keysT r.n.toNat gs.length (gsF gs) d) (vbyT r ((startG r l l.length).ms.getD y.1 default).v ⟨1, y.2⟩) := by
 obtain ⟨hlst, _⟩ := hil_lst h
 rw [keys_monZ r.n.toNat (startG r l l.length).ms.length, List.map_flatMap]
 simp only [List.map_map, Function.comp_def]
 have e := range_flatMap (startG r l l.length).ms fun x => (monZ r.n.toNat (d - x.dg (gsF gs))).map fun m => rowK (keysT r.n.toNat gs.length (gsF gs) d) (vbyT r x.v ⟨1, m⟩)
 show _ = (List.range (startG r l l.length).ms.length).flatMap fun a => (monZ r.n.toNat (d - ((startG r l l.length).ms.getD a default).dg (gsF gs))).map fun m => rowK (keysT r.n.toNat gs.length (gsF gs) d) (vbyT r ((startG r l l.length).ms.getD a default).v ⟨1, m⟩)
 rw [e]
 have key : ∀ n, n ≤ l.length → ((l.take n).flatMap fun v => if (sameT gs v).2 = 0 then (monZ r.n.toNat (d - (sameT gs v).1)).map fun m => rowK (keysT r.n.toNat gs.length (gsF gs) d) (vbyT r v ⟨1, m⟩) else []) =
   (startG r l n).ms.flatMap fun x => (monZ r.n.toNat (d - x.dg (gsF gs))).map fun m => rowK (keysT r.n.toNat gs.length (gsF gs) d) (vbyT r x.v ⟨1, m⟩) := by
  intro n
  induction n with
  | zero => intro _; rfl
  | succ n ih =>
   intro hn
   have hlt : n < l.length := by omega
   obtain ⟨s1, s2⟩ := same_of h (List.getElem_mem hlt)
   rw [List.take_succ_eq_append_getElem hlt, List.flatMap_append, ih (by omega)]
   have hst : startG r l (n + 1) = if emptyT l[n] = true then startG r l n else addM (startG r l n) (mkM r l[n] (unitT r l.length n)) := by
    show (if emptyT (l.getD n []) = true then startG r l n else _) = _
    rw [getD_lt hlt]
   rw [hst]
   by_cases he : emptyT l[n] = true
   ·rw [if_pos he, List.flatMap_singleton, if_neg (s1 he), List.append_nil]
   ·rw [if_neg he]
    have hvn := hlst.hv n hlt
    obtain ⟨m1, m2, m3, m4, m5⟩ := mkM_ok (y := unitT r l.length n) hlst.cx hvn he
    rw [getD_lt hlt] at m2
    have hs := s2 he
    show _ = ((startG r l n).ms ++ [mkM r l[n] (unitT r l.length n)]).flatMap _
    rw [List.flatMap_append, List.flatMap_singleton, List.flatMap_singleton, m2, m3, hs, if_pos rfl]
 have := key l.length (Nat.le_refl _)
 rw [List.take_length] at this
 exact this

theorem cntU_sum (n : Nat) (gs : List Int) (ls : List (List (List Int))) (d : Int) : ∀ i, cntU n gs ls d i = ((List.range i).map fun a => cntO n (ls.getD a []) (d - gs.getD a 0)).sum
 | 0 => rfl
 | i + 1 => by
  rw [List.range_succ, List.map_append, List.sum_append, ← cntU_sum n gs ls d i]
  simp [cntU]

theorem out_cnt {r : Rg} {m n : Nat} {l : List Vc} (gs : List Int) (d : Int) (hm : gs.length = m) : ((keysT n m (fun j => gs.getD j 0) d).filter fun y => !(rawL r m l).any (divs y.1 y.2)).length = cntU n gs (ldsT r m l) d m := by
 rw [cntU_sum, keys_monZ, filter_flat]
 refine congrArg List.sum (List.map_congr_left fun a ha => ?_)
 have hal := List.mem_range.1 ha
 rw [List.filter_map, List.length_map]
 unfold cntO ldsT
 rw [leadsT_get _ _ _ hal]
 generalize rawL r m l = L
 refine congrArg List.length (List.filter_congr fun e _ => ?_)
 show (!(L.any (divs a e))) = outM _ e
 unfold outM
 rw [List.any_map, List.any_filter]
 refine congrArg (!·) (congrArg (fun f => L.any f) ?_)
 funext x
 unfold divs
 rfl

theorem doc_count {r : Rg} {gs : List Int} {l : List Vc} (h : hilCk r gs l = 0) {d : Int} (hd0 : 0 ≤ d) (hd : d ≤ 12) : docC r gs l d = cntU r.n.toNat gs (ldsT r gs.length l) d gs.length := by
 obtain ⟨hlst, hk1⟩ := hil_lst h
 have hc := hlst.cx
 obtain ⟨hp2, hn3, hn1, hpr, hckp⟩ := hc.rg
 have hraw := hlst.raw
 have hg := hlst.ginv.gens
 unfold docC
 rw [rows_is h d]
 generalize hG : (startG r l l.length).ms = G at *
 generalize hδ : gsF gs = δ at *
 generalize hY : keysT r.n.toNat G.length (dgAt δ G) d = Y
 generalize hK : keysT r.n.toNat gs.length δ d = K
 have hinv := invT_inv hckp
 have hp1 : 1 < r.p := by omega
 have hsort : Y.Pairwise before := by rw [← hY]; exact keysT_sorted _ _ _ _
 have hrow : ∀ y ∈ Y, HV r gs.length δ d (vbyT r (G.getD y.1 default).v ⟨1, y.2⟩) ∧ CongF r.p (ev (vbyT r (G.getD y.1 default).v ⟨1, y.2⟩)) (rowF G y) := fun y hy => hg.row (by omega) (by rw [hY]; exact hy)
 generalize hρ : (fun y : Nat × List Int => rowK K (vbyT r (G.getD y.1 default).v ⟨1, y.2⟩)) = ρ
 have hρe : ∀ y, ρ y = rowK K (vbyT r (G.getD y.1 default).v ⟨1, y.2⟩) := fun y => by rw [← hρ]
 have hok : ∀ y ∈ Y, RowOk r.p K.length (ρ y) := fun y hy => by
  rw [hρe]
  refine ⟨by unfold rowK; simp, fun x hx => ?_⟩
  unfold rowK at hx
  obtain ⟨z, hz, rfl⟩ := List.mem_map.1 hx
  rw [List.getD_eq_getElem?_getD]
  cases hq : (vbyT r (G.getD y.1 default).v ⟨1, y.2⟩)[z.1]? with
  | none => exact ⟨Int.le_refl _, by show (0 : Int) < r.p; omega⟩
  | some f => exact coef_range (by omega) (by decide) ((hrow y hy).1.pb f (List.mem_of_getElem? hq)) _
 have hvec : ∀ y ∈ Y, ∀ c, vec (ρ y) c = ev (vbyT r (G.getD y.1 default).v ⟨1, y.2⟩) (indK K c) := fun y hy c => by
  rw [hρe]
  exact rowK_vec (fun f hf => ((hrow y hy).1.pb f hf).apart) c
 have htF : ∀ y ∈ Y, tF K (vec (ρ y)) = ev (vbyT r (G.getD y.1 default).v ⟨1, y.2⟩) := fun y hy => funext fun ψ => by
  rw [hρe, ← hK]
  exact tF_ev hc (hrow y hy).1 ψ
 have hmemY : ∀ {a : Nat} {e : List Int}, (a, e) ∈ Y ↔ a < G.length ∧ Mn r.n.toNat e ∧ e.sum + dgAt δ G a = d := fun {a e} => by
  rw [← hY]
  exact keysT_mem (by omega)
 have hcount : ∀ n, n ≤ Y.length → rankT (invT r.p) r.p ((Y.take n).map ρ) = ((Y.take n).filter fun y => @decide (¬ Dep r δ G y) (Classical.propDecidable _)).length := by
  intro n
  induction n with
  | zero => intro _; rfl
  | succ n ih =>
   intro hn
   have hlt : n < Y.length := by omega
   have ih := ih (by omega)
   have hyn := List.getElem_mem hlt
   have hpre : ∀ x ∈ (Y.take n).map ρ, RowOk r.p K.length x := fun x hx => by
    obtain ⟨z, hz, rfl⟩ := List.mem_map.1 hx
    exact hok z (List.mem_of_mem_take hz)
   have hbef : ∀ z, z ∈ Y.take n ↔ z ∈ Y ∧ before z Y[n] := fun z => by
    constructor
    ·intro hz
     refine ⟨List.mem_of_mem_take hz, ?_⟩
     obtain ⟨j, hj, rfl⟩ := List.getElem_of_mem hz
     rw [List.length_take] at hj
     rw [List.getElem_take]
     exact List.pairwise_iff_getElem.1 hsort j n (by omega) hlt (by omega)
    ·rintro ⟨hz, hb⟩
     obtain ⟨j, hj, rfl⟩ := List.getElem_of_mem hz
     rcases Nat.lt_trichotomy j n with hjn | hjn | hjn
     ·exact List.mem_take_iff_getElem.2 ⟨j, by omega, rfl⟩
     ·subst hjn
      exact absurd hb fun hb => before_irrefl hb
     ·exact absurd (List.pairwise_iff_getElem.1 hsort n j hlt hj hjn) fun hb2 => before_asymm hb hb2
   have hdep : Dep r δ G Y[n] ↔ Spn r.p (((Y.take n).map ρ).map vec) (vec (ρ Y[n])) := by
    have hdn := (hmemY (a := Y[n].1) (e := Y[n].2)).1 hyn
    constructor
    ·intro hd
     refine Spn.congr (fun c => ?_) (Sp.spn hd (indK K) _ fun X ⟨z, z1, z2, z3, z4, z5⟩ => ?_)
     ·rw [hvec _ hyn]
      exact (hrow _ hyn).2.symm _
     ·have hz : z ∈ Y := (hmemY (a := z.1) (e := z.2)).2 ⟨z1, z2, by omega⟩
      have hzt := (hbef z).2 ⟨hz, z4⟩
      refine Spn.congr (fun c => ?_) (Spn.mem (u := vec (ρ z)) (List.mem_map_of_mem (List.mem_map_of_mem hzt)))
      rw [hvec z hz, z5]
      exact (hrow z hz).2 _
    ·intro hs
     have h1 := spn_sp (K := K) hs
     rw [htF _ hyn] at h1
     refine Sp.congr (Sp.trans h1 fun X ⟨e, he, hX⟩ => ?_) (hrow _ hyn).2
     obtain ⟨x, hx, rfl⟩ := List.mem_map.1 he
     obtain ⟨z, hz, rfl⟩ := List.mem_map.1 hx
     obtain ⟨hzY, hzb⟩ := (hbef z).1 hz
     have hzn := (hmemY (a := z.1) (e := z.2)).1 hzY
     rw [hX, htF z hzY]
     exact Sp.congr (Sp.mem ⟨z, hzn.1, hzn.2.1, by omega, hzb, rfl⟩) (hrow z hzY).2.symm
   rw [List.take_succ_eq_append_getElem hlt, List.map_append, List.filter_append, List.length_append, ← ih]
   show rankT (invT r.p) r.p ((Y.take n).map ρ ++ [ρ Y[n]]) = _
   by_cases hd : Dep r δ G Y[n]
   ·rw [rank_same hp1 hinv hpre (hok _ hyn) (hdep.1 hd), List.filter_cons, if_neg (by simpa using hd)]
    simp
   ·rw [rank_more hp1 hinv hpre (hok _ hyn) fun hs => hd (hdep.2 hs), List.filter_cons, if_pos (by simpa using hd)]
    simp
 have hfin := hcount Y.length (Nat.le_refl _)
 rw [List.take_length] at hfin
 rw [hfin]
 have hrk := hg.rank (τ := d) (by omega) (fun y => @decide (¬ Dep r δ G y) (Classical.propDecidable _)) (fun y => @decide (InN r gs.length δ G y) (Classical.propDecidable _)) (fun y => by simp) (fun y => by simp)
 rw [hY, hK] at hrk
 rw [← hrk]
 have hany : ∀ y ∈ K, (@decide (InN r gs.length δ G y) (Classical.propDecidable _)) = (rawL r gs.length l).any (divs y.1 y.2) := fun y hy => by
  have hm := (keysT_mem (by omega)).1 (show (y.1, y.2) ∈ keysT r.n.toNat gs.length δ d by rw [hK]; exact hy)
  have := hraw.leads y.1 y.2 hm.1 hm.2.1 (by omega)
  by_cases hb : (rawL r gs.length l).any (divs y.1 y.2) = true
  ·rw [hb]
   simpa using this.1 hb
  ·have hb2 := Bool.eq_false_iff.2 hb
   rw [hb2]
   simp only [decide_eq_false_iff_not]
   exact fun hi => hb (this.2 hi)
 rw [List.filter_congr hany]
 have hsplit := len_split (fun _ => true) (fun y : Nat × List Int => (rawL r gs.length l).any (divs y.1 y.2)) K
 simp only [Bool.true_and] at hsplit
 rw [List.filter_eq_self.2 (fun _ _ => rfl)] at hsplit
 have hout := out_cnt (r := r) (m := gs.length) (l := l) (n := r.n.toNat) gs d rfl
 rw [show (fun j => gs.getD j 0) = δ from hδ, hK] at hout
 rw [← hout]
 omega
end
end Go.Proofs.YtfjmdhemlfafbaaGreat
