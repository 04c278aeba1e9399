/-
  Package hilbert: Numerator. No condition.
-/
import Derived.Test.YtfjmdhemlfafbaaGreatKHc25
import Derived.Test.YtfjmdhemlfafbaaGreatKHc17
import Derived.Test.YtfjmdhemlfafbaaGreatKHc24
set_option linter.unusedVariables false
set_option linter.unusedSimpArgs false

namespace Go.Proofs.YtfjmdhemlfafbaaGreat
section
open Go.RowKit
set_option maxHeartbeats 8000000

def rawL (r : Rg) (k : Nat) (l : List Vc) : List Mb := rawT r k (srtT r) (growEnd r k (startG r l l.length)).ms

theorem Lst.raw {r : Rg} {k : Nat} {δ d : Nat → Int} {l : List Vc} (h : Lst r k δ d l) : RawOk r k δ (startG r l l.length).ms (rawL r k l) := by
 have hg := h.ginv
 have h1 := growRun_ok (muG (startG r l l.length)) (startG r l l.length) hg (Nat.le_refl _)
 exact h1.1.raw h1.2 (srtT_perm r _)

theorem startG_ps {r : Rg} {k : Nat} {δ d : Nat → Int} {l : List Vc} (h : Lst r k δ d l) : ∀ n, n ≤ l.length → (startG r l n).ps.length ≤ n * n
 | 0, _ => Nat.le_refl _
 | n + 1, hn => by
  have ih := startG_ps h n (by omega)
  have hl := (h.start n (by omega)).len
  have e : (n + 1) * (n + 1) = n * n + n + (n + 1) := by rw [Nat.succ_mul, Nat.mul_succ]
  unfold startG
  split
  ·omega
  ·unfold addM newPs
   dsimp only
   rw [List.length_append]
   have := List.length_filterMap_le (fun j => if (mkM r (l.getD n []) (unitT r l.length n)).a = ((startG r l n).ms.getD j default).a then some (⟨j, (startG r l n).ms.length, zipE max (mkM r (l.getD n []) (unitT r l.length n)).u.e ((startG r l n).ms.getD j default).u.e⟩ : Pr) else none) (List.range (startG r l n).ms.length)
   rw [List.length_range] at this
   omega

theorem Raw_pure {r : Rg} {k : Nat} {δ d : Nat → Int} {l : List Vc} (h : Lst r k δ d l) : Pure Tryz.prog 32 [rgD r, vcsD l] (.list 5 ((rawL r k l).map mbD)) := by
 intro H
 refine PureH.of_body Tryz.func32 rfl (by decide) (Nat.le_of_ble_eq_true rfl) fun w0 => ?_
 have hc := h.cx
 obtain ⟨hp2, hn3, hn1, hpr, hck⟩ := hc.rg
 have hl4 := h.l4
 have hk3 := h.k3
 (repeat(first|refine zA ?_|refine zB ?_|refine zE rfl (by decide) rfl ?_|refine zF ?_|refine zG ?_|refine zH ?_|refine zI ?_|refine zJ ?_|refine zK ?_|refine zL rfl ?_|refine zM rfl ?_))
 refine RO.sta (s_buildT (out := mkCs r .nil .nil) rfl rfl) rfl ?_
 refine RO.dyn rfl (opD_box rfl (by simp [cellsOf, D.isCell]) fun bm hbm => ?_)
 (repeat(first|refine zA ?_|refine zB ?_|refine zE rfl (by decide) rfl ?_|refine zF ?_|refine zG ?_|refine zH ?_|refine zI ?_|refine zJ ?_|refine zK ?_|refine zL rfl ?_|refine zM rfl ?_))
 refine DW.loopG (fun z : Nat × Heap × D × D => z.1 ≤ l.length ∧ MkAt H z.2.1 bm r (startG r l z.1).ms (startG r l z.1).ps z.2.2.1 z.2.2.2) (fun z => [(1, vcsD l), (2, .ipt 4 [rgD r] 0 0), (5, .ptr bm 0), (11, vcsD l), (12, I l.length), (13, I z.1)]) (fun z => z.2.1) (fun z => l.length - z.1) (0, H.set bm (83, mkCs r .nil .nil), .nil, .nil)
  ⟨Nat.zero_le _, hbm, (Over.refl H).set hbm, Heap.set_self _ _ _, Acc.nil _ _ _ _, Acc.nil _ _ _ _⟩ (Heap.sub_refl _) (by repeat first | exact trivial | refine HasG.one rfl ?_ | refine HasN.one rfl ?_) fun ⟨i, Hi, dm, dp⟩ ⟨hi, hmk⟩ => ?_
 dsimp only at hi hmk ⊢
 have hstart := h.start i hi
 (repeat(first|refine zA ?_|refine zB ?_|refine zE rfl (by decide) rfl ?_|refine zF ?_|refine zG ?_|refine zH ?_|refine zI ?_|refine zJ ?_|refine zK ?_|refine zL rfl ?_|refine zM rfl ?_))
 refine DW.cond rfl (fun hb => ?_) (fun hb => ?_)
 ·have hlt : i < l.length := by have := of_decide_eq_true hb; omega
  clear hb
  have hvi := h.hv i hlt
  have hgi : l.getD i [] = l[i] := getD_lt hlt
  have hsucc : startG r l (i + 1) = if emptyT l[i] = true then startG r l i else addM (startG r l i) (mkM r l[i] (unitT r l.length i)) := by
   show (if emptyT (l.getD i []) = true then startG r l i else _) = _
   rw [hgi]
  (repeat(first|refine zA ?_|refine zB ?_|refine zE rfl (by decide) rfl ?_|refine zF ?_|refine zG ?_|refine zH ?_|refine zI ?_|refine zJ ?_|refine zK ?_|refine zL rfl ?_|refine zM rfl ?_))
  refine RO.sta (sta_call rfl rfl (vIs_pure l[i] (by rw [hvi.len]; omega) _)) rfl ?_
  cases hE : emptyT l[i] with
  | true =>
   rw [hE, if_pos rfl] at hsucc
   (repeat(first|refine zA ?_|refine zB ?_|refine zE rfl (by decide) rfl ?_|refine zF ?_|refine zG ?_|refine zH ?_|refine zI ?_|refine zJ ?_|refine zK ?_|refine zL rfl ?_|refine zM rfl ?_))
   exact ⟨(i + 1, Hi, dm, dp), ⟨hlt, by dsimp only; rw [hsucc]; exact hmk⟩, by dsimp only; omega, Heap.sub_refl _, (by repeat first | exact trivial | refine HasG.one rfl ?_ | refine HasN.one rfl ?_)⟩
  | false =>
   rw [hE, if_neg (by decide)] at hsucc
   cases htop : topV r l[i] with
   | none => exact absurd ((emptyT_iff _).2 (topV_noneM (hvi.vm hc) htop)) (by rw [hE]; decide)
   | some y =>
    obtain ⟨b, w⟩ := y
    obtain ⟨t1, t2, t3, t4⟩ := hvi.top hc htop
    have hmk1 : mkM r l[i] (unitT r l.length i) = ⟨l[i], b, w, unitT r l.length i⟩ := by
     unfold mkM
     rw [htop]
     rfl
    rw [hmk1] at hsucc
    have hml := hstart.len
    have hpl := startG_ps h i hi
    have hpl4 : i * i ≤ 4 * 4 := Nat.mul_le_mul (by omega) (by omega)
    (repeat(first|refine zA ?_|refine zB ?_|refine zE rfl (by decide) rfl ?_|refine zF ?_|refine zG ?_|refine zH ?_|refine zI ?_|refine zJ ?_|refine zK ?_|refine zL rfl ?_|refine zM rfl ?_))
    refine RO.sta (sta_call rfl rfl (unitT_pure r l.length i hlt (by omega) (by omega) _)) rfl ?_
    refine RO.dyn rfl ((opD_call rfl rfl (addM_call (n := r.n.toNat) hmk (hvi.vm hc) (hvi.vb hc) htop (by omega) (by omega) (fun x hx => ?_) t3.mok)).mono fun dd Ha ⟨dm', dp', hma⟩ => ?_)
    ·obtain ⟨j, hj, hne, rfl⟩ := hstart.mem x hx
     obtain ⟨m1, m2, m3, m4, m5⟩ := mkM_ok (y := unitT r l.length j) hc (h.hv j hj) hne
     have hld := m1.ld hc
     exact ⟨hld.2.2.mok, by rw [hld.2.2.len, t3.len]⟩
    ·(repeat(first|refine zA ?_|refine zB ?_|refine zE rfl (by decide) rfl ?_|refine zF ?_|refine zG ?_|refine zH ?_|refine zI ?_|refine zJ ?_|refine zK ?_|refine zL rfl ?_|refine zM rfl ?_))
     exact ⟨(i + 1, Ha, dm', dp'), ⟨hlt, by dsimp only; rw [hsucc]; exact hma⟩, by dsimp only; omega, Heap.sub_refl _, (by repeat first | exact trivial | refine HasG.one rfl ?_ | refine HasN.one rfl ?_)⟩
 ·have hie : i = l.length := by have := of_decide_eq_false hb; omega
  subst hie
  clear hb
  have hg := h.ginv
  (repeat(first|refine zA ?_|refine zB ?_|refine zE rfl (by decide) rfl ?_|refine zF ?_|refine zG ?_|refine zH ?_|refine zI ?_|refine zJ ?_|refine zK ?_|refine zL rfl ?_|refine zM rfl ?_))
  refine RO.dyn rfl ((opD_call rfl rfl (grow_call hmk hg)).mono fun dd Hg ⟨dm', dp', hmg, hgg, hgp⟩ => ?_)
  (repeat(first|refine zA ?_|refine zB ?_|refine zE rfl (by decide) rfl ?_|refine zF ?_|refine zG ?_|refine zH ?_|refine zI ?_|refine zJ ?_|refine zK ?_|refine zL rfl ?_|refine zM rfl ?_))
  refine RO.dyn rfl ((opD_call rfl rfl (tidy_call hmg hgg (sort_call r k δ bm dp') sort0_call (srtT_nil r))).mono fun dd Ht ⟨dm2, hperm, hmt⟩ => ?_)
  have hat := hmt.at_
  (repeat(first|refine zA ?_|refine zB ?_|refine zE rfl (by decide) rfl ?_|refine zF ?_|refine zG ?_|refine zH ?_|refine zI ?_|refine zJ ?_|refine zK ?_|refine zL rfl ?_|refine zM rfl ?_))
  refine RO.sta (s_nilCheck rfl) rfl ?_
  (repeat(first|refine zA ?_|refine zB ?_|refine zE rfl (by decide) rfl ?_|refine zF ?_|refine zG ?_|refine zH ?_|refine zI ?_|refine zJ ?_|refine zK ?_|refine zL rfl ?_|refine zM rfl ?_))
  refine RO.sta (s_loadMut (d := dm2) rfl hat rfl) rfl ?_
  (repeat(first|refine zA ?_|refine zB ?_|refine zE rfl (by decide) rfl ?_|refine zF ?_|refine zG ?_|refine zH ?_|refine zI ?_|refine zJ ?_|refine zK ?_|refine zL rfl ?_|refine zM rfl ?_))
  exact DW.ret ⟨.inl rfl, _, rfl, hmt.over, hmt.ms.done⟩
end
section
open Go.RowKit
set_option maxHeartbeats 8000000

instance : CellT Tryz.prog 39 := ⟨⟨_, Tryz.underlying39, rfl⟩⟩

instance : SliceT Tryz.prog 39 32 := ⟨Tryz.underlying39⟩

instance : ElT Tryz.prog 32 1 [.nil] 24 := .of (z := .slice none 0 0) (by kernel_rfl) rfl rfl rfl (by decide)

instance : SizeT Tryz.prog 32 1 := .of (by kernel_rfl)

def leadsT (k : Nat) : List Mb → List (List (List Int))
 | ms => ms.foldl (fun out x => out.set x.a (out.getD x.a [] ++ [x.u.e])) (List.replicate k [])

theorem leadsT_len (k : Nat) (ms : List Mb) : (leadsT k ms).length = k := by
 unfold leadsT
 suffices h : ∀ (ms : List Mb) (out : List (List (List Int))), (ms.foldl (fun out x => out.set x.a (out.getD x.a [] ++ [x.u.e])) out).length = out.length by
  rw [h, List.length_replicate]
 intro ms
 induction ms with
 | nil => intro out; rfl
 | cons x ms ih => intro out; rw [List.foldl_cons, ih, List.length_set]

theorem leadsT_snoc (k : Nat) (ms : List Mb) (x : Mb) : leadsT k (ms ++ [x]) = (leadsT k ms).set x.a ((leadsT k ms).getD x.a [] ++ [x.u.e]) := by
 unfold leadsT
 rw [List.foldl_append]
 rfl

theorem leads_fold (a : Nat) : ∀ (ms : List Mb) (out : List (List (List Int))), a < out.length → (ms.foldl (fun out x => out.set x.a (out.getD x.a [] ++ [x.u.e])) out).getD a [] = out.getD a [] ++ (ms.filter fun x => x.a == a).map (·.u.e)
 | [], out, _ => by simp
 | x :: ms, out, ha => by
  rw [List.foldl_cons, leads_fold a ms _ (by simpa using ha)]
  by_cases hx : x.a < out.length
  ·rw [getD_set hx]
   by_cases hxa : x.a = a
   ·rw [if_pos hxa, hxa]
    simp [hxa]
   ·rw [if_neg hxa]
    simp [hxa]
  ·rw [List.set_eq_of_length_le (by omega)]
   have : x.a ≠ a := by omega
   simp [this]

theorem leadsT_get (k : Nat) (ms : List Mb) (a : Nat) (ha : a < k) : (leadsT k ms).getD a [] = (ms.filter fun x => x.a == a).map (·.u.e) := by
 unfold leadsT
 rw [leads_fold a ms _ (by simpa using ha), getD_lt (by simpa using ha)]
 simp

def expsD (l : List (List (List Int))) : List (List D) := l.map fun f => f.map intsD
def leadsD (l : List (List (List Int))) : D := .list 1 (l.map fun f => .list 1 (f.map intsD))

theorem expsD_ld (l : List (List (List Int))) : D.list 1 ((expsD l).map (D.list 1)) = leadsD l := by
 unfold expsD leadsD
 rw [List.map_map]
 rfl

theorem leads_row {k : Nat} {ms : List Mb} {a : Nat} (ha : a < k) : ((leadsT k ms).getD a []).length ≤ ms.length := by
 rw [leadsT_get k ms a ha, List.length_map]
 exact List.length_filter_le _ _

theorem leads_pure {r : Rg} {k : Nat} {δ d : Nat → Int} {l : List Vc} (h : Lst r k δ d l) : Pure Tryz.prog 13 [rgD r, I k, vcsD l] (leadsD (leadsT k (rawL r k l))) := by
 intro H
 refine PureH.of_body Tryz.func13 rfl (by decide) (Nat.le_of_ble_eq_true rfl) fun w0 => ?_
 have hraw := h.raw
 have hc := h.cx
 have hk3 := h.k3
 generalize hms : rawL r k l = ms at *
 have hmsl := hraw.len
 (repeat(first|refine zA ?_|refine zB ?_|refine zE rfl (by decide) rfl ?_|refine zF ?_|refine zG ?_|refine zH ?_|refine zI ?_|refine zJ ?_|refine zK ?_|refine zL rfl ?_|refine zM rfl ?_))
 refine RO.dyn rfl (d_make rfl rfl (Nat.le_refl _) (by omega) (by omega) fun bL hbL => ?_)
 rw [flatten_replicate1]
 (repeat(first|refine zA ?_|refine zB ?_|refine zE rfl (by decide) rfl ?_|refine zF ?_|refine zG ?_|refine zH ?_|refine zI ?_|refine zJ ?_|refine zK ?_|refine zL rfl ?_|refine zM rfl ?_))
 refine RO.sta (sta_call rfl rfl (Raw_pure h _)) rfl ?_
 rw [hms]
 (repeat(first|refine zA ?_|refine zB ?_|refine zE rfl (by decide) rfl ?_|refine zF ?_|refine zG ?_|refine zH ?_|refine zI ?_|refine zJ ?_|refine zK ?_|refine zL rfl ?_|refine zM rfl ?_))
 refine DW.loopG (fun z : Nat × Heap × List D => z.1 ≤ ms.length ∧ Over H z.2.1 ∧ RowsOk (fun c => H c ≠ none) z.2.1 bL 32 24 1 (expsD (leadsT k (ms.take z.1))) z.2.2) (fun z => [(7, .ref bL 0 k 1), (14, .list 5 (ms.map mbD)), (15, I ms.length), (16, I z.1)]) (fun z => z.2.1) (fun z => ms.length - z.1) (0, H.set bL (32, List.replicate k .nil), List.replicate k .nil)
  ⟨Nat.zero_le _, (Over.refl H).set hbL, by
   rw [show expsD (leadsT k (ms.take 0)) = List.replicate k [] by simp [expsD, leadsT]]
   exact .init (Heap.set_self _ _ _)⟩ (Heap.sub_refl _) (by repeat first | exact trivial | refine HasG.one rfl ?_ | refine HasN.one rfl ?_) fun ⟨i, Hi, ds⟩ ⟨hi, hov, hrows⟩ => ?_
 dsimp only at hi hov hrows ⊢
 have hlen := hrows.len
 have hlen2 : (expsD (leadsT k (ms.take i))).length = k := by simp [expsD, leadsT_len]
 (repeat(first|refine zA ?_|refine zB ?_|refine zE rfl (by decide) rfl ?_|refine zF ?_|refine zG ?_|refine zH ?_|refine zI ?_|refine zJ ?_|refine zK ?_|refine zL rfl ?_|refine zM rfl ?_))
 refine DW.cond rfl (fun hb => ?_) (fun hb => ?_)
 ·have hlt : i < ms.length := by have := of_decide_eq_true hb; omega
  clear hb
  have hxi := ((hraw.ok _ (List.getElem_mem hlt)).1).ld hc
  generalize hx : ms[i] = x at *
  have hsn : ms.take (i + 1) = ms.take i ++ [x] := by rw [List.take_succ_eq_append_getElem hlt, hx]
  have hak : x.a < k := hxi.1
  have ha2 : x.a < ds.length := by rw [hlen, hlen2]; exact hak
  have ha3 : x.a < (leadsT k (ms.take i)).length := by rw [leadsT_len]; exact hak
  have ha4 : x.a < (expsD (leadsT k (ms.take i))).length := by rw [hlen2]; exact hak
  have hrl := leads_row (k := k) (ms := ms.take i) hak
  have htl : (ms.take i).length ≤ ms.length := by rw [List.length_take]; omega
  have hbLk : Hi bL ≠ none := by rw [hrows.row]; simp
  (repeat(first|refine zA ?_|refine zB ?_|refine zE rfl (by decide) rfl ?_|refine zF ?_|refine zG ?_|refine zH ?_|refine zI ?_|refine zJ ?_|refine zK ?_|refine zL rfl ?_|refine zM rfl ?_))
  refine RO.sta (s_loadAgg (ds := mbC x) rfl (by rw [List.getElem?_map, List.getElem?_eq_getElem hlt, hx]; rfl) rfl) rfl ?_
  refine RO.dyn rfl (d_alloc fun b9 hb9 => ?_)
  (repeat(first|refine zA ?_|refine zB ?_|refine zE rfl (by decide) rfl ?_|refine zF ?_|refine zG ?_|refine zH ?_|refine zI ?_|refine zJ ?_|refine zK ?_|refine zL rfl ?_|refine zM rfl ?_))
  refine RO.dyn rfl (d_store (k := 5) rfl rfl rfl (Heap.set_self _ _ _) (Nat.le_refl _) (by simp [cellsOf, mbC, D.isCell, vcD, intsD]) ?_)
  rw [Heap.set_set]
  refine RO.nil ?_
  refine DW.asH (fun H2 => H2 b9 = some (68, mbC x) ∧ Over Hi H2) ⟨Heap.set_self _ _ _, (Over.refl Hi).set hb9⟩ fun H2 ⟨g9, gov⟩ => ?_
  have hrows2 := hrows.over gov
  have hL9 : b9 ≠ bL := fun e => hbLk (by rw [← e]; exact hb9)
  have hD2 : ∀ c, H c ≠ none → H2 c ≠ none := fun c hc => by
   cases hz : H c with
   | none => exact absurd hz hc
   | some z => rw [gov c z (hov c z hz)]; simp
  have hHs : Over (Heap.set (fun _ => none) b9 (68, mbC x)) H2 := fun c z hc => by
   by_cases h : c = b9
   ·subst h; rw [Heap.set_self] at hc; rw [← hc]; exact g9
   ·rw [Heap.set_other _ _ h] at hc; cases hc
  have hta : (expsD (leadsT k (ms.take i)))[x.a] = ((leadsT k (ms.take i)).getD x.a []).map intsD := by rw [getD_lt ha3]; simp [expsD]
  (repeat(first|refine zA ?_|refine zB ?_|refine zE rfl (by decide) rfl ?_|refine zF ?_|refine zG ?_|refine zH ?_|refine zI ?_|refine zJ ?_|refine zK ?_|refine zL rfl ?_|refine zM rfl ?_))
  refine DW.drawX [0, 1, 2, 3, 4, 5, 6, 7, 8, 9, 10, 11, 12, 13, 14] [0, 1, 2, 3] (Heap.set (fun _ => none) b9 (68, mbC x)) Tryz.mixed (by kernel_rfl) hHs ?_
  (repeat(first|refine RX.A ?_|refine RX.nil ?_))
  refine RX.fre hHs (fun H' hs => s_loadMut (d := I (x.a : Nat)) rfl (hs _ _ (Heap.set_self _ _ _)) rfl) rfl ?_
  (repeat(first|refine RX.A ?_|refine RX.nil ?_))
  refine RX.sta rfl (r_loadMut (d := I (x.a : Nat)) rfl g9 rfl) rfl ?_
  refine RX.any (fun H' => s_indexRef (i := x.a) rfl rfl hak) rfl ?_
  refine RX.sta rfl (r_loadMut (d := ds[x.a]) rfl hrows2.row (by rw [show 0 + x.a * 1 = x.a by omega, List.getElem?_eq_getElem ha2])) rfl ?_
  (repeat(first|refine RX.A ?_|refine RX.nil ?_))
  refine RX.sta rfl (r_loadMut (d := intsD x.u.e) rfl g9 rfl) rfl ?_
  (repeat(first|refine RX.A ?_|refine RX.nil ?_))
  refine RY.dyn rfl (d_append (H0 := butBlk H2 ds[x.a]) (l := (expsD (leadsT k (ms.take i)))[x.a]) (xs := [intsD x.u.e]) rfl (hrows2.acc ha2 ha4) (butBlk_over _ _) rfl (.inl rfl) (uni_ints [x.u.e]) (by rw [hta, List.length_map, List.length_singleton]; omega) (by rw [hta, List.length_map, List.length_singleton]; omega) fun d' H' q1 q2 q3 => ?_)
  have hov' : Over (Heap.set (fun _ => none) b9 (68, mbC x)) H' := fun c z hc => by
   by_cases h : c = b9
   ·subst h; exact q3 _ _ (hHs _ _ hc) fun hb => (hrows.blk ha2 hb).2.2 hb9
   ·rw [Heap.set_other _ _ h] at hc; cases hc
  refine ⟨hov', ?_⟩
  have hHL : H' bL = some (32, ds) := q3 _ _ hrows2.row fun hb => (hrows2.blk ha2 hb).2.1 rfl
  refine RY.sta hov' (s_indexRef (i := x.a) rfl rfl hak) rfl ?_
  refine RY.dyn rfl (d_store (k := 1) rfl rfl (by rw [q1.cell.1]; rfl) hHL (by rw [q1.cell.1]; show 0 + x.a * 1 + 1 ≤ ds.length; omega) (by rw [q1.cell.1]; intro z hz; rw [List.mem_singleton.1 hz]; exact q1.cell.2) ⟨hov'.set (by rw [Heap.set_other _ _ hL9.symm]), ?_⟩)
  refine RY.nil ?_
  have hset : setMany ds (0 + x.a * 1) (cellsOf d') = ds.set x.a d' := by rw [show 0 + x.a * 1 = x.a by omega]; exact setManyD ds x.a d' q1.cell.1 ha2
  rw [hset]
  have hrows3 := hrows2.put hD2 ha2 q1 (fun b hb => by
   unfold butBlk at hb
   split at hb
   ·exact .inr (by assumption)
   ·exact .inl hb) q3
  have hpres : ∀ c z, H2 c = some z → c ≠ bL → ds[x.a].blk ≠ some c → (H'.set bL (32, ds.set x.a d')) c = some z := fun c z hc hne2 hbk => by rw [Heap.set_other _ _ hne2]; exact q3 c z hc hbk
  (repeat(first|refine zA ?_|refine zB ?_|refine zE rfl (by decide) rfl ?_|refine zF ?_|refine zG ?_|refine zH ?_|refine zI ?_|refine zJ ?_|refine zK ?_|refine zL rfl ?_|refine zM rfl ?_))
  refine ⟨(i + 1, H'.set bL (32, ds.set x.a d'), ds.set x.a d'), ⟨hlt, fun c z hc => hpres c z (gov c z (hov c z hc)) (fun e => by rw [e, hbL] at hc; cases hc) (fun hb => (hrows2.blk ha2 hb).1 (by rw [hc]; simp)), ?_⟩, by dsimp only; omega, Heap.sub_refl _, (by repeat first | exact trivial | refine HasG.one rfl ?_ | refine HasN.one rfl ?_)⟩
  dsimp only
  rw [hsn, leadsT_snoc, show expsD ((leadsT k (ms.take i)).set x.a ((leadsT k (ms.take i)).getD x.a [] ++ [x.u.e])) = (expsD (leadsT k (ms.take i))).set x.a ((expsD (leadsT k (ms.take i)))[x.a] ++ [intsD x.u.e]) by
   rw [hta]; simp [expsD, List.map_set]]
  exact hrows3
 ·have hie : i = ms.length := by have := of_decide_eq_false hb; omega
  subst hie
  clear hb
  rw [List.take_of_length_le (Nat.le_refl _)] at hrows
  (repeat(first|refine zA ?_|refine zB ?_|refine zE rfl (by decide) rfl ?_|refine zF ?_|refine zG ?_|refine zH ?_|refine zI ?_|refine zJ ?_|refine zK ?_|refine zL rfl ?_|refine zM rfl ?_))
  refine DW.ret ⟨.inl rfl, _, rfl, hov, ?_⟩
  rw [← expsD_ld]
  exact hrows.frz (by rw [List.take_of_length_le (Nat.le_refl _)] at hlen2; exact hlen2.symm) hbL fun b hb => by
   cases hx : H b with
   | none => rfl
   | some z => exact absurd (by rw [hx]; simp) hb
end
section
open Go.RowKit
set_option maxHeartbeats 8000000

def badD (d : Int) : Bool := decide (d < 0) || decide (6 < d)

def hilCk (r : Rg) (gs : List Int) (l : List Vc) : Int :=
 if basCk r gs.length l = 0 then (if gs.any badD = true then 3 else if (l.any fun v => (sameT gs v).2 == 4) = true then 4 else 0) else basCk r gs.length l

theorem basCk_ok {r : Rg} {rank : Int} {l : List Vc} (h : basCk r rank l = 0) : vecsCk r rank l = 0 ∧ smallT rank l = true := by
 unfold basCk at h
 split at h
 ·rename_i h1
  split at h
  ·exact ⟨h1, by assumption⟩
  ·cases h
 ·rename_i h1
  exact absurd h h1

theorem smallT_ok {rank : Int} {l : List Vc} (h : smallT rank l = true) : rank ≤ 3 ∧ l.length ≤ 4 ∧ ∀ v ∈ l, ∀ f ∈ v, f.length ≤ 6 ∧ topT f ≤ 3 := by
 unfold smallT at h
 simp only [Bool.and_eq_true, Bool.not_eq_true', Bool.or_eq_false_iff, decide_eq_false_iff_not, List.all_eq_true] at h
 obtain ⟨⟨h1, h2⟩, h3⟩ := h
 refine ⟨by omega, by omega, fun v hv f hf => ?_⟩
 have := h3 v hv f hf
 unfold smallP at this
 simp only [Bool.not_eq_true', Bool.or_eq_false_iff, decide_eq_false_iff_not] at this
 omega

theorem badD_pure (d : Int) : Pure Tryz.prog 23 [I d] (.bool (badD d)) := by
 intro H
 refine PureH.of_body Tryz.func23 rfl (by decide) (Nat.le_of_ble_eq_true rfl) fun w0 => ?_
 unfold badD
 (repeat(first|refine zA ?_|refine zB ?_|refine zE rfl (by decide) rfl ?_|refine zF ?_|refine zG ?_|refine zH ?_|refine zI ?_|refine zJ ?_|refine zK ?_|refine zL rfl ?_|refine zM rfl ?_))
 cases h : decide (d < 0)
 all_goals
  (repeat(first|refine zA ?_|refine zB ?_|refine zE rfl (by decide) rfl ?_|refine zF ?_|refine zG ?_|refine zH ?_|refine zI ?_|refine zJ ?_|refine zK ?_|refine zL rfl ?_|refine zM rfl ?_))
  exact DW.ret ⟨.inl rfl, _, rfl, Over.refl _, .same _⟩

theorem hilCheck_pure (r : Rg) (gs : List Int) (l : List Vc) (hgl : gs.length ≤ 4611686018427387904) (hl : l.length ≤ 4611686018427387904) (hv : ∀ v ∈ l, v.length ≤ 4611686018427387904 ∧ ∀ f ∈ v, f.length ≤ 4611686018427387904) : Pure Tryz.prog 8 [rgD r, intsD gs, vcsD l] (I (hilCk r gs l)) := by
 intro H
 refine PureH.of_body Tryz.func8 rfl (by decide) (Nat.le_of_ble_eq_true rfl) fun w0 => ?_
 unfold hilCk
 (repeat(first|refine zA ?_|refine zB ?_|refine zE rfl (by decide) rfl ?_|refine zF ?_|refine zG ?_|refine zH ?_|refine zI ?_|refine zJ ?_|refine zK ?_|refine zL rfl ?_|refine zM rfl ?_))
 refine RO.sta (sta_call rfl rfl (basisCheck_pure r gs.length l hl hv _)) rfl ?_
 (repeat(first|refine zA ?_|refine zB ?_|refine zE rfl (by decide) rfl ?_|refine zF ?_|refine zG ?_|refine zH ?_|refine zI ?_|refine zJ ?_|refine zK ?_|refine zL rfl ?_|refine zM rfl ?_))
 by_cases hck : basCk r gs.length l = 0
 case neg =>
  rw [if_neg hck, show (basCk r gs.length l != 0) = true by simpa using hck]
  (repeat(first|refine zA ?_|refine zB ?_|refine zE rfl (by decide) rfl ?_|refine zF ?_|refine zG ?_|refine zH ?_|refine zI ?_|refine zJ ?_|refine zK ?_|refine zL rfl ?_|refine zM rfl ?_))
  exact DW.ret ⟨.inl rfl, _, rfl, Over.refl _, .same _⟩
 rw [if_pos hck, show (basCk r gs.length l != 0) = false by simpa using hck]
 obtain ⟨hvc, hsm⟩ := basCk_ok hck
 obtain ⟨hr, hr1, hr2, hlen, hok⟩ := vecsCk_ok hvc
 have hr3 := ringCk_ok hr
 obtain ⟨hk3, hl4, hsm2⟩ := smallT_ok hsm
 (repeat(first|refine zA ?_|refine zB ?_|refine zE rfl (by decide) rfl ?_|refine zF ?_|refine zG ?_|refine zH ?_|refine zI ?_|refine zJ ?_|refine zK ?_|refine zL rfl ?_|refine zM rfl ?_))
 refine RO.sta (sta_call rfl rfl (containsFunc_int gs badD (by omega) (fun x hx => badD_pure x _))) rfl ?_
 (repeat(first|refine zA ?_|refine zB ?_|refine zE rfl (by decide) rfl ?_|refine zF ?_|refine zG ?_|refine zH ?_|refine zI ?_|refine zJ ?_|refine zK ?_|refine zL rfl ?_|refine zM rfl ?_))
 cases hbd : gs.any badD
 case true =>
  (repeat(first|refine zA ?_|refine zB ?_|refine zE rfl (by decide) rfl ?_|refine zF ?_|refine zG ?_|refine zH ?_|refine zI ?_|refine zJ ?_|refine zK ?_|refine zL rfl ?_|refine zM rfl ?_))
  exact DW.ret ⟨.inl rfl, _, rfl, Over.refl _, .same _⟩
 have hgs : ∀ g ∈ gs, 0 ≤ g ∧ g ≤ 6 := fun g hg => by
  rw [List.any_eq_false] at hbd
  have := hbd g hg
  unfold badD at this
  simp only [Bool.or_eq_true, decide_eq_true_eq, not_or] at this
  omega
 rw [if_neg (by decide)]
 (repeat(first|refine zA ?_|refine zB ?_|refine zE rfl (by decide) rfl ?_|refine zF ?_|refine zG ?_|refine zH ?_|refine zI ?_|refine zJ ?_|refine zK ?_|refine zL rfl ?_|refine zM rfl ?_))
 refine DW.loopI (fun k : Nat => k ≤ l.length ∧ ((l.drop k).any fun v => (sameT gs v).2 == 4) = (l.any fun v => (sameT gs v).2 == 4)) (fun k => [(1, intsD gs), (22, vcsD l), (23, I l.length), (24, I k)]) (fun _ => H) (fun k => l.length - k) 0 ⟨Nat.zero_le _, rfl⟩ rfl ⟨rfl, rfl, rfl, rfl, trivial⟩ fun k ⟨hk, hg⟩ => ?_
 (repeat(first|refine zA ?_|refine zB ?_|refine zE rfl (by decide) rfl ?_|refine zF ?_|refine zG ?_|refine zH ?_|refine zI ?_|refine zJ ?_|refine zK ?_|refine zL rfl ?_|refine zM rfl ?_))
 refine DW.cond rfl (fun hb => ?_) (fun hb => ?_)
 ·have hlt : k < l.length := by have := of_decide_eq_true hb; omega
  clear hb
  have hvk := hok _ (List.getElem_mem hlt)
  rw [List.drop_eq_getElem_cons hlt, List.any_cons] at hg
  (repeat(first|refine zA ?_|refine zB ?_|refine zE rfl (by decide) rfl ?_|refine zF ?_|refine zG ?_|refine zH ?_|refine zI ?_|refine zJ ?_|refine zK ?_|refine zL rfl ?_|refine zM rfl ?_))
  refine RO.sta (sta_call rfl rfl (vSame_pure gs l[k] (by have := hvk.len; omega) (by have := hvk.len; omega) (fun g hg => by have := hgs g hg; omega) (fun f hf => ⟨by have := (hvk.all f hf).len; omega, fun t ht => ((hvk.all f hf).ok.all t ht).mok (by omega) (by omega)⟩) _)) rfl ?_
  (repeat(first|refine zA ?_|refine zB ?_|refine zE rfl (by decide) rfl ?_|refine zF ?_|refine zG ?_|refine zH ?_|refine zI ?_|refine zJ ?_|refine zK ?_|refine zL rfl ?_|refine zM rfl ?_))
  cases h4 : ((sameT gs l[k]).2 == 4)
  case true =>
   rw [h4, Bool.true_or] at hg
   rw [← hg, if_pos rfl]
   have h5 : (sameT gs l[k]).2 = 4 := by simpa using h4
   (repeat(first|refine zA ?_|refine zB ?_|refine zE rfl (by decide) rfl ?_|refine zF ?_|refine zG ?_|refine zH ?_|refine zI ?_|refine zJ ?_|refine zK ?_|refine zL rfl ?_|refine zM rfl ?_))
   rw [h5]
   exact DW.ret ⟨.inl rfl, _, rfl, Over.refl _, .same _⟩
  rw [h4, Bool.false_or] at hg
  (repeat(first|refine zA ?_|refine zB ?_|refine zE rfl (by decide) rfl ?_|refine zF ?_|refine zG ?_|refine zH ?_|refine zI ?_|refine zJ ?_|refine zK ?_|refine zL rfl ?_|refine zM rfl ?_))
  exact ⟨k + 1, ⟨hlt, hg⟩, by dsimp only; omega, rfl, rfl, rfl, rfl, rfl, trivial⟩
 ·have hge : k = l.length := by have := of_decide_eq_false hb; omega
  rw [hge, List.drop_length] at hg
  rw [← hg]
  (repeat(first|refine zA ?_|refine zB ?_|refine zE rfl (by decide) rfl ?_|refine zF ?_|refine zG ?_|refine zH ?_|refine zI ?_|refine zJ ?_|refine zK ?_|refine zL rfl ?_|refine zM rfl ?_))
  exact DW.ret ⟨.inl rfl, _, rfl, Over.refl _, .same _⟩
end
section
open Go.RowKit
set_option maxHeartbeats 8000000

theorem CheckBasis_pure (r : Rg) (rank : Int) (l : List Vc) (hl : l.length ≤ 4611686018427387904) (hv : ∀ v ∈ l, v.length ≤ 4611686018427387904 ∧ ∀ f ∈ v, f.length ≤ 4611686018427387904) : Pure Tryz.prog 18 [rgD r, I rank, vcsD l] (I (basCk r rank l)) := by
 intro H
 refine PureH.of_body Tryz.func18 rfl (by decide) (Nat.le_of_ble_eq_true rfl) fun w0 => ?_
 unfold basCk
 (repeat(first|refine zA ?_|refine zB ?_|refine zE rfl (by decide) rfl ?_|refine zF ?_|refine zG ?_|refine zH ?_|refine zI ?_|refine zJ ?_|refine zK ?_|refine zL rfl ?_|refine zM rfl ?_))
 refine RO.sta (sta_call rfl rfl (CheckVectors_pure r rank l hl hv _)) rfl ?_
 (repeat(first|refine zA ?_|refine zB ?_|refine zE rfl (by decide) rfl ?_|refine zF ?_|refine zG ?_|refine zH ?_|refine zI ?_|refine zJ ?_|refine zK ?_|refine zL rfl ?_|refine zM rfl ?_))
 by_cases hck : vecsCk r rank l = 0
 case neg =>
  rw [if_neg hck, show (vecsCk r rank l != 0) = true by simpa using hck]
  (repeat(first|refine zA ?_|refine zB ?_|refine zE rfl (by decide) rfl ?_|refine zF ?_|refine zG ?_|refine zH ?_|refine zI ?_|refine zJ ?_|refine zK ?_|refine zL rfl ?_|refine zM rfl ?_))
  exact DW.ret ⟨.inl rfl, _, rfl, Over.refl _, .same _⟩
 rw [if_pos hck, show (vecsCk r rank l != 0) = false by simpa using hck]
 obtain ⟨hr, hr1, hr2, hlen, hok⟩ := vecsCk_ok hck
 have hr3 := ringCk_ok hr
 unfold smallT
 (repeat(first|refine zA ?_|refine zB ?_|refine zE rfl (by decide) rfl ?_|refine zF ?_|refine zG ?_|refine zH ?_|refine zI ?_|refine zJ ?_|refine zK ?_|refine zL rfl ?_|refine zM rfl ?_))
 cases h1 : decide ((3 : Int) < rank)
 case true =>
  (repeat(first|refine zA ?_|refine zB ?_|refine zE rfl (by decide) rfl ?_|refine zF ?_|refine zG ?_|refine zH ?_|refine zI ?_|refine zJ ?_|refine zK ?_|refine zL rfl ?_|refine zM rfl ?_))
  exact DW.ret ⟨.inl rfl, _, rfl, Over.refl _, .same _⟩
 (repeat(first|refine zA ?_|refine zB ?_|refine zE rfl (by decide) rfl ?_|refine zF ?_|refine zG ?_|refine zH ?_|refine zI ?_|refine zJ ?_|refine zK ?_|refine zL rfl ?_|refine zM rfl ?_))
 cases h2 : decide ((4 : Int) < (l.length : Int))
 case true =>
  (repeat(first|refine zA ?_|refine zB ?_|refine zE rfl (by decide) rfl ?_|refine zF ?_|refine zG ?_|refine zH ?_|refine zI ?_|refine zJ ?_|refine zK ?_|refine zL rfl ?_|refine zM rfl ?_))
  exact DW.ret ⟨.inl rfl, _, rfl, Over.refl _, .same _⟩
 rw [Bool.or_self, Bool.not_false, Bool.true_and]
 (repeat(first|refine zA ?_|refine zB ?_|refine zE rfl (by decide) rfl ?_|refine zF ?_|refine zG ?_|refine zH ?_|refine zI ?_|refine zJ ?_|refine zK ?_|refine zL rfl ?_|refine zM rfl ?_))
 refine DW.loopI (fun k : Nat => k ≤ l.length ∧ ((l.drop k).all fun v => v.all smallP) = (l.all fun v => v.all smallP)) (fun k => [(1, I rank), (2, vcsD l), (8, I k)]) (fun _ => H) (fun k => l.length - k) 0 ⟨Nat.zero_le _, rfl⟩ rfl ⟨rfl, rfl, rfl, trivial⟩ fun k ⟨hk, hg⟩ => ?_
 (repeat(first|refine zA ?_|refine zB ?_|refine zE rfl (by decide) rfl ?_|refine zF ?_|refine zG ?_|refine zH ?_|refine zI ?_|refine zJ ?_|refine zK ?_|refine zL rfl ?_|refine zM rfl ?_))
 refine DW.cond rfl (fun hb => ?_) (fun hb => ?_)
 ·have hlt : k < l.length := by have := of_decide_eq_true hb; omega
  clear hb
  have hvk := hok _ (List.getElem_mem hlt)
  have hvl := hvk.len
  rw [all_drop hlt] at hg
  (repeat(first|refine zA ?_|refine zB ?_|refine zE rfl (by decide) rfl ?_|refine zF ?_|refine zG ?_|refine zH ?_|refine zI ?_|refine zJ ?_|refine zK ?_|refine zL rfl ?_|refine zM rfl ?_))
  refine DW.loopI (fun j : Nat => j ≤ l[k].length ∧ ((l[k].drop j).all smallP) = (l[k].all smallP)) (fun j => [(1, I rank), (2, vcsD l), (8, I k), (9, I j)]) (fun _ => H) (fun j => l[k].length - j) 0 ⟨Nat.zero_le _, rfl⟩ rfl ⟨rfl, rfl, rfl, rfl, trivial⟩ fun j ⟨hj, hgj⟩ => ?_
  (repeat(first|refine zA ?_|refine zB ?_|refine zE rfl (by decide) rfl ?_|refine zF ?_|refine zG ?_|refine zH ?_|refine zI ?_|refine zJ ?_|refine zK ?_|refine zL rfl ?_|refine zM rfl ?_))
  refine DW.cond rfl (fun hb => ?_) (fun hb => ?_)
  ·have hlj : j < l[k].length := by have := of_decide_eq_true hb; omega
   clear hb
   have hp := hvk.all _ (List.getElem_mem hlj)
   have hpl := hp.len
   rw [all_drop hlj] at hgj
   (repeat(first|refine zA ?_|refine zB ?_|refine zE rfl (by decide) rfl ?_|refine zF ?_|refine zG ?_|refine zH ?_|refine zI ?_|refine zJ ?_|refine zK ?_|refine zL rfl ?_|refine zM rfl ?_))
   cases h3 : decide ((6 : Int) < (l[k][j].length : Int))
   case true =>
    have h5 : smallP l[k][j] = false := by unfold smallP; rw [h3]; rfl
    rw [h5, Bool.false_and] at hgj
    rw [← hgj, Bool.false_and] at hg
    rw [← hg]
    (repeat(first|refine zA ?_|refine zB ?_|refine zE rfl (by decide) rfl ?_|refine zF ?_|refine zG ?_|refine zH ?_|refine zI ?_|refine zJ ?_|refine zK ?_|refine zL rfl ?_|refine zM rfl ?_))
    exact DW.ret ⟨.inl rfl, _, rfl, Over.refl _, .same _⟩
   (repeat(first|refine zA ?_|refine zB ?_|refine zE rfl (by decide) rfl ?_|refine zF ?_|refine zG ?_|refine zH ?_|refine zI ?_|refine zJ ?_|refine zK ?_|refine zL rfl ?_|refine zM rfl ?_))
   refine RO.yes rfl rfl (OpD.of_sta (sta_call rfl rfl (TopOf_pure l[k][j] (by omega) (fun t ht => (hp.ok.all t ht).mok (by omega) (by omega)) (topT_ge hp.ok) _)) ?_)
   (repeat(first|refine zA ?_|refine zB ?_|refine zE rfl (by decide) rfl ?_|refine zF ?_|refine zG ?_|refine zH ?_|refine zI ?_|refine zJ ?_|refine zK ?_|refine zL rfl ?_|refine zM rfl ?_))
   cases h4 : decide ((3 : Int) < topT l[k][j])
   case true =>
    have h5 : smallP l[k][j] = false := by unfold smallP; rw [h3, h4]; rfl
    rw [h5, Bool.false_and] at hgj
    rw [← hgj, Bool.false_and] at hg
    rw [← hg]
    (repeat(first|refine zA ?_|refine zB ?_|refine zE rfl (by decide) rfl ?_|refine zF ?_|refine zG ?_|refine zH ?_|refine zI ?_|refine zJ ?_|refine zK ?_|refine zL rfl ?_|refine zM rfl ?_))
    exact DW.ret ⟨.inl rfl, _, rfl, Over.refl _, .same _⟩
   have h5 : smallP l[k][j] = true := by unfold smallP; rw [h3, h4]; rfl
   rw [h5, Bool.true_and] at hgj
   (repeat(first|refine zA ?_|refine zB ?_|refine zE rfl (by decide) rfl ?_|refine zF ?_|refine zG ?_|refine zH ?_|refine zI ?_|refine zJ ?_|refine zK ?_|refine zL rfl ?_|refine zM rfl ?_))
   exact ⟨j + 1, ⟨hlj, hgj⟩, by dsimp only; omega, rfl, rfl, rfl, rfl, rfl, trivial⟩
  ·have hge : j = l[k].length := by have := of_decide_eq_false hb; omega
   rw [hge, List.drop_length] at hgj
   have hgj' : l[k].all smallP = true := hgj.symm
   rw [hgj', Bool.true_and] at hg
   (repeat(first|refine zA ?_|refine zB ?_|refine zE rfl (by decide) rfl ?_|refine zF ?_|refine zG ?_|refine zH ?_|refine zI ?_|refine zJ ?_|refine zK ?_|refine zL rfl ?_|refine zM rfl ?_))
   exact ⟨k + 1, ⟨hlt, hg⟩, by dsimp only; omega, rfl, rfl, rfl, rfl, trivial⟩
 ·have hge : k = l.length := by have := of_decide_eq_false hb; omega
  rw [hge, List.drop_length] at hg
  rw [← hg]
  (repeat(first|refine zA ?_|refine zB ?_|refine zE rfl (by decide) rfl ?_|refine zF ?_|refine zG ?_|refine zH ?_|refine zI ?_|refine zJ ?_|refine zK ?_|refine zL rfl ?_|refine zM rfl ?_))
  exact DW.ret ⟨.inl rfl, _, rfl, Over.refl _, .same _⟩

theorem CheckHilbert_pure (r : Rg) (gs : List Int) (l : List Vc) (hgl : gs.length ≤ 4611686018427387904) (hl : l.length ≤ 4611686018427387904) (hv : ∀ v ∈ l, v.length ≤ 4611686018427387904 ∧ ∀ f ∈ v, f.length ≤ 4611686018427387904) : Pure Tryz.prog 7 [rgD r, intsD gs, vcsD l] (I (hilCk r gs l)) := by
 intro H
 refine PureH.of_body Tryz.func7 rfl (by decide) (Nat.le_of_ble_eq_true rfl) fun w0 => ?_
 unfold hilCk
 (repeat(first|refine zA ?_|refine zB ?_|refine zE rfl (by decide) rfl ?_|refine zF ?_|refine zG ?_|refine zH ?_|refine zI ?_|refine zJ ?_|refine zK ?_|refine zL rfl ?_|refine zM rfl ?_))
 refine RO.sta (sta_call rfl rfl (CheckBasis_pure r gs.length l hl hv _)) rfl ?_
 (repeat(first|refine zA ?_|refine zB ?_|refine zE rfl (by decide) rfl ?_|refine zF ?_|refine zG ?_|refine zH ?_|refine zI ?_|refine zJ ?_|refine zK ?_|refine zL rfl ?_|refine zM rfl ?_))
 by_cases hck : basCk r gs.length l = 0
 case neg =>
  rw [if_neg hck, show (basCk r gs.length l != 0) = true by simpa using hck]
  (repeat(first|refine zA ?_|refine zB ?_|refine zE rfl (by decide) rfl ?_|refine zF ?_|refine zG ?_|refine zH ?_|refine zI ?_|refine zJ ?_|refine zK ?_|refine zL rfl ?_|refine zM rfl ?_))
  exact DW.ret ⟨.inl rfl, _, rfl, Over.refl _, .same _⟩
 rw [if_pos hck, show (basCk r gs.length l != 0) = false by simpa using hck]
 obtain ⟨hvc, hsm⟩ := basCk_ok hck
 obtain ⟨hr, hr1, hr2, hlen, hok⟩ := vecsCk_ok hvc
 have hr3 := ringCk_ok hr
 obtain ⟨hk3, hl4, hsm2⟩ := smallT_ok hsm
 (repeat(first|refine zA ?_|refine zB ?_|refine zE rfl (by decide) rfl ?_|refine zF ?_|refine zG ?_|refine zH ?_|refine zI ?_|refine zJ ?_|refine zK ?_|refine zL rfl ?_|refine zM rfl ?_))
 refine DW.loopI (fun k : Nat => k ≤ gs.length ∧ ((gs.drop k).any badD) = gs.any badD) (fun k => [(1, intsD gs), (2, vcsD l), (8, I k)]) (fun _ => H) (fun k => gs.length - k) 0 ⟨Nat.zero_le _, rfl⟩ rfl ⟨rfl, rfl, rfl, trivial⟩ fun k ⟨hk, hg⟩ => ?_
 (repeat(first|refine zA ?_|refine zB ?_|refine zE rfl (by decide) rfl ?_|refine zF ?_|refine zG ?_|refine zH ?_|refine zI ?_|refine zJ ?_|refine zK ?_|refine zL rfl ?_|refine zM rfl ?_))
 refine DW.cond rfl (fun hb => ?_) (fun hb => ?_)
 ·have hlt : k < gs.length := by have := of_decide_eq_true hb; omega
  clear hb
  rw [List.drop_eq_getElem_cons hlt, List.any_cons] at hg
  (repeat(first|refine zA ?_|refine zB ?_|refine zE rfl (by decide) rfl ?_|refine zF ?_|refine zG ?_|refine zH ?_|refine zI ?_|refine zJ ?_|refine zK ?_|refine zL rfl ?_|refine zM rfl ?_))
  refine RO.sta (sta_call rfl rfl (between_pure gs[k] 0 6 _)) rfl ?_
  (repeat(first|refine zA ?_|refine zB ?_|refine zE rfl (by decide) rfl ?_|refine zF ?_|refine zG ?_|refine zH ?_|refine zI ?_|refine zJ ?_|refine zK ?_|refine zL rfl ?_|refine zM rfl ?_))
  have hbt : (decide ((0 : Int) ≤ gs[k]) && decide (gs[k] ≤ 6)) = !badD gs[k] := by
   unfold badD
   by_cases h1 : gs[k] < 0 <;> by_cases h2 : (6 : Int) < gs[k] <;> simp [h1, h2] <;> omega
  rw [hbt]
  cases h4 : badD gs[k]
  case true =>
   rw [h4, Bool.true_or] at hg
   rw [← hg, if_pos rfl]
   (repeat(first|refine zA ?_|refine zB ?_|refine zE rfl (by decide) rfl ?_|refine zF ?_|refine zG ?_|refine zH ?_|refine zI ?_|refine zJ ?_|refine zK ?_|refine zL rfl ?_|refine zM rfl ?_))
   exact DW.ret ⟨.inl rfl, _, rfl, Over.refl _, .same _⟩
  rw [h4, Bool.false_or] at hg
  (repeat(first|refine zA ?_|refine zB ?_|refine zE rfl (by decide) rfl ?_|refine zF ?_|refine zG ?_|refine zH ?_|refine zI ?_|refine zJ ?_|refine zK ?_|refine zL rfl ?_|refine zM rfl ?_))
  exact ⟨k + 1, ⟨hlt, hg⟩, by dsimp only; omega, rfl, rfl, rfl, rfl, trivial⟩
 have hge : k = gs.length := by have := of_decide_eq_false hb; omega
 clear hb
 rw [hge, List.drop_length] at hg
 have hbd : gs.any badD = false := hg.symm
 have hgs : ∀ g ∈ gs, 0 ≤ g ∧ g ≤ 6 := fun g hg => by
  rw [List.any_eq_false] at hbd
  have := hbd g hg
  unfold badD at this
  simp only [Bool.or_eq_true, decide_eq_true_eq, not_or] at this
  omega
 rw [hbd, if_neg (by decide)]
 (repeat(first|refine zA ?_|refine zB ?_|refine zE rfl (by decide) rfl ?_|refine zF ?_|refine zG ?_|refine zH ?_|refine zI ?_|refine zJ ?_|refine zK ?_|refine zL rfl ?_|refine zM rfl ?_))
 refine DW.loopI (fun k : Nat => k ≤ l.length ∧ ((l.drop k).any fun v => (sameT gs v).2 == 4) = (l.any fun v => (sameT gs v).2 == 4)) (fun k => [(1, intsD gs), (2, vcsD l), (9, I k)]) (fun _ => H) (fun k => l.length - k) 0 ⟨Nat.zero_le _, rfl⟩ rfl ⟨rfl, rfl, rfl, trivial⟩ fun k ⟨hk, hg⟩ => ?_
 (repeat(first|refine zA ?_|refine zB ?_|refine zE rfl (by decide) rfl ?_|refine zF ?_|refine zG ?_|refine zH ?_|refine zI ?_|refine zJ ?_|refine zK ?_|refine zL rfl ?_|refine zM rfl ?_))
 refine DW.cond rfl (fun hb => ?_) (fun hb => ?_)
 ·have hlt : k < l.length := by have := of_decide_eq_true hb; omega
  clear hb
  have hvk := hok _ (List.getElem_mem hlt)
  rw [List.drop_eq_getElem_cons hlt, List.any_cons] at hg
  (repeat(first|refine zA ?_|refine zB ?_|refine zE rfl (by decide) rfl ?_|refine zF ?_|refine zG ?_|refine zH ?_|refine zI ?_|refine zJ ?_|refine zK ?_|refine zL rfl ?_|refine zM rfl ?_))
  refine RO.sta (sta_call rfl rfl (VDegree_pure gs l[k] (by have := hvk.len; omega) (by have := hvk.len; omega) (fun g hg => by have := hgs g hg; omega) (fun f hf => ⟨by have := (hvk.all f hf).len; omega, fun t ht => ((hvk.all f hf).ok.all t ht).mok (by omega) (by omega)⟩) _)) rfl ?_
  (repeat(first|refine zA ?_|refine zB ?_|refine zE rfl (by decide) rfl ?_|refine zF ?_|refine zG ?_|refine zH ?_|refine zI ?_|refine zJ ?_|refine zK ?_|refine zL rfl ?_|refine zM rfl ?_))
  cases h4 : ((sameT gs l[k]).2 == 4)
  case true =>
   rw [h4, Bool.true_or] at hg
   rw [← hg, if_pos rfl]
   have h5 : (sameT gs l[k]).2 = 4 := by simpa using h4
   (repeat(first|refine zA ?_|refine zB ?_|refine zE rfl (by decide) rfl ?_|refine zF ?_|refine zG ?_|refine zH ?_|refine zI ?_|refine zJ ?_|refine zK ?_|refine zL rfl ?_|refine zM rfl ?_))
   rw [h5]
   exact DW.ret ⟨.inl rfl, _, rfl, Over.refl _, .same _⟩
  rw [h4, Bool.false_or] at hg
  (repeat(first|refine zA ?_|refine zB ?_|refine zE rfl (by decide) rfl ?_|refine zF ?_|refine zG ?_|refine zH ?_|refine zI ?_|refine zJ ?_|refine zK ?_|refine zL rfl ?_|refine zM rfl ?_))
  exact ⟨k + 1, ⟨hlt, hg⟩, by dsimp only; omega, rfl, rfl, rfl, rfl, trivial⟩
 ·have hge : k = l.length := by have := of_decide_eq_false hb; omega
  rw [hge, List.drop_length] at hg
  rw [← hg]
  (repeat(first|refine zA ?_|refine zB ?_|refine zE rfl (by decide) rfl ?_|refine zF ?_|refine zG ?_|refine zH ?_|refine zI ?_|refine zJ ?_|refine zK ?_|refine zL rfl ?_|refine zM rfl ?_))
  exact DW.ret ⟨.inl rfl, _, rfl, Over.refl _, .same _⟩
end
section
open Go.RowKit

theorem rowDeg_is {g : Int} : ∀ {f : Pl} {d d' : Int}, (∀ t ∈ f, 0 ≤ g + t.e.sum) → rowDeg g d f = some d' → (∀ t ∈ f, g + t.e.sum = d') ∧ (0 ≤ d → d' = d) ∧ (d' = d ∨ ∃ t ∈ f, g + t.e.sum = d')
 | [], d, d', _, h => by
  unfold rowDeg at h
  cases h
  exact ⟨fun t ht => (by cases ht), fun _ => rfl, .inl rfl⟩
 | t :: f, d, d', h0, h => by
  unfold rowDeg at h
  split at h
  ·cases h
  ·rename_i hc
   have ht0 := h0 t (by simp)
   obtain ⟨h1, h2, h3⟩ := rowDeg_is (fun u hu => h0 u (by simp [hu])) h
   have h4 := h2 ht0
   refine ⟨fun u hu => ?_, fun hd => ?_, .inr ⟨t, by simp, h4.symm⟩⟩
   ·rcases List.mem_cons.1 hu with rfl | hu
    ·exact h4.symm
    ·exact h1 u hu
   ·by_cases hne : g + t.e.sum = d
    ·omega
    ·exact absurd ⟨hd, hne⟩ hc

theorem degGo_is : ∀ {gs : List Int} {v : Vc} {d d' : Int}, gs.length = v.length → (∀ (i : Nat) (h1 : i < gs.length) (h2 : i < v.length), ∀ t ∈ v[i], 0 ≤ gs[i] + t.e.sum) → degGo gs d v = some d' →
  (∀ (i : Nat) (h1 : i < gs.length) (h2 : i < v.length), ∀ t ∈ v[i], gs[i] + t.e.sum = d') ∧ (0 ≤ d → d' = d) ∧ (d' = d ∨ ∃ (i : Nat) (h1 : i < gs.length) (h2 : i < v.length), ∃ t ∈ v[i], gs[i] + t.e.sum = d')
 | [], [], d, d', _, _, h => by
  unfold degGo at h
  cases h
  exact ⟨fun i h1 => (by simp at h1), fun _ => rfl, .inl rfl⟩
 | g :: gs, f :: v, d, d', hl, h0, h => by
  unfold degGo at h
  cases hr : rowDeg g d f with
  | none => rw [hr] at h; cases h
  | some d1 =>
   rw [hr] at h
   obtain ⟨a1, a2, a3⟩ := rowDeg_is (fun t ht => h0 0 (by simp) (by simp) t (by simpa using ht)) hr
   obtain ⟨b1, b2, b3⟩ := degGo_is (gs := gs) (v := v) (by simpa using hl) (fun i h1 h2 t ht => h0 (i + 1) (by simp; omega) (by simp; omega) t (by simpa using ht)) h
   have hd1 : ∀ t ∈ f, 0 ≤ d1 := fun t ht => by
    have := h0 0 (by simp) (by simp) t (by simpa using ht)
    have := a1 t ht
    simp at *
    omega
   refine ⟨fun i h1 h2 t ht => ?_, fun hd => ?_, ?_⟩
   ·match i with
    | 0 =>
     have ht' : t ∈ f := by simpa using ht
     have := a1 t ht'
     have := b2 (hd1 t ht')
     simp
     omega
    | i + 1 => exact b1 i (by simpa using h1) (by simpa using h2) t (by simpa using ht)
   ·have := a2 hd
    have := b2 (by omega)
    omega
   ·rcases b3 with h3 | ⟨i, h1, h2, t, ht, h3⟩
    ·rcases a3 with h4 | ⟨t, ht, h4⟩
     ·exact .inl (h3.trans h4)
     ·exact .inr ⟨0, by simp, by simp, t, by simpa using ht, by simp; omega⟩
    ·exact .inr ⟨i + 1, by simp; omega, by simp; omega, t, by simpa using ht, by simpa using h3⟩

def dgO (gs : List Int) (v : Vc) : Int := max 0 ((degGo gs (-1) v).getD 0)

def gsF (gs : List Int) (i : Nat) : Int := gs.getD i 0

theorem hilCk_ok {r : Rg} {gs : List Int} {l : List Vc} (h : hilCk r gs l = 0) : basCk r gs.length l = 0 ∧ (∀ g ∈ gs, 0 ≤ g ∧ g ≤ 6) ∧ ∀ v ∈ l, (sameT gs v).2 ≠ 4 := by
 unfold hilCk at h
 split at h
 ·rename_i h1
  split at h
  ·cases h
  ·rename_i h2
   split at h
   ·cases h
   ·rename_i h3
    refine ⟨h1, fun g hg => ?_, fun v hv h4 => h3 (List.any_eq_true.2 ⟨v, hv, by simpa using h4⟩)⟩
    have : ¬ badD g = true := fun hb => h2 (List.any_eq_true.2 ⟨g, hg, hb⟩)
    unfold badD at this
    simp only [Bool.or_eq_true, decide_eq_true_eq, not_or] at this
    omega
 ·rename_i h1
  exact absurd h h1

theorem hil_lst {r : Rg} {gs : List Int} {l : List Vc} (h : hilCk r gs l = 0) : Lst r gs.length (gsF gs) (fun i => dgO gs (l.getD i [])) l ∧ 1 ≤ gs.length := by
 obtain ⟨h1, hgs, hsame⟩ := hilCk_ok h
 obtain ⟨hvc, hsm⟩ := basCk_ok h1
 obtain ⟨hr, hr1, hr2, hlen, hok⟩ := vecsCk_ok hvc
 have hr3 := ringCk_ok hr
 obtain ⟨hk3, hl4, hsm2⟩ := smallT_ok hsm
 have hg0 : ∀ i, 0 ≤ gsF gs i ∧ gsF gs i ≤ 6 := fun i => by
  unfold gsF
  rw [List.getD_eq_getElem?_getD]
  cases hx : gs[i]? with
  | none => simp
  | some g => exact hgs g (List.mem_of_getElem? hx)
 have hdeg : ∀ v ∈ l, ∀ f ∈ v, ∀ t ∈ f, 0 ≤ t.e.sum ∧ t.e.sum ≤ 3 := fun v hv f hf t ht => by
  have hp := (hok v hv).all f hf
  have := topT_ge hp.ok t ht
  have := (hsm2 v hv f hf).2
  exact ⟨(((hp.ok.all t ht).mok (by omega) (by omega)).sum).1, by omega⟩
 have hvec : ∀ v ∈ l, HV r gs.length (gsF gs) (dgO gs v) v ∧ dgO gs v ≤ 9 := fun v hv => by
  have hvl : v.length = gs.length := by have := (hok v hv).len; simpa using this
  have hs := hsame v hv
  cases hd : degGo gs (-1) v with
  | none => unfold sameT at hs; rw [hd] at hs; exact absurd rfl hs
  | some d' =>
   obtain ⟨b1, _, b3⟩ := degGo_is (by omega) (fun i g1 g2 t ht => by
    have a1 := hgs _ (List.getElem_mem g1)
    have a2 := hdeg v hv _ (List.getElem_mem g2) t ht
    omega) hd
   have hmx : dgO gs v = max 0 d' := by unfold dgO; rw [hd]; rfl
   have h9 : d' ≤ 9 := by
    rcases b3 with h3 | ⟨i, g1, g2, t, ht, h3⟩
    ·omega
    ·have a1 := hgs _ (List.getElem_mem g1)
     have a2 := hdeg v hv _ (List.getElem_mem g2) t ht
     omega
   refine ⟨⟨by omega, hvl, fun i hi => ?_, fun i hi t ht => ?_⟩, by omega⟩
   ·exact ((hok v hv).all _ (List.getElem_mem hi)).ok.mono (Int.le_refl 1) (by omega)
   ·have hi2 : i < gs.length := by omega
    have e := b1 i hi2 hi t ht
    have a1 := hgs _ (List.getElem_mem hi2)
    have a2 := hdeg v hv _ (List.getElem_mem hi) t ht
    have : gsF gs i = gs[i] := by unfold gsF; exact getD_lt hi2
    omega
 refine ⟨⟨hr, by omega, hl4, fun i => (hg0 i).1, fun i _ => (hg0 i).2, fun i => by unfold dgO; omega, fun i hi => ?_, fun i hi => ?_, fun i hi f hf t ht => (hdeg _ (List.getElem_mem hi) f hf t ht).2⟩, by omega⟩
 ·rw [getD_lt hi]
  exact (hvec _ (List.getElem_mem hi)).2
 ·rw [getD_lt hi]
  exact (hvec _ (List.getElem_mem hi)).1
end
section
open Go.RowKit
set_option maxHeartbeats 8000000

def ldsT (r : Rg) (k : Nat) (l : List Vc) : List (List (List Int)) := leadsT k (rawL r k l)

theorem ldsT_len (r : Rg) (k : Nat) (l : List Vc) : (ldsT r k l).length = k := leadsT_len _ _

structure LdsOk (n k : Nat) (ls : List (List (List Int))) : Prop where
 len : ls.length = k
 each : ∀ (i : Nat) (h : i < ls.length), ls[i].length ≤ 2844664 ∧ ∀ e ∈ ls[i], ME n e

theorem ldsT_ok {r : Rg} {k : Nat} {δ d : Nat → Int} {l : List Vc} (h : Lst r k δ d l) : LdsOk r.n.toNat k (ldsT r k l) := by
 have hraw := h.raw
 refine ⟨ldsT_len r k l, fun i hi => ?_⟩
 rw [ldsT_len] at hi
 have hg : (ldsT r k l).getD i [] = (ldsT r k l)[i]'(by rw [ldsT_len]; exact hi) := getD_lt (by rw [ldsT_len]; exact hi)
 rw [← hg]
 unfold ldsT
 refine ⟨?_, ?_⟩
 ·have := leads_row (k := k) (ms := rawL r k l) hi
  have := hraw.len
  omega
 ·rw [leadsT_get k _ i hi]
  intro e he
  obtain ⟨x, hx, rfl⟩ := List.mem_map.1 he
  exact ((hraw.ok x (List.mem_filter.1 hx).1).1.ld h.cx).2.2

def totU (gs : List Int) (ls : List (List (List Int))) : Nat → List Int
 | 0 => []
 | i + 1 => plusT (totU gs ls i) (numT (ls.getD i [])) 1 (gs.getD i 0).toNat

theorem totU_len {n k : Nat} {gs : List Int} {ls : List (List (List Int))} (h : LdsOk n k ls) (hg : ∀ g ∈ gs, 0 ≤ g ∧ g ≤ 6) : ∀ i, i ≤ k → (totU gs ls i).length ≤ 30000000000
 | 0, _ => by simp [totU]
 | i + 1, hi => by
  have ih := totU_len h hg i (by omega)
  have hil : i < ls.length := by rw [h.len]; omega
  obtain ⟨h1, h2⟩ := h.each i hil
  have h3 := numT_len h2
  have h4 := plusT_len (totU gs ls i) (numT (ls.getD i [])) 1 (gs.getD i 0).toNat
  rw [getD_lt hil] at h4
  have h5 : (gs.getD i 0).toNat ≤ 6 := by
   rw [List.getD_eq_getElem?_getD]
   cases hx : gs[i]? with
   | none => simp
   | some g => have := hg g (List.mem_of_getElem? hx); simp; omega
  show (plusT (totU gs ls i) (numT (ls.getD i [])) 1 (gs.getD i 0).toNat).length ≤ _
  rw [getD_lt hil]
  omega

def trimT (a : List Int) : List Int := (a.reverse.dropWhile (· == 0)).reverse

theorem trimT_zero (a : List Int) : trimT (a ++ [0]) = trimT a := by simp [trimT]
theorem trimT_stop (a : List Int) {x : Int} (h : x ≠ 0) : trimT (a ++ [x]) = a ++ [x] := by simp [trimT, h]

def numA (r : Rg) (gs : List Int) (l : List Vc) : List Int := if hilCk r gs l = 0 then trimT (totU gs (ldsT r gs.length l) gs.length) else []

theorem Numerator_pure (r : Rg) (gs : List Int) (l : List Vc) (hgl : gs.length ≤ 4611686018427387904) (hl : l.length ≤ 4611686018427387904) (hv : ∀ v ∈ l, v.length ≤ 4611686018427387904 ∧ ∀ f ∈ v, f.length ≤ 4611686018427387904) : Pure Tryz.prog 12 [rgD r, intsD gs, vcsD l] (.tup [intsD (numA r gs l), I (hilCk r gs l)]) := by
 intro H
 refine PureH.of_body Tryz.func12 rfl (by decide) (Nat.le_of_ble_eq_true rfl) fun w0 => ?_
 unfold numA
 (repeat(first|refine zA ?_|refine zB ?_|refine zE rfl (by decide) rfl ?_|refine zF ?_|refine zG ?_|refine zH ?_|refine zI ?_|refine zJ ?_|refine zK ?_|refine zL rfl ?_|refine zM rfl ?_))
 refine RO.sta (sta_call rfl rfl (hilCheck_pure r gs l hgl hl hv _)) rfl ?_
 (repeat(first|refine zA ?_|refine zB ?_|refine zE rfl (by decide) rfl ?_|refine zF ?_|refine zG ?_|refine zH ?_|refine zI ?_|refine zJ ?_|refine zK ?_|refine zL rfl ?_|refine zM rfl ?_))
 by_cases hck : hilCk r gs l = 0
 case neg =>
  rw [if_neg hck, show (hilCk r gs l != 0) = true by simpa using hck]
  (repeat(first|refine zA ?_|refine zB ?_|refine zE rfl (by decide) rfl ?_|refine zF ?_|refine zG ?_|refine zH ?_|refine zI ?_|refine zJ ?_|refine zK ?_|refine zL rfl ?_|refine zM rfl ?_))
  exact DW.ret ⟨.inl rfl, _, rfl, Over.refl _, .tup2 (.nil 1) (.same _)⟩
 rw [if_pos hck, show (hilCk r gs l != 0) = false by simpa using hck]
 obtain ⟨hlst, hk1⟩ := hil_lst hck
 obtain ⟨_, hgs, _⟩ := hilCk_ok hck
 have hk3 := hlst.k3
 have hlds := ldsT_ok hlst
 have hkl := hlds.len
 (repeat(first|refine zA ?_|refine zB ?_|refine zE rfl (by decide) rfl ?_|refine zF ?_|refine zG ?_|refine zH ?_|refine zI ?_|refine zJ ?_|refine zK ?_|refine zL rfl ?_|refine zM rfl ?_))
 refine RO.sta (sta_call rfl rfl (leads_pure hlst _)) rfl ?_
 rw [show leadsT gs.length (rawL r gs.length l) = ldsT r gs.length l from rfl, hck]
 generalize hls : ldsT r gs.length l = ls at *
 (repeat(first|refine zA ?_|refine zB ?_|refine zE rfl (by decide) rfl ?_|refine zF ?_|refine zG ?_|refine zH ?_|refine zI ?_|refine zJ ?_|refine zK ?_|refine zL rfl ?_|refine zM rfl ?_))
 refine DW.loopG (fun z : Nat × D => z.1 ≤ ls.length ∧ ((z.2 = .nil ∧ z.1 = 0) ∨ z.2 = intsD (totU gs ls z.1))) (fun z => [(1, intsD gs), (9, z.2), (23, leadsD ls), (24, I ls.length), (25, I z.1)]) (fun _ => H) (fun z => ls.length - z.1) (0, .nil)
  ⟨Nat.zero_le _, .inl ⟨rfl, rfl⟩⟩ (Heap.sub_refl _) (by repeat first | exact trivial | refine HasG.one rfl ?_ | refine HasN.one rfl ?_) fun ⟨i, di⟩ ⟨hi, hdi⟩ => ?_
 dsimp only at hi hdi ⊢
 (repeat(first|refine zA ?_|refine zB ?_|refine zE rfl (by decide) rfl ?_|refine zF ?_|refine zG ?_|refine zH ?_|refine zI ?_|refine zJ ?_|refine zK ?_|refine zL rfl ?_|refine zM rfl ?_))
 refine DW.cond rfl (fun hb => ?_) (fun hb => ?_)
 ·have hlt : i < ls.length := by have := of_decide_eq_true hb; omega
  clear hb
  have hlg : i < gs.length := by omega
  obtain ⟨he1, he2⟩ := hlds.each i hlt
  have htl := totU_len hlds hgs i (by omega)
  have hnl := numT_len he2
  have hgi := hgs _ (List.getElem_mem hlg)
  have hfar : I gs[i] = I ((gs[i].toNat : Nat) : Int) := by rw [show ((gs[i].toNat : Nat) : Int) = gs[i] by omega]
  have hnum := fun H' => numerator_pure (n := r.n.toNat) ls[i].length ls[i] (Nat.le_refl _) (by omega) he2 H'
  have hplus : ∀ H', PureH Tryz.prog H' 30 [di, intsD (numT ls[i]), I 1, I ((gs[i].toNat : Nat) : Int)] (intsD (totU gs ls (i + 1))) := fun H' => by
   have e : totU gs ls (i + 1) = plusT (totU gs ls i) (numT ls[i]) 1 gs[i].toNat := by
    show plusT (totU gs ls i) (numT (ls.getD i [])) 1 (gs.getD i 0).toNat = _
    rw [getD_lt hlt, getD_lt hlg]
   rw [e]
   have hp := plus_pure (a := totU gs ls i) (b := numT ls[i]) 1 gs[i].toNat (by omega) (by omega) (by omega) H'
   rcases hdi with ⟨rfl, rfl⟩ | rfl
   ·exact PureH.nilAt 0 1 hp rfl
   ·exact hp
  (repeat(first|refine zA ?_|refine zB ?_|refine zE rfl (by decide) rfl ?_|refine zF ?_|refine zG ?_|refine zH ?_|refine zI ?_|refine zJ ?_|refine zK ?_|refine zL rfl ?_|refine zM rfl ?_))
  refine DW.drawS 8 Tryz.mixed (by kernel_rfl) (by decide) ?_
  dsimp only [List.take, List.drop]
  (repeat(first|refine zN ?_|refine zO ?_|refine zR rfl (by decide) rfl ?_|refine zS ?_))
  refine RS.sta (fun H' hov => sta_call rfl rfl (hnum H')) rfl ?_
  (repeat(first|refine zN ?_|refine zO ?_|refine zR rfl (by decide) rfl ?_|refine zS ?_))
  rw [hfar]
  refine RS.sta (fun H' hov => sta_call rfl rfl (hplus H')) rfl ?_
  (repeat(first|refine zN ?_|refine zO ?_|refine zR rfl (by decide) rfl ?_|refine zS ?_))
  (repeat(first|refine zA ?_|refine zB ?_|refine zE rfl (by decide) rfl ?_|refine zF ?_|refine zG ?_|refine zH ?_|refine zI ?_|refine zJ ?_|refine zK ?_|refine zL rfl ?_|refine zM rfl ?_))
  exact ⟨(i + 1, intsD (totU gs ls (i + 1))), ⟨hlt, .inr rfl⟩, by dsimp only; omega, Heap.sub_refl _, (by repeat first | exact trivial | refine HasG.one rfl ?_ | refine HasN.one rfl ?_)⟩
 ·have hie : i = ls.length := by have := of_decide_eq_false hb; omega
  subst hie
  clear hb
  have hdi2 : di = intsD (totU gs ls ls.length) := hdi.resolve_left fun h => by omega
  subst hdi2
  have htl := totU_len hlds hgs ls.length (by omega)
  rw [← hkl]
  generalize hU : totU gs ls ls.length = U at *
  (repeat(first|refine zA ?_|refine zB ?_|refine zE rfl (by decide) rfl ?_|refine zF ?_|refine zG ?_|refine zH ?_|refine zI ?_|refine zJ ?_|refine zK ?_|refine zL rfl ?_|refine zM rfl ?_))
  refine DW.loopG (fun a : List Int => trimT a = trimT U ∧ a.length ≤ U.length) (fun a => [(9, intsD a)]) (fun _ => H) (fun a => a.length) U ⟨rfl, Nat.le_refl _⟩ (Heap.sub_refl _) (by repeat first | exact trivial | refine HasG.one rfl ?_ | refine HasN.one rfl ?_) fun a ⟨ha, hal⟩ => ?_

  rcases List.eq_nil_or_concat a with rfl | ⟨a', x, rfl⟩
  ·have h0 : trimT U = [] := by rw [← ha]; rfl
   rw [h0]
   (repeat(first|refine zA ?_|refine zB ?_|refine zE rfl (by decide) rfl ?_|refine zF ?_|refine zG ?_|refine zH ?_|refine zI ?_|refine zJ ?_|refine zK ?_|refine zL rfl ?_|refine zM rfl ?_))
   exact DW.ret ⟨.inl rfl, _, rfl, Over.refl _, .same _⟩
  ·rw [List.concat_eq_append] at ha hal ⊢
   have hlen : (a' ++ [x]).length = a'.length + 1 := by simp
   have hz : ((a' ++ [x]).length : Int) - 1 = a'.length := by rw [hlen]; omega
   have hpos : decide ((0 : Int) < ((a' ++ [x]).length : Int)) = true := by rw [hlen]; simp
   have hs : (((a' ++ [x]).map I).take a'.length).drop 0 = a'.map I := by simp
   (repeat(first|refine zA ?_|refine zB ?_|refine zE rfl (by decide) rfl ?_|refine zF ?_|refine zG ?_|refine zH ?_|refine zI ?_|refine zJ ?_|refine zK ?_|refine zL rfl ?_|refine zM rfl ?_))
   rw [hpos]
   (repeat(first|refine zA ?_|refine zB ?_|refine zE rfl (by decide) rfl ?_|refine zF ?_|refine zG ?_|refine zH ?_|refine zI ?_|refine zJ ?_|refine zK ?_|refine zL rfl ?_|refine zM rfl ?_))
   rw [hz]
   refine RO.yes rfl rfl (OpD.of_sta (s_index (i := a'.length) rfl rfl (by simp)) ?_)
   refine RO.yes rfl rfl (OpD.of_sta (s_load (d := I x) rfl (by simp [cellAt, cellsOf])) ?_)
   by_cases hx : x = 0
   ·subst hx
    rw [trimT_zero] at ha
    (repeat(first|refine zA ?_|refine zB ?_|refine zE rfl (by decide) rfl ?_|refine zF ?_|refine zG ?_|refine zH ?_|refine zI ?_|refine zJ ?_|refine zK ?_|refine zL rfl ?_|refine zM rfl ?_))
    rw [hz]
    refine RO.sta (s_slice (a := 0) (b := a'.length) rfl rfl (boundD_eq rfl rfl) (Nat.zero_le _) (by simp)) rfl ?_
    rw [hs]
    (repeat(first|refine zA ?_|refine zB ?_|refine zE rfl (by decide) rfl ?_|refine zF ?_|refine zG ?_|refine zH ?_|refine zI ?_|refine zJ ?_|refine zK ?_|refine zL rfl ?_|refine zM rfl ?_))
    exact ⟨a', ⟨ha, by rw [hlen] at hal; omega⟩, by dsimp only; rw [hlen]; omega, Heap.sub_refl _, (by repeat first | exact trivial | refine HasG.one rfl ?_ | refine HasN.one rfl ?_)⟩
   ·rw [trimT_stop a' hx] at ha
    rw [← ha]
    have hxb : (x == 0) = false := by simpa using hx
    (repeat(first|refine zA ?_|refine zB ?_|refine zE rfl (by decide) rfl ?_|refine zF ?_|refine zG ?_|refine zH ?_|refine zI ?_|refine zJ ?_|refine zK ?_|refine zL rfl ?_|refine zM rfl ?_))
    rw [hxb]
    (repeat(first|refine zA ?_|refine zB ?_|refine zE rfl (by decide) rfl ?_|refine zF ?_|refine zG ?_|refine zH ?_|refine zI ?_|refine zJ ?_|refine zK ?_|refine zL rfl ?_|refine zM rfl ?_))
    exact DW.ret ⟨.inl rfl, _, rfl, Over.refl _, .same _⟩
end
end Go.Proofs.YtfjmdhemlfafbaaGreat
