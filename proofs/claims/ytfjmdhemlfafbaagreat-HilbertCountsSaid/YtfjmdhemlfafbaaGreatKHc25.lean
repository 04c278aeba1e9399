/-
  slices.SortFunc of no members. No condition.
-/
import Derived.Test.YtfjmdhemlfafbaaGreatKHc24
import Derived.Test.YtfjmdhemlfafbaaGreatKHc9
import Derived.Test.YtfjmdhemlfafbaaGreatKHc22
import Derived.Test.YtfjmdhemlfafbaaGreatKHc7
import Derived.Test.YtfjmdhemlfafbaaGreatKHc8
set_option linter.unusedVariables false
set_option linter.unusedSimpArgs false

namespace Go.Proofs.YtfjmdhemlfafbaaGreat
section
open Go.RowKit
set_option maxHeartbeats 8000000

theorem setMany_flat {cs : List (List D)} {i k : Nat} {c : List D} (hi : i < cs.length) (hk : ∀ x ∈ cs, x.length = k) (hc : c.length = k) : setMany cs.flatten (i * k) c = (cs.set i c).flatten := by
 unfold setMany
 rw [hc, show i * k + k = (i + 1) * k by rw [Nat.succ_mul], flatten_take hk i, flatten_drop hk (i + 1), List.set_eq_take_append_cons_drop, if_pos hi]
 simp

theorem mclone_call {H : Heap} {b : Nat} {nd : List Mb} (hM : H b = some (68, (nd.map mbC).flatten)) (h0 : 0 < nd.length) (hl : nd.length ≤ 1000000000) :
  CallD Tryz.prog H 72 [.ref b 0 nd.length 5] fun d H' => ∃ b3, H b3 = none ∧ d = .ref b3 0 nd.length 5 ∧ H' b3 = some (68, (nd.map mbC).flatten) ∧ Over H H' := by
 refine CallD.of_body Tryz.func72 rfl (by decide) (Nat.le_of_ble_eq_true rfl) fun w0 => ?_
 (repeat(first|refine zA ?_|refine zB ?_|refine zE rfl (by decide) rfl ?_|refine zF ?_|refine zG ?_|refine zH ?_|refine zI ?_|refine zJ ?_|refine zK ?_|refine zL rfl ?_|refine zM rfl ?_))
 refine RO.sta (s_eqNilRef rfl) rfl ?_
 (repeat(first|refine zA ?_|refine zB ?_|refine zE rfl (by decide) rfl ?_|refine zF ?_|refine zG ?_|refine zH ?_|refine zI ?_|refine zJ ?_|refine zK ?_|refine zL rfl ?_|refine zM rfl ?_))
 refine RO.dyn rfl (d_appendRef (H0 := H) (l := []) (xs := nd.map mbD) rfl (Acc.nil _ _ _ _) (Over.refl _) rfl hM (by simp) (fun j x hx => by
  rw [Nat.zero_add, ← flat_map mbC nd]; exact hx) (uni_mb nd) (by simp; omega) (by simp; omega) fun d' H' q1 q2 q3 => ?_)
 rw [List.nil_append] at q1
 obtain ⟨b3, g1, g2, g3⟩ := q1.ref (by simpa using h0)
 (repeat(first|refine zA ?_|refine zB ?_|refine zE rfl (by decide) rfl ?_|refine zF ?_|refine zG ?_|refine zH ?_|refine zI ?_|refine zJ ?_|refine zK ?_|refine zL rfl ?_|refine zM rfl ?_))
 refine DW.ret ⟨.inl rfl, _, d', H', rfl, fun _ _ h => h, .same _, b3, g1, by simpa using g2, ?_, q2⟩
 rw [g3]
 congr 2
 exact flat_map mbC nd

def SortR (r : Rg) (k : Nat) (δ : Nat → Int) (srt : List Mb → List Mb) (bm : Nat) (dp : D) : Prop :=
 ∀ (H1 : Heap) (b : Nat) (dmi : D) (nd : List Mb), H1 bm = some (83, mkCs r dmi dp) → H1 b = some (68, (nd.map mbC).flatten) → b ≠ bm → 0 < nd.length → nd.length ≤ 2844664 → Cx r k δ → (∀ x ∈ nd, MbOk r k δ x) →
  CallD Tryz.prog H1 75 [.ref b 0 nd.length 5, .fn 76 [.ipt 1 [.ptr bm 0] 0 0]] fun _ H2 => (srt nd).Perm nd ∧ H2 b = some (68, ((srt nd).map mbC).flatten) ∧ ∀ c z, c ≠ b → H1 c = some z → H2 c = some z

def Sort0 : Prop := ∀ (H1 : Heap) (f : D), CallD Tryz.prog H1 75 [.nil, f] fun _ H2 => H2 = H1

def needUp (ms : List Mb) (n : Nat) : List Mb := ((List.range n).filter fun i => !overT ms i (ms.getD i default)).map fun i => ms.getD i default

theorem needUp_succ (ms : List Mb) (n : Nat) : needUp ms (n + 1) = needUp ms n ++ if overT ms n (ms.getD n default) = true then [] else [ms.getD n default] := by
 unfold needUp
 rw [List.range_succ, List.filter_append, List.map_append]
 congr 1
 rw [List.filter_cons, List.filter_nil]
 cases h : overT ms n (ms.getD n default) <;> simp only [Bool.not_false, Bool.not_true, if_true, if_false, List.map_cons, List.map_nil, Bool.false_eq_true, reduceIte]

theorem needUp_len (ms : List Mb) (n : Nat) : (needUp ms n).length ≤ n := by
 unfold needUp
 rw [List.length_map]
 have := List.length_filter_le (fun i => !overT ms i (ms.getD i default)) (List.range n)
 rwa [List.length_range] at this

def rawT (r : Rg) (k : Nat) (srt : List Mb → List Mb) (ms : List Mb) : List Mb := srt (tidyUpto r k (neededT ms) (neededT ms).length)

theorem tidy_call {H00 H : Heap} {bm : Nat} {r : Rg} {k : Nat} {δ : Nat → Int} {m : Nat} {d : Nat → Int} {G0 : List Mb} {s : GS} {dm dp : D} (hm : MkAt H00 H bm r s.ms [] dm dp) (hg : GInv r k δ m d G0 s) {srt : List Mb → List Mb} (hsr : SortR r k δ srt bm dp) (hs0 : Sort0) (hsn : srt [] = []) :
  CallD Tryz.prog H 53 [.ptr bm 0] fun _ H' => ∃ dm', (rawT r k srt s.ms).Perm (tidyUpto r k (neededT s.ms) (neededT s.ms).length) ∧ MkAt H00 H' bm r (rawT r k srt s.ms) [] dm' dp := by
 refine CallD.of_body Tryz.func53 rfl (by decide) (Nat.le_of_ble_eq_true rfl) fun w0 => ?_
 have hc := hg.gens.cx
 have hcY := hg.cxY
 have htot := hg.total
 obtain ⟨hp2, hn3, hn1, hpr, hck⟩ := hc.rg
 have hat := hm.at_
 (repeat(first|refine zA ?_|refine zB ?_|refine zE rfl (by decide) rfl ?_|refine zF ?_|refine zG ?_|refine zH ?_|refine zI ?_|refine zJ ?_|refine zK ?_|refine zL rfl ?_|refine zM rfl ?_))
 refine RO.sta (s_nilCheck rfl) rfl ?_
 (repeat(first|refine zA ?_|refine zB ?_|refine zE rfl (by decide) rfl ?_|refine zF ?_|refine zG ?_|refine zH ?_|refine zI ?_|refine zJ ?_|refine zK ?_|refine zL rfl ?_|refine zM rfl ?_))
 refine RO.sta (s_loadMut (d := dm) rfl hat rfl) rfl ?_
 refine RO.sta (s_len rfl hm.ms.len') rfl ?_
 rw [List.length_map]
 (repeat(first|refine zA ?_|refine zB ?_|refine zE rfl (by decide) rfl ?_|refine zF ?_|refine zG ?_|refine zH ?_|refine zI ?_|refine zJ ?_|refine zK ?_|refine zL rfl ?_|refine zM rfl ?_))
 refine DW.loopG (fun z : Nat × Heap × D => z.1 ≤ s.ms.length ∧ Over H z.2.1 ∧ Acc H z.2.1 z.2.2 5 68 ((needUp s.ms z.1).map mbD) ∧ (needUp s.ms z.1 = [] → z.2.2 = .nil)) (fun z => [(1, .ipt 1 [.ptr bm 0] 0 0), (2, z.2.2), (13, dm), (14, I s.ms.length), (15, I z.1)]) (fun z => z.2.1) (fun z => s.ms.length - z.1) (0, H, .nil)
  ⟨Nat.zero_le _, Over.refl _, Acc.nil _ _ _ _, fun _ => rfl⟩ (Heap.sub_refl _) (by repeat first | exact trivial | refine HasG.one rfl ?_ | refine HasN.one rfl ?_) fun ⟨i, Hi, dn⟩ ⟨hi, hov, hacc, hnil0⟩ => ?_
 dsimp only at hi hov hacc hnil0 ⊢
 (repeat(first|refine zA ?_|refine zB ?_|refine zE rfl (by decide) rfl ?_|refine zF ?_|refine zG ?_|refine zH ?_|refine zI ?_|refine zJ ?_|refine zK ?_|refine zL rfl ?_|refine zM rfl ?_))
 refine DW.cond rfl (fun hb => ?_) (fun hb => ?_)
 ·have hlt : i < s.ms.length := by have := of_decide_eq_true hb; omega
  clear hb
  have hmi := hm.mono hov
  have hati := hmi.at_
  obtain ⟨b1, g1, g2, g3, g4⟩ := hmi.ms.rowAt (f := mbC) (fun _ => rfl) (by omega)
  obtain ⟨T2, cells, z1, z2, z3⟩ := g3
  have hcell : (cells.drop (0 + i * 5)).take 5 = mbC s.ms[i] := by rw [z3 i (by simpa using hlt)]; simp
  have hgi : s.ms.getD i default = s.ms[i] := getD_lt hlt
  subst g2
  (repeat(first|refine zA ?_|refine zB ?_|refine zE rfl (by decide) rfl ?_|refine zF ?_|refine zG ?_|refine zH ?_|refine zI ?_|refine zJ ?_|refine zK ?_|refine zL rfl ?_|refine zM rfl ?_))
  refine RO.sta (s_indexRef (i := i) rfl rfl hlt) rfl ?_
  refine RO.sta (s_loadMutAgg (ds := mbC s.ms[i]) rfl z1 hcell rfl) rfl ?_
  refine RO.dyn rfl (d_alloc fun b4 hb4 => ?_)
  (repeat(first|refine zA ?_|refine zB ?_|refine zE rfl (by decide) rfl ?_|refine zF ?_|refine zG ?_|refine zH ?_|refine zI ?_|refine zJ ?_|refine zK ?_|refine zL rfl ?_|refine zM rfl ?_))
  refine RO.dyn rfl (d_store (k := 5) rfl rfl rfl (Heap.set_self _ _ _) (Nat.le_refl _) (by simp [cellsOf, mbC, D.isCell, vcD, intsD]) ?_)
  rw [Heap.set_set]
  refine RO.nil ?_
  refine DW.asH (fun H2 => Over Hi H2 ∧ H2 b4 = some (68, mbC s.ms[i])) ⟨(Over.refl Hi).set hb4, Heap.set_self _ _ _⟩ fun H2 ⟨hov2, h4⟩ => ?_
  have hm2 := hmi.mono hov2
  have hat2 := hm2.at_
  have hrow2 : RowAt H2 b1 5 (s.ms.map mbC) := ⟨T2, cells, hov2 _ _ z1, z2, z3⟩
  have hacc2 := hacc.over' hov2
  have hxi := (hg.ok _ (List.getElem_mem hlt)).ld hc
  have hover := overM_pureH (i := i) (x := s.ms[i]) hat2 hrow2 (by omega) (fun y hy => by rw [((hg.ok y hy).ld hc).2.2.len, hxi.2.2.len]) (by rw [hxi.2.2.len]; exact hn3)
  (repeat(first|refine zA ?_|refine zB ?_|refine zE rfl (by decide) rfl ?_|refine zF ?_|refine zG ?_|refine zH ?_|refine zI ?_|refine zJ ?_|refine zK ?_|refine zL rfl ?_|refine zM rfl ?_))
  refine RO.sta (s_loadMutAgg (ds := mbC s.ms[i]) rfl h4 rfl rfl) rfl ?_
  refine RO.sta (sta_call rfl rfl hover) rfl ?_
  have hsub : Heap.sub Hi H2 := hov2
  cases ho : overT s.ms i s.ms[i] with
  | true =>
   have hnu : needUp s.ms (i + 1) = needUp s.ms i := by rw [needUp_succ, hgi, if_pos ho, List.append_nil]
   (repeat(first|refine zA ?_|refine zB ?_|refine zE rfl (by decide) rfl ?_|refine zF ?_|refine zG ?_|refine zH ?_|refine zI ?_|refine zJ ?_|refine zK ?_|refine zL rfl ?_|refine zM rfl ?_))
   exact ⟨(i + 1, Hi, dn), ⟨hlt, hov, by dsimp only; rw [hnu]; exact ⟨hacc, hnil0⟩⟩, by dsimp only; omega, hsub, (by repeat first | exact trivial | refine HasG.one rfl ?_ | refine HasN.one rfl ?_)⟩
  | false =>
   have hnu : needUp s.ms (i + 1) = needUp s.ms i ++ [s.ms[i]] := by rw [needUp_succ, hgi, if_neg (by rw [ho]; decide)]
   have hnl := needUp_len s.ms i
   (repeat(first|refine zA ?_|refine zB ?_|refine zE rfl (by decide) rfl ?_|refine zF ?_|refine zG ?_|refine zH ?_|refine zI ?_|refine zJ ?_|refine zK ?_|refine zL rfl ?_|refine zM rfl ?_))
   refine RO.sta (s_loadMutAgg (ds := mbC s.ms[i]) rfl h4 rfl rfl) rfl ?_
   refine RO.sta (s_lit1 (k := 5) (by decide) rfl rfl) rfl ?_
   refine RO.dyn rfl (d_append (H0 := H) (l := (needUp s.ms i).map mbD) (xs := [mbD s.ms[i]]) rfl hacc2 (fun c z h => hov2 c z (hov c z h)) rfl (.inl rfl) (uni_mb [_]) (by simp; omega) (by simp; omega) fun d' H' q1 q2 q3 => ?_)
   rw [← List.map_singleton, ← List.map_append, ← hnu] at q1
   (repeat(first|refine zA ?_|refine zB ?_|refine zE rfl (by decide) rfl ?_|refine zF ?_|refine zG ?_|refine zH ?_|refine zI ?_|refine zJ ?_|refine zK ?_|refine zL rfl ?_|refine zM rfl ?_))
   exact ⟨(i + 1, H', d'), ⟨hlt, q2, q1, fun h => by dsimp only at h; rw [hnu] at h; simp at h⟩, by dsimp only; omega, Heap.sub_refl _, (by repeat first | exact trivial | refine HasG.one rfl ?_ | refine HasN.one rfl ?_)⟩
 ·have hie : i = s.ms.length := by have := of_decide_eq_false hb; omega
  subst hie
  clear hb
  have hnd : needUp s.ms s.ms.length = neededT s.ms := rfl
  rw [hnd] at hacc hnil0
  have hndl : (neededT s.ms).length ≤ s.ms.length := needUp_len _ _
  have hT := hg.tidy
  have hraw : rawT r k srt s.ms = srt (tidyUpto r k (neededT s.ms) (neededT s.ms).length) := rfl
  generalize hnd2 : neededT s.ms = nd0 at *
  have hmi := hm.mono hov
  have hati := hmi.at_
  rcases hacc.is with ⟨rfl, hnil⟩ | ⟨bn, hbn, hdn, hHn⟩
  ·have hn0 : nd0 = [] := List.map_eq_nil_iff.1 hnil
   subst hn0
   (repeat(first|refine zA ?_|refine zB ?_|refine zE rfl (by decide) rfl ?_|refine zF ?_|refine zG ?_|refine zH ?_|refine zI ?_|refine zJ ?_|refine zK ?_|refine zL rfl ?_|refine zM rfl ?_))
   refine DW.loopG (fun i : Nat => i = 0) (fun i => [(1, .ipt 1 [.ptr bm 0] 0 0), (2, .nil), (31, I 0), (32, I 0)]) (fun _ => Hi) (fun _ => 0) 0 rfl (Heap.sub_refl _) (by repeat first | exact trivial | refine HasG.one rfl ?_ | refine HasN.one rfl ?_) fun i hi0 => ?_
   (repeat(first|refine zA ?_|refine zB ?_|refine zE rfl (by decide) rfl ?_|refine zF ?_|refine zG ?_|refine zH ?_|refine zI ?_|refine zJ ?_|refine zK ?_|refine zL rfl ?_|refine zM rfl ?_))
   refine RO.dyn rfl ((opD_call rfl rfl (hs0 Hi _)).mono fun dd H1 hH => ?_)
   subst hH
   (repeat(first|refine zA ?_|refine zB ?_|refine zE rfl (by decide) rfl ?_|refine zF ?_|refine zG ?_|refine zH ?_|refine zI ?_|refine zJ ?_|refine zK ?_|refine zL rfl ?_|refine zM rfl ?_))
   refine RO.sta (s_nilCheck rfl) rfl ?_
   (repeat(first|refine zA ?_|refine zB ?_|refine zE rfl (by decide) rfl ?_|refine zF ?_|refine zG ?_|refine zH ?_|refine zI ?_|refine zJ ?_|refine zK ?_|refine zL rfl ?_|refine zM rfl ?_))
   refine RO.dyn rfl (d_store (k := 1) rfl rfl rfl hati (by show 0 + 4 + 1 ≤ 6; omega) (by simp [cellsOf, D.isCell]) ?_)
   (repeat(first|refine zA ?_|refine zB ?_|refine zE rfl (by decide) rfl ?_|refine zF ?_|refine zG ?_|refine zH ?_|refine zI ?_|refine zJ ?_|refine zK ?_|refine zL rfl ?_|refine zM rfl ?_))
   rw [hraw, show tidyUpto r k [] ([] : List Mb).length = [] from rfl, hsn]
   refine ⟨.inr rfl, _, _, _, rfl, Heap.sub_refl _, .same _, .nil, .refl _, hmi.own, fun c z hc => ?_, Heap.set_self _ _ _, Acc.nil _ _ _ _, ⟨uni_pr _, ?_⟩⟩
   ·rw [Heap.set_other _ _ (fun h => by rw [h, hmi.own] at hc; cases hc)]
    exact hmi.over c z hc
   ·rcases hmi.ps.is with ⟨e1, e2⟩ | ⟨b', e1, e2, e3⟩
    ·exact .inl ⟨e1, e2⟩
    ·refine .inr ⟨b', e1, e2, ?_⟩
     rw [Heap.set_other _ _ (fun h => by have := hmi.n2; rw [e2, h] at this; exact this rfl)]
     exact e3
  ·subst hdn
   have hpos0 : 0 < nd0.length := List.length_pos_iff.2 fun h => by have := hnil0 h; cases this
   have hbnm : bn ≠ bm := fun e => by rw [e, hat] at hbn; cases hbn
   rw [show (nd0.map mbD).flatMap cellsOf = (nd0.map mbC).flatten from flat_map mbC nd0] at hHn
   rw [List.length_map]
   have hn948 : nd0.length ≤ 2844664 := by omega
   (repeat(first|refine zA ?_|refine zB ?_|refine zE rfl (by decide) rfl ?_|refine zF ?_|refine zG ?_|refine zH ?_|refine zI ?_|refine zJ ?_|refine zK ?_|refine zL rfl ?_|refine zM rfl ?_))
   refine DW.loopG (fun z : Nat × Heap × D => z.1 ≤ nd0.length ∧ z.2.1 bm = some (83, mkCs r z.2.2 dp) ∧ z.2.1 bn = some (68, ((tidyUpto r k nd0 z.1).map mbC).flatten) ∧ ∀ c x, c ≠ bm → H c = some x → z.2.1 c = some x) (fun z => [(1, .ipt 1 [.ptr bm 0] 0 0), (2, .ref bn 0 nd0.length 5), (30, .ref bn 0 nd0.length 5), (31, I nd0.length), (32, I z.1)]) (fun z => z.2.1) (fun z => nd0.length - z.1) (0, Hi, dm)
    ⟨Nat.zero_le _, hati, hHn, fun c x _ h => hov c x h⟩ (Heap.sub_refl _) (by repeat first | exact trivial | refine HasG.one rfl ?_ | refine HasN.one rfl ?_) fun ⟨i, Hj, ej⟩ ⟨hi, hmj, hnj, hkj⟩ => ?_
   dsimp only at hi hmj hnj hkj ⊢
   obtain ⟨hTi, hkeys, hlen⟩ := hT.upto i hi
   generalize hndi : tidyUpto r k nd0 i = nd at *
   (repeat(first|refine zA ?_|refine zB ?_|refine zE rfl (by decide) rfl ?_|refine zF ?_|refine zG ?_|refine zH ?_|refine zI ?_|refine zJ ?_|refine zK ?_|refine zL rfl ?_|refine zM rfl ?_))
   refine DW.cond rfl (fun hb => ?_) (fun hb => ?_)
   ·have hlt : i < nd0.length := by have := of_decide_eq_true hb; omega
    clear hb
    have hin : i < nd.length := by rw [hlen]; exact hlt
    have hts := hTi.step hin
    have hst : tidyStep r k nd i = nd.set i (mkM r (vbyT r (hdiv r k (vsOf (nd.eraseIdx i)) nd[i].v).left (oneT r nd[i])) (vbyT r (tellY r (nd.eraseIdx i) nd[i].y (hdiv r k (vsOf (nd.eraseIdx i)) nd[i].v).σ) (oneT r nd[i]))) := by
     unfold tidyStep
     rw [getD_lt hin]
    have hnx : tidyUpto r k nd0 (i + 1) = tidyStep r k nd i := by rw [← hndi]; rfl
    have hxi := (hTi.ok _ (List.getElem_mem hin)).ld hc
    have hcl : ∀ c ∈ nd.map mbC, c.length = 5 := fun c hc => by
     obtain ⟨x, _, rfl⟩ := List.mem_map.1 hc
     rfl
    have hcell : ((nd.map mbC).flatten.drop (0 + i * 5)).take 5 = mbC nd[i] := by rw [Nat.zero_add, flat_at (by simpa using hin) hcl]; simp
    rw [← hlen]
    (repeat(first|refine zA ?_|refine zB ?_|refine zE rfl (by decide) rfl ?_|refine zF ?_|refine zG ?_|refine zH ?_|refine zI ?_|refine zJ ?_|refine zK ?_|refine zL rfl ?_|refine zM rfl ?_))
    refine RO.sta (s_indexRef (i := i) rfl rfl hin) rfl ?_
    refine RO.sta (s_loadMutAgg (ds := mbC nd[i]) rfl hnj hcell rfl) rfl ?_
    refine RO.dyn rfl (d_alloc fun b6 hb6 => ?_)
    have hn6 : b6 ≠ bm := fun h => by rw [h, hmj] at hb6; cases hb6
    have hn62 : b6 ≠ bn := fun h => by rw [h, hnj] at hb6; cases hb6
    (repeat(first|refine zA ?_|refine zB ?_|refine zE rfl (by decide) rfl ?_|refine zF ?_|refine zG ?_|refine zH ?_|refine zI ?_|refine zJ ?_|refine zK ?_|refine zL rfl ?_|refine zM rfl ?_))
    refine RO.dyn rfl (d_store (k := 5) rfl rfl rfl (Heap.set_self _ _ _) (Nat.le_refl _) (by simp [cellsOf, mbC, D.isCell, vcD, intsD]) ?_)
    rw [Heap.set_set]
    refine RO.nil ?_
    refine DW.asH (fun H2 => H2 bm = some (83, mkCs r ej dp) ∧ H2 bn = some (68, (nd.map mbC).flatten) ∧ H2 b6 = some (68, mbC nd[i]) ∧ Over Hj H2) ⟨by rw [Heap.set_other _ _ hn6.symm]; exact hmj, by rw [Heap.set_other _ _ hn62.symm]; exact hnj, by rw [Heap.set_self]; rfl, (Over.refl Hj).set hb6⟩ fun H2 ⟨gm, gn, g6, gov⟩ => ?_
    (repeat(first|refine zA ?_|refine zB ?_|refine zE rfl (by decide) rfl ?_|refine zF ?_|refine zG ?_|refine zH ?_|refine zI ?_|refine zJ ?_|refine zK ?_|refine zL rfl ?_|refine zM rfl ?_))
    refine DW.drawX [0, 1, 3, 4, 5] [0, 1, 3, 4, 5] (fun _ => none) Tryz.mixed (by kernel_rfl) (Over.nul _) ?_
    (repeat(first|refine RX.A ?_|refine RX.nil ?_))
    refine RY.dyn rfl ((opD_call rfl rfl (mclone_call gn (by omega) (by omega))).mono fun d3 H3 h3 => ⟨Over.nul _, ?_⟩)
    obtain ⟨b3, hb3, rfl, g3, gov3⟩ := h3
    have hn3' : b3 ≠ bm := fun h => by rw [h, gm] at hb3; cases hb3
    have hn32 : b3 ≠ bn := fun h => by rw [h, gn] at hb3; cases hb3
    have hn36 : b3 ≠ b6 := fun h => by rw [h, g6] at hb3; cases hb3
    (repeat(first|refine RY.S ?_|refine RY.nil ?_))
    refine RY.dyn rfl ((opD_call rfl rfl (mdelete_call g3 hin (by omega))).mono fun d4 H4 h4 => ⟨Over.nul _, ?_⟩)
    obtain ⟨rfl, rfl⟩ := h4
    have gn' : (H3.set b3 (68, ((nd.eraseIdx i).map mbC).flatten)) bn = some (68, (nd.map mbC).flatten) := by rw [Heap.set_other _ _ hn32.symm]; exact gov3 _ _ gn
    have g6' : (H3.set b3 (68, ((nd.eraseIdx i).map mbC).flatten)) b6 = some (68, mbC nd[i]) := by rw [Heap.set_other _ _ hn36.symm]; exact gov3 _ _ g6
    have gm' : (H3.set b3 (68, ((nd.eraseIdx i).map mbC).flatten)) bm = some (83, mkCs r ej dp) := by rw [Heap.set_other _ _ hn3'.symm]; exact gov3 _ _ gm
    have g3' : (H3.set b3 (68, ((nd.eraseIdx i).map mbC).flatten)) b3 = some (68, ((nd.eraseIdx i).map mbC).flatten) := Heap.set_self _ _ _
    have gk : ∀ q z, q ≠ bm → H q = some z → (H3.set b3 (68, ((nd.eraseIdx i).map mbC).flatten)) q = some z := fun q z hq hz => by
     rw [Heap.set_other _ _ (fun h => by have := gov _ _ (hkj _ _ hq hz); rw [h, hb3] at this; cases this)]
     exact gov3 _ _ (gov _ _ (hkj _ _ hq hz))
    generalize H3.set b3 (68, ((nd.eraseIdx i).map mbC).flatten) = H5 at gn' g6' gm' g3' gk ⊢
    have hel : (nd.eraseIdx i).length = nd.length - 1 := by rw [List.length_eraseIdx, if_pos hin]
    rw [← hel]
    refine RY.sta (Over.nul _) (s_nilCheck rfl) rfl ?_
    (repeat(first|refine RY.S ?_|refine RY.nil ?_))
    refine RY.dyn rfl (d_store (k := 1) rfl rfl rfl gm' (by show 0 + 4 + 1 ≤ 6; omega) (by simp [cellsOf, D.isCell]) ⟨Over.nul _, ?_⟩)
    refine RY.nil ?_
    refine DW.asH (fun H2 => H2 bm = some (83, mkCs r (.ref b3 0 (nd.eraseIdx i).length 5) dp) ∧ H2 bn = some (68, (nd.map mbC).flatten) ∧ H2 b3 = some (68, ((nd.eraseIdx i).map mbC).flatten) ∧ H2 b6 = some (68, mbC nd[i]) ∧ ∀ q z, q ≠ bm → H q = some z → H2 q = some z)
     ⟨Heap.set_self _ _ _, by rw [Heap.set_other _ _ hbnm]; exact gn', by rw [Heap.set_other _ _ hn3']; exact g3', by rw [Heap.set_other _ _ hn6]; exact g6', fun q z hq hz => by rw [Heap.set_other _ _ hq]; exact gk q z hq hz⟩ fun H6 ⟨gm, gn, g3, g6, gk⟩ => ?_
    have hsub : ∀ x ∈ nd.eraseIdx i, x ∈ nd := fun x hx => List.eraseIdx_subset hx
    have hms : MsOk r k δ m d (nd.eraseIdx i) := ⟨hc, hcY, by omega, fun x hx => hTi.ok x (hsub x hx), fun x hx => hTi.ys x (hsub x hx)⟩
    have hcl2 : ∀ c ∈ (nd.eraseIdx i).map mbC, c.length = 5 := fun c hc => by
     obtain ⟨x, _, rfl⟩ := List.mem_map.1 hc
     rfl
    have hrow : RowAt H6 b3 5 ((nd.eraseIdx i).map mbC) := ⟨_, _, g3, by rw [flat_len hcl2]; exact Nat.le_refl _, fun j hj => by rw [Nat.zero_add]; exact flat_at hj hcl2⟩
    have hred := reducedM_pureH hms gm hrow (hTi.ok _ (List.getElem_mem hin)).hv hts.top (hTi.ys _ (List.getElem_mem hin))
    (repeat(first|refine zA ?_|refine zB ?_|refine zE rfl (by decide) rfl ?_|refine zF ?_|refine zG ?_|refine zH ?_|refine zI ?_|refine zJ ?_|refine zK ?_|refine zL rfl ?_|refine zM rfl ?_))
    refine RO.sta (s_loadMut (d := vcD nd[i].v) rfl g6 rfl) rfl ?_
    (repeat(first|refine zA ?_|refine zB ?_|refine zE rfl (by decide) rfl ?_|refine zF ?_|refine zG ?_|refine zH ?_|refine zI ?_|refine zJ ?_|refine zK ?_|refine zL rfl ?_|refine zM rfl ?_))
    refine RO.sta (s_loadMut (d := vcD nd[i].y) rfl g6 rfl) rfl ?_
    (repeat(first|refine zA ?_|refine zB ?_|refine zE rfl (by decide) rfl ?_|refine zF ?_|refine zG ?_|refine zH ?_|refine zI ?_|refine zJ ?_|refine zK ?_|refine zL rfl ?_|refine zM rfl ?_))
    refine RO.sta (sta_call rfl rfl hred) rfl ?_
    (repeat(first|refine zA ?_|refine zB ?_|refine zE rfl (by decide) rfl ?_|refine zF ?_|refine zG ?_|refine zH ?_|refine zI ?_|refine zJ ?_|refine zK ?_|refine zL rfl ?_|refine zM rfl ?_))
    have hturn := turn_pure r.p nd[i].u.c hp2.1 hp2.2 (by have := hxi.2.1.lo; omega) hxi.2.1.hi
    have hkey := hts.key
    have hinvl := hts.inv.left
    have hv2 := hts.v2
    have hy2 := hts.y2
    have hy1 := hts.y
    have htm := hts.tm
    generalize hD : hdiv r k (vsOf (nd.eraseIdx i)) nd[i].v = Dv at *
    generalize hyy : tellY r (nd.eraseIdx i) nd[i].y Dv.σ = yT at *
    have tbo : TB 0 r.p r.n.toNat 8000 (oneT r nd[i]) := ⟨htm.lo, htm.hi, by simp [oneT], fun x hx => by
     have : x = 0 := List.eq_of_mem_replicate (show x ∈ List.replicate r.n.toNat (0 : Int) from hx)
     omega⟩
    have hk40 := hc.k40
    have hm40 := hcY.k40
    have hby := vBy_pure r Dv.left (oneT r nd[i]) (n := r.n.toNat) (B := 8000) (C := 8000) (L := 512192024001) hn3 (by omega) (by omega) hp2 (by rw [hinvl.len]; omega) (by omega) (hinvl.vb hc) tbo
    have hbyY := vBy_pure r yT (oneT r nd[i]) (n := r.n.toNat) (B := 8000) (C := 8000) (L := 512192024001) hn3 (by omega) (by omega) hp2 (by rw [hy1.len]; omega) (by omega) (hy1.vb hcY) tbo
    have hof := dvOfM_pure r (vbyT r Dv.left (oneT r nd[i])) (hv2.vm hc) (hv2.vb hc)
    obtain ⟨w2, hw2, hwe2⟩ := keyOf_some hkey
    unfold dvD dvC at hof
    rw [hw2] at hof
    have hmk : mkM r (vbyT r Dv.left (oneT r nd[i])) (vbyT r yT (oneT r nd[i])) = ⟨vbyT r Dv.left (oneT r nd[i]), nd[i].a, w2, vbyT r yT (oneT r nd[i])⟩ := by
     unfold mkM
     rw [hw2]
     rfl
    rw [hmk] at hst
    clear hts hmk hkey
    generalize hz : (⟨vbyT r Dv.left (oneT r nd[i]), nd[i].a, w2, vbyT r yT (oneT r nd[i])⟩ : Mb) = z at hst
    refine DW.drawA 17 Tryz.mixed (by kernel_rfl) rfl rfl ?_
    dsimp only [List.take, List.drop]
    (repeat(first|refine zN ?_|refine zO ?_|refine zR rfl (by decide) rfl ?_|refine zS ?_))
    refine RS.sta (fun H' hov => s_nilCheck rfl) rfl ?_
    (repeat(first|refine zN ?_|refine zO ?_|refine zR rfl (by decide) rfl ?_|refine zS ?_))
    refine RS.sta (r_loadMut (d := I r.p) rfl gm rfl) rfl ?_
    (repeat(first|refine zN ?_|refine zO ?_|refine zR rfl (by decide) rfl ?_|refine zS ?_))
    refine RS.sta (r_loadMut (d := I nd[i].u.c) rfl g6 rfl) rfl ?_
    refine RS.sta (fun H' hov => sta_call rfl rfl (hturn _)) rfl ?_
    (repeat(first|refine zN ?_|refine zO ?_|refine zR rfl (by decide) rfl ?_|refine zS ?_))
    refine RS.sta (fun H' hov => s_nilCheck rfl) rfl ?_
    (repeat(first|refine zN ?_|refine zO ?_|refine zR rfl (by decide) rfl ?_|refine zS ?_))
    refine RS.sta (r_loadMut (d := I r.n) rfl gm rfl) rfl ?_
    refine RS.sta (fun H' hov => s_makeInts (n := r.n.toNat) rfl rfl (by omega) (by omega) (by omega)) rfl ?_
    refine RS.sta (fun H' hov => s_buildT (out := tmCl (oneT r nd[i])) rfl rfl) rfl ?_
    refine RS.nil ?_
    intro b9 hb9
    have hn9 : b9 ≠ bm := fun h => by rw [h, gm] at hb9; cases hb9
    have hn92 : b9 ≠ bn := fun h => by rw [h, gn] at hb9; cases hb9
    (repeat(first|refine zA ?_|refine zB ?_|refine zE rfl (by decide) rfl ?_))
    refine RO.dyn rfl (d_storeTm (tm := oneT r nd[i]) rfl rfl (Heap.set_self _ _ _) rfl ?_)
    rw [Heap.set_set]
    refine RO.nil ?_
    refine DW.asH (fun H2 => H2 bm = some (83, mkCs r (.ref b3 0 (nd.eraseIdx i).length 5) dp) ∧ H2 bn = some (68, (nd.map mbC).flatten) ∧ H2 b9 = some (55, tmCl (oneT r nd[i])) ∧ ∀ q z, q ≠ bm → H q = some z → H2 q = some z)
     ⟨by rw [Heap.set_other _ _ hn9.symm]; exact gm, by rw [Heap.set_other _ _ hn92.symm]; exact gn, Heap.set_self _ _ _, fun q z hq hz => by rw [Heap.set_other _ _ (fun h => by have := gk q z hq hz; rw [h, hb9] at this; cases this)]; exact gk q z hq hz⟩ fun H7 ⟨gm, gn, g9, gk⟩ => ?_
    (repeat(first|refine zA ?_|refine zB ?_|refine zE rfl (by decide) rfl ?_|refine zF ?_|refine zG ?_|refine zH ?_|refine zI ?_|refine zJ ?_|refine zK ?_|refine zL rfl ?_|refine zM rfl ?_))
    refine DW.drawS 22 Tryz.mixed (by kernel_rfl) (by decide) ?_
    dsimp only [List.take, List.drop]
    (repeat(first|refine zN ?_|refine zO ?_|refine zR rfl (by decide) rfl ?_|refine zS ?_))
    refine RS.sta (fun H' hov => s_nilCheck rfl) rfl ?_
    (repeat(first|refine zN ?_|refine zO ?_|refine zR rfl (by decide) rfl ?_|refine zS ?_))
    refine RS.sta (r_loadMutAgg (ds := [I r.p, I r.n, I r.order, I r.over]) rfl gm rfl rfl) rfl ?_
    (repeat(first|refine zN ?_|refine zO ?_|refine zR rfl (by decide) rfl ?_|refine zS ?_))
    refine RS.sta (fun H' hov => s_nilCheck rfl) rfl ?_
    (repeat(first|refine zN ?_|refine zO ?_|refine zR rfl (by decide) rfl ?_|refine zS ?_))
    refine RS.sta (r_loadMutAgg (ds := [I r.p, I r.n, I r.order, I r.over]) rfl gm rfl rfl) rfl ?_
    (repeat(first|refine zN ?_|refine zO ?_|refine zR rfl (by decide) rfl ?_|refine zS ?_))
    refine RS.sta (r_loadMutAgg (ds := tmCl (oneT r nd[i])) rfl g9 rfl rfl) rfl ?_
    refine RS.sta (fun H' hov => sta_call rfl rfl (hby _)) rfl ?_
    refine RS.sta (fun H' hov => sta_call rfl rfl (hof _)) rfl ?_
    (repeat(first|refine zN ?_|refine zO ?_|refine zR rfl (by decide) rfl ?_|refine zS ?_))
    refine RS.sta (fun H' hov => s_nilCheck rfl) rfl ?_
    (repeat(first|refine zN ?_|refine zO ?_|refine zR rfl (by decide) rfl ?_|refine zS ?_))
    refine RS.sta (r_loadMutAgg (ds := [I r.p, I r.n, I r.order, I r.over]) rfl gm rfl rfl) rfl ?_
    (repeat(first|refine zN ?_|refine zO ?_|refine zR rfl (by decide) rfl ?_|refine zS ?_))
    refine RS.sta (r_loadMutAgg (ds := tmCl (oneT r nd[i])) rfl g9 rfl rfl) rfl ?_
    refine RS.sta (fun H' hov => sta_call rfl rfl (hbyY _)) rfl ?_
    refine RS.sta (fun H' hov => s_buildT (out := mbC ⟨vbyT r Dv.left (oneT r nd[i]), nd[i].a, w2, vbyT r yT (oneT r nd[i])⟩) rfl rfl) rfl ?_
    refine RS.nil ?_
    rw [hz]
    (repeat(first|refine zA ?_|refine zB ?_|refine zE rfl (by decide) rfl ?_))
    refine RO.sta (s_indexRef (i := i) rfl rfl hin) rfl ?_
    refine RO.dyn rfl (d_store (k := 5) rfl rfl rfl gn (by show 0 + i * 5 + 5 ≤ _; rw [flat_len hcl, List.length_map]; omega) (by simp [cellsOf, mbC, D.isCell, vcD, intsD]) ?_)
    rw [show setMany (nd.map mbC).flatten (0 + i * 5) (cellsOf (D.agg (mbC z))) = ((nd.set i z).map mbC).flatten by
     rw [Nat.zero_add, List.map_set]
     exact setMany_flat (by simpa using hin) hcl rfl, ← hst, ← hnx]
    (repeat(first|refine zA ?_|refine zB ?_|refine zE rfl (by decide) rfl ?_|refine zF ?_|refine zG ?_|refine zH ?_|refine zI ?_|refine zJ ?_|refine zK ?_|refine zL rfl ?_|refine zM rfl ?_))
    exact ⟨(i + 1, H7.set bn (68, ((tidyUpto r k nd0 (i + 1)).map mbC).flatten), .ref b3 0 (nd.eraseIdx i).length 5), ⟨by dsimp only; omega, by dsimp only; rw [Heap.set_other _ _ hbnm.symm]; exact gm, Heap.set_self _ _ _, fun q z hq hz => by dsimp only; rw [Heap.set_other _ _ (fun h => by rw [h, hbn] at hz; cases hz)]; exact gk q z hq hz⟩, by dsimp only; omega, Heap.sub_refl _, by rw [hlen]; exact (by repeat first | exact trivial | refine HasG.one rfl ?_ | refine HasN.one rfl ?_)⟩
   ·have hie : i = nd0.length := by have := of_decide_eq_false hb; omega
    subst hie
    clear hb
    (repeat(first|refine zA ?_|refine zB ?_|refine zE rfl (by decide) rfl ?_|refine zF ?_|refine zG ?_|refine zH ?_|refine zI ?_|refine zJ ?_|refine zK ?_|refine zL rfl ?_|refine zM rfl ?_))
    rw [← hlen]
    refine RO.dyn rfl ((opD_call rfl rfl (hsr Hj bn ej nd hmj hnj hbnm (by omega) (by omega) hc hTi.ok)).mono fun dd H1 ⟨hperm, h1, h2⟩ => ?_)
    rw [show tidyUpto r k nd0 nd0.length = nd from hndi] at hraw
    rw [hraw]
    generalize srt nd = nd' at *
    have hm1 := h2 _ _ hbnm.symm hmj
    have hpl := hperm.length_eq
    (repeat(first|refine zA ?_|refine zB ?_|refine zE rfl (by decide) rfl ?_|refine zF ?_|refine zG ?_|refine zH ?_|refine zI ?_|refine zJ ?_|refine zK ?_|refine zL rfl ?_|refine zM rfl ?_))
    refine RO.sta (s_nilCheck rfl) rfl ?_
    (repeat(first|refine zA ?_|refine zB ?_|refine zE rfl (by decide) rfl ?_|refine zF ?_|refine zG ?_|refine zH ?_|refine zI ?_|refine zJ ?_|refine zK ?_|refine zL rfl ?_|refine zM rfl ?_))
    refine RO.dyn rfl (d_store (k := 1) rfl rfl rfl hm1 (by show 0 + 4 + 1 ≤ 6; omega) (by simp [cellsOf, D.isCell]) ?_)
    (repeat(first|refine zA ?_|refine zB ?_|refine zE rfl (by decide) rfl ?_|refine zF ?_|refine zG ?_|refine zH ?_|refine zI ?_|refine zJ ?_|refine zK ?_|refine zL rfl ?_|refine zM rfl ?_))
    have hbn0 : H00 bn = none := hm.over.none hbn
    refine ⟨.inr rfl, _, _, _, rfl, Heap.sub_refl _, .same _, .ref bn 0 nd.length 5, by rw [hlen, hndi]; exact hperm, hm.own, fun c z hc => ?_, Heap.set_self _ _ _, ⟨uni_mb _, .inr ⟨bn, hbn0, by simp [hpl], ?_⟩⟩, ⟨uni_pr _, ?_⟩⟩
    ·have hcm : c ≠ bm := fun h => by rw [h, hm.own] at hc; cases hc
     rw [Heap.set_other _ _ hcm]
     have hcH := hm.over c z hc
     exact h2 _ _ (fun h => by rw [h, hbn] at hcH; cases hcH) (hkj _ _ hcm hcH)
    ·rw [Heap.set_other _ _ hbnm, h1]
     congr 2
     exact (flat_map mbC nd').symm
    ·rcases hm.ps.is with ⟨e1, e2⟩ | ⟨b', e1, e2, e3⟩
     ·exact .inl ⟨e1, e2⟩
     ·have hbm : b' ≠ bm := fun h => by have := hm.n2; rw [e2, h] at this; exact this rfl
      refine .inr ⟨b', e1, e2, ?_⟩
      rw [Heap.set_other _ _ hbm]
      exact h2 _ _ (fun h => by rw [h, hbn] at e3; cases e3) (hkj _ _ hbm e3)
end
section
open Go.RowKit Go.Sort Go.Shelf
set_option maxHeartbeats 4000000

def keyT (r : Rg) (x : Mb) : Int := code2 r x.a x.u.e
def cfT (r : Rg) (nd : List Mb) (i j : Fin nd.length) : Int := if keyT r nd[j.1] < keyT r nd[i.1] then -1 else 1

theorem ltOf_cfT (r : Rg) (nd : List Mb) (i j : Fin nd.length) : ltOf (cfT r nd) i j = decide (keyT r nd[j.1] < keyT r nd[i.1]) := by
 unfold ltOf cfT
 split
 ·rename_i h; simp [h]
 ·rename_i h; simp [h]

theorem cfT_swo (r : Rg) (nd : List Mb) : SWO (ltOf (cfT r nd)) where
 irrefl x := by rw [ltOf_cfT]; simp
 trans x y z h1 h2 := by
  rw [ltOf_cfT] at *
  simp only [decide_eq_true_eq] at *
  omega
 ntrans x y z h1 h2 := by
  rw [ltOf_cfT] at *
  simp only [decide_eq_false_iff_not] at *
  omega

def srtK (r : Rg) (nd : List Mb) (h : 0 < nd.length) : Array (Fin nd.length) :=
 letI : Inhabited (Fin nd.length) := ⟨⟨0, h⟩⟩
 pdq (ltOf (cfT r nd)) (Array.ofFn fun i : Fin nd.length => i) 0 nd.length (Lib.bitLen nd.length) true true

def srtT (r : Rg) (nd : List Mb) : List Mb := if h : 0 < nd.length then (srtK r nd h).toList.map fun i => nd[i.1] else []

theorem extract_all {α : Type} (d : Array α) (n : Nat) (h : d.size = n) : d.extract 0 n = d := by subst h; simp

theorem srtK_perm (r : Rg) (nd : List Mb) (h : 0 < nd.length) : (srtK r nd h).size = nd.length ∧ (srtK r nd h).toList.Perm (List.ofFn fun i : Fin nd.length => i) := by
 letI : Inhabited (Fin nd.length) := ⟨⟨0, h⟩⟩
 have hp := (pdq_sorts (ltOf (cfT r nd)) (cfT_swo r nd) (Array.ofFn fun i : Fin nd.length => i) 0 (Array.ofFn fun i : Fin nd.length => i).size (Lib.bitLen nd.length) true true (Nat.zero_le _) (Nat.le_refl _) (Or.inl rfl)).1
 have hds : (Array.ofFn fun i : Fin nd.length => i).size = nd.length := Array.size_ofFn
 rw [hds] at hp
 obtain ⟨h1, _, h2⟩ := hp
 rw [hds] at h1
 rw [extract_all _ _ h1, extract_all _ _ hds] at h2
 refine ⟨h1, ?_⟩
 have e2 : (Array.ofFn fun i : Fin nd.length => i).toList = List.ofFn fun i : Fin nd.length => i := by simp
 rw [e2] at h2
 exact h2

theorem srtT_perm (r : Rg) (nd : List Mb) : (srtT r nd).Perm nd := by
 unfold srtT
 split
 ·rename_i h
  have := ((srtK_perm r nd h).2).map fun i : Fin nd.length => nd[i.1]
  refine this.trans ?_
  rw [List.map_ofFn]
  have : List.ofFn ((fun i : Fin nd.length => nd[i.1]) ∘ fun i => i) = nd := List.ofFn_getElem
  rw [this]
 ·rename_i h
  have : nd = [] := List.length_eq_zero_iff.1 (by omega)
  rw [this]

theorem srtT_nil (r : Rg) : srtT r [] = [] := List.Perm.eq_nil (srtT_perm r [])

theorem world_grown {W w' : World} (h : Ext W noHeap w' noHeap) : ∃ q os', w' = grow (W.drewN q) os' := by
 refine ⟨w'.drawn - W.drawn, w'.heap.extract W.heap.size w'.heap.size, ?_⟩
 have h1 := h.os
 have h2 := h.tape
 have h3 := h.output
 have h4 : W.drawn ≤ w'.drawn := h.tick
 have h5 : w'.heap = W.heap ++ w'.heap.extract W.heap.size w'.heap.size := by
  have e : W.heap = w'.heap.extract 0 W.heap.size := by
   apply Array.ext_getElem?
   intro i
   by_cases hi : i < W.heap.size
   ·rw [Array.getElem?_extract]
    rw [← (h.old i hi rfl).2]
    have := h.size
    simp
    omega
   ·rw [Array.getElem?_eq_none (by omega), Array.getElem?_eq_none (by simp; omega)]
  conv => rhs; lhs; rw [e]
  rw [Array.extract_append_extract, Nat.zero_min, Nat.max_eq_right h.size]
  simp
 have h6 : w'.drawn = W.drawn + (w'.drawn - W.drawn) := by omega
 unfold grow World.drewN
 obtain ⟨a, b, c, d, e⟩ := w'
 dsimp only at *
 subst h1 h2 h3
 rw [← h5, ← h6]

theorem sorted_heap {n : Nat} [Inhabited (Fin n)] {enc : Fin n → List Value} {w : World} {b m : Nat} {dk : Array (Fin n)} {os : Array Obj} {cs : Array Value} {T : TypeId} (hb : w.heap[b]? = some (.cells cs T (0, 0))) (hd : dk.size = n) (hn : n * 5 ≤ cs.size) :
  (∀ c, c < w.heap.size → c ≠ b → (sortWorldK enc 5 w b 0 m dk os).heap[c]? = w.heap[c]?) ∧
  (∃ cs2 : Array Value, (sortWorldK enc 5 w b 0 m dk os).heap[b]? = some (.cells cs2 T (0, 0)) ∧ cs2.size = cs.size ∧ ∀ j, j < n * 5 → cs2[j]? = some ((enc dk[j / 5]!)[j % 5]!)) := by
 have hlt : b < w.heap.size := (Array.getElem?_eq_some_iff.1 hb).1
 have hsz : (putRowK enc 5 (Sort.ahead w m) b 0 dk).heap.size = w.heap.size := size_putRowK ..
 have hg : ∀ c, c < w.heap.size → (sortWorldK enc 5 w b 0 m dk os).heap[c]? = (putRowK enc 5 (Sort.ahead w m) b 0 dk).heap[c]? := fun c hc => by
  unfold sortWorldK grow
  exact Array.getElem?_append_left (by rw [hsz]; exact hc)
 refine ⟨fun c hc hne => ?_, ?_⟩
 ·rw [hg c hc]
  unfold putRowK putRow mapBlock Sort.ahead
  dsimp only
  rw [Array.getElem?_modify, if_neg (fun h => hne h.symm)]
 ·refine ⟨putCells id 0 (flatK enc 5 dk) cs, ?_, by simp [putCells], fun j hj => ?_⟩
  ·rw [hg b hlt]
   unfold putRowK putRow mapBlock Sort.ahead
   dsimp only
   rw [Array.getElem?_modify, if_pos rfl, hb]
   rfl
  ·have hjc : j < cs.size := by omega
   unfold putCells
   rw [Array.getElem?_mapIdx, Array.getElem?_eq_getElem hjc]
   simp only [Option.map_some, Nat.zero_le, true_and, Nat.zero_add, size_flatK, hd, hj, if_true, Nat.sub_zero, id]
   rw [get_flatK _ _ _ _ (by rw [hd]; exact hj)]

theorem Rep.ipt0 {w : World} {H : Heap} {k : Nat} {l : List D} {b off : Nat} (vals : Nat → Nat → Value)
  (h1 : ∀ (i : Nat) (d : D), l[i]? = some d → (cellsOf d).length = k)
  (h2 : ∀ (i j : Nat) (x : D), cellAt l i j = some x → H b = none ∧ w.cell? ⟨b, off + i * k + j, none⟩ = some (vals i j))
  (h3 : ∀ (i j : Nat) (x : D), cellAt l i j = some x → Rep w H (vals i j) x) : Rep w H (.pointer (some ⟨b, off, none⟩)) (.ipt k l 0 0) := by
 have := Rep.ipt (i := 0) (j := 0) vals h1 h2 h3
 rwa [Nat.zero_mul, Nat.add_zero] at this

theorem flat_get {cs : List (List D)} {k i j : Nat} (hi : i < cs.length) (hk : ∀ c ∈ cs, c.length = k) (hj : j < k) : cs.flatten[i * k + j]? = cs[i][j]? := by
 rw [← flat_at hi hk, List.getElem?_take_of_lt hj, List.getElem?_drop]

theorem sort_call (r : Rg) (k : Nat) (δ : Nat → Int) (bm : Nat) (dp : D) : SortR r k δ (srtT r) bm dp := by
 intro H1 b dmi nd hm hbk hbm h0 hl hc hok
 have hcl : ∀ c ∈ nd.map mbC, c.length = 5 := fun c hc => by
  obtain ⟨x, _, rfl⟩ := List.mem_map.1 hc
  rfl
 have hfl := flat_len hcl
 rw [List.length_map] at hfl
 refine ⟨⟨_, Tryz.func75, rfl, rfl⟩, fun w args ho hr => ?_⟩
 obtain ⟨hs, hv⟩ := hr
 obtain ⟨v0, a0, r0⟩ := hv 0 _ rfl
 obtain ⟨v1, a1, r1⟩ := hv 1 _ rfl
 obtain rfl : args = #[v0, v1] := by
  apply Array.ext_getElem?
  intro j
  match j with
  | 0 => rw [a0]; rfl
  | 1 => rw [a1]; rfl
  | j + 2 => rw [Array.getElem?_eq_none (by rw [hs]; simp), Array.getElem?_eq_none (by simp)]
 obtain ⟨cs, hcb, hcl2, hcr⟩ := ho.at' b _ _ hbk
 obtain ⟨cm, hmb, hml, hmr⟩ := ho.at' bm _ _ hm
 rw [hfl] at hcl2
 have key : ∃ cap : Nat, v0 = .slice (some ⟨b, 0, none⟩) nd.length cap := by
  cases r0 with
  | ref hb' hs' hl' hm' => exact ⟨_, rfl⟩
 obtain ⟨cap, rfl⟩ := key
 have key2 : ∃ (B o : Nat), v1 = .func (.func 76) #[] #[.pointer (some ⟨B, o, none⟩)] ∧ H1 B = none ∧ w.cell? ⟨B, o, none⟩ = some (.pointer (some ⟨bm, 0, none⟩)) := by
  cases r1 with
  | @fn _ _ vs vals gs g2 g3 =>
   have e0 := g2 0 _ rfl
   have q0 := g3 0 _ rfl
   have hvs : vs = #[vals 0] := by
    apply Array.ext_getElem?
    intro j
    cases j with
    | zero => rw [e0]; rfl
    | succ j => rw [Array.getElem?_eq_none (by rw [gs]; simp), Array.getElem?_eq_none (by simp)]
   subst hvs
   generalize hp : vals 0 = p at q0
   cases q0 with
   | @ipt _ _ Bs o _ _ vals2 k1 k2 k3 =>
    obtain ⟨k4, k5⟩ := k2 0 0 _ rfl
    have q1 := k3 0 0 _ rfl
    rw [rep_ptr q1] at k5
    exact ⟨Bs, _, rfl, k4, k5⟩
 obtain ⟨B, o, rfl, hB, hBc⟩ := key2
 letI : Inhabited (Fin nd.length) := ⟨⟨0, h0⟩⟩
 have hcsl : cs.toList.length = cs.size := Array.length_toList
 let enc : Fin nd.length → List Value := fun i => (cs.toList.drop (i.1 * 5)).take 5
 have hin : ∀ i : Fin nd.length, i.1 * 5 + 5 ≤ cs.size := fun i => by have := i.2; omega
 have hel : ∀ i, (enc i).length = 5 := fun i => by
  have := hin i
  show ((cs.toList.drop (i.1 * 5)).take 5).length = 5
  rw [List.length_take, List.length_drop, hcsl]
  omega
 have hen : ∀ (i : Fin nd.length) (j : Nat), j < 5 → (enc i)[j]? = cs[i.1 * 5 + j]? := fun i j hj => by
  show ((cs.toList.drop (i.1 * 5)).take 5)[j]? = _
  rw [List.getElem?_take_of_lt hj, List.getElem?_drop]
  simp
 have hfg : ∀ (i : Fin nd.length) (j : Nat), j < 5 → (nd.map mbC).flatten[i.1 * 5 + j]? = (mbC nd[i.1])[j]? := fun i j hj => by
  rw [flat_get (by simp) hcl hj]
  simp
 have hrc : ∀ (i : Fin nd.length) (j : Nat) (x : D), (mbC nd[i.1])[j]? = some x → j < 5 ∧ x.isCell = true ∧ ∃ v, (enc i)[j]? = some v ∧ Rep w H1 v x := fun i j x hx => by
  have hj : j < 5 := (List.getElem?_eq_some_iff.1 hx).1
  obtain ⟨h1, v, h2, h3⟩ := hcr (i.1 * 5 + j) x (by rw [hfg i j hj]; exact hx)
  exact ⟨hj, h1, v, by rw [hen i j hj]; exact h2, h3⟩
 have h1c : ∀ (i : Fin nd.length), ∀ v ∈ enc i, v.oneCell' = true := fun i v hv => by
  obtain ⟨j, hj, rfl⟩ := List.getElem_of_mem hv
  rw [hel i] at hj
  obtain ⟨_, h1, v', h2, h3⟩ := hrc i j ((mbC nd[i.1])[j]'(show j < (mbC nd[i.1]).length from hj)) (List.getElem?_eq_getElem _)
  rw [List.getElem?_eq_getElem (by rw [hel i]; exact hj)] at h2
  rw [Option.some.inj h2]
  exact h3.oneCell h1
 have hds : (Array.ofFn fun i : Fin nd.length => i).size = nd.length := Array.size_ofFn
 have hbl : b < w.heap.size := (Array.getElem?_eq_some_iff.1 hcb).1
 have hml2 : bm < w.heap.size := (Array.getElem?_eq_some_iff.1 hmb).1
 have hBl : B < w.heap.size := World.block_lt_of_cell? w ⟨B, o, none⟩ hBc
 have hBb : B ≠ b := fun h => by rw [h, hbk] at hB; cases hB
 have hBm : B ≠ bm := fun h => by rw [h, hm] at hB; cases hB
 have hH : HoldsK enc 5 w b 0 (Array.ofFn fun i : Fin nd.length => i) := by
  intro j hj
  rw [size_flatK, hds] at hj
  refine ⟨?_, ?_⟩
  ·rw [get_flatK _ _ _ _ (by rw [hds]; exact hj), Nat.zero_add, cell_of_row w b j cs _ (0, 0) hcb]
   have hq : j / 5 < nd.length := by omega
   have e1 : (Array.ofFn fun i : Fin nd.length => i)[j / 5]! = ⟨j / 5, hq⟩ := by
    rw [getElem!_pos _ _ (by rw [hds]; exact hq)]
    simp
   rw [e1]
   have h5 : j % 5 < 5 := Nat.mod_lt _ (by omega)
   have e2 := hen ⟨j / 5, hq⟩ (j % 5) h5
   have e3 : j / 5 * 5 + j % 5 = j := by omega
   rw [show (⟨j / 5, hq⟩ : Fin nd.length).1 * 5 + j % 5 = j from e3] at e2
   rw [← e2]
   have h6 : j % 5 < (enc ⟨j / 5, hq⟩).length := by rw [hel]; exact h5
   have h7 : (enc ⟨j / 5, hq⟩)[j % 5]! = (enc ⟨j / 5, hq⟩)[j % 5] := getElem!_pos (enc ⟨j / 5, hq⟩) (j % 5) h6
   rw [h7, List.getElem?_eq_getElem h6]
   rfl
  ·simp [World.frozen?, hcb]
 have hkept : ∀ (m : Nat) (os : Array Obj) (dk : Array (Fin nd.length)), dk.size = nd.length → Kept w H1 (sortWorldK enc 5 w b 0 m dk os) noHeap := fun m os dk hdk => by
  obtain ⟨g1, cs2, g2, g3, g4⟩ := sorted_heap (enc := enc) (w := w) (m := m) (os := os) hcb hdk hcl2
  refine ⟨fun c off v hc hw => ⟨rfl, ?_⟩, fun c cs0 T0 hc0 => ?_⟩
  ·have hlt : c < w.heap.size := World.block_lt_of_cell? w ⟨c, off, none⟩ hw
   have hne : c ≠ b := fun h => by rw [h, hbk] at hc; cases hc
   exact (World.cell?_of_block (a := ⟨c, off, none⟩) (g1 c hlt hne)).trans hw
  ·by_cases hcb' : c = b
   ·subst hcb'
    rw [hcb] at hc0
    cases hc0
    exact ⟨cs2, g2, g3⟩
   ·exact ⟨cs0, by rw [g1 c (lt_of_block hc0) hcb']; exact hc0, rfl⟩
 have hcmp0 : goBody Tryz.prog 76 := ⟨_, Tryz.func76, rfl, rfl⟩
 have hcmp : CmpLays Tryz.prog 76 #[.pointer (some ⟨B, o, none⟩)] enc 5 (cfT r nd) b 0 (Array.ofFn fun i : Fin nd.length => i).size w := by
  intro m os dk hdk x y
  rw [hds] at hdk
  obtain ⟨g1, cs2, g2, g3, g4⟩ := sorted_heap (enc := enc) (w := w) (m := m) (os := os) hcb hdk hcl2
  have hkp := hkept m os dk hdk
  have hW : HOK (sortWorldK enc 5 w b 0 m dk os) noHeap := ⟨fun b T cells h => (by cases h), fun g cs h => (by cases h)⟩
  obtain ⟨x1, x2, x3⟩ := (hok _ (List.getElem_mem x.2)).ld hc
  obtain ⟨y1, y2, y3⟩ := (hok _ (List.getElem_mem y.2)).ld hc
  have hk40 := hc.k40
  have hcmpD := cmp_pureH (H := noHeap) r nd[x.1] nd[y.1] x3.mok y3.mok (by rw [x3.len, y3.len])
  have hagg : ∀ i : Fin nd.length, Rep (sortWorldK enc 5 w b 0 m dk os) noHeap (.agg (enc i).toArray) (mbD nd[i.1]) := fun i => by
   refine .agg (fun j => (enc i)[j]!) (by simp [hel i, mbC]) (fun j x hx => ?_) fun j x hx => ?_
   ·obtain ⟨hj, _, v, hv, _⟩ := hrc i j x hx
    have h6 : j < (enc i).length := by rw [hel]; exact hj
    have h7 : (enc i)[j]! = (enc i)[j] := getElem!_pos (enc i) j h6
    rw [h7]
    simp [h6]
   ·obtain ⟨hj, _, v, hv, hr⟩ := hrc i j x hx
    have h6 : j < (enc i).length := by rw [hel]; exact hj
    rw [List.getElem?_eq_getElem h6] at hv
    show Rep _ _ ((enc i)[j]!) x
    have h7 : (enc i)[j]! = (enc i)[j] := getElem!_pos (enc i) j h6
    rw [h7, Option.some.inj hv]
    exact hr.kept hkp
  have hmk : ∀ (j : Nat) (x : D), [I r.p, I r.n, I r.order, I r.over][j]? = some x → j < 4 ∧ ∃ v, cm[j]? = some v ∧ Rep w H1 v x := fun j x hx => by
   have hj : j < 4 := (List.getElem?_eq_some_iff.1 hx).1
   obtain ⟨_, v, h2, h3⟩ := hmr j x (by
    have : (mkCs r dmi dp)[j]? = [I r.p, I r.n, I r.order, I r.over][j]? := by
     match j, hj with
     | 0, _ => rfl
     | 1, _ => rfl
     | 2, _ => rfl
     | 3, _ => rfl
    rw [this]; exact hx)
   exact ⟨hj, v, h2, h3⟩
  have hat : ∀ (k : Nat) (l : List D) (i j : Nat) (x : D), cellAt [.agg l] i j = some x → i = 0 ∧ l[j]? = some x := fun k l i j x hx => by
   cases i with
   | zero => exact ⟨rfl, hx⟩
   | succ i => cases hx
  have hin2 : Rep (sortWorldK enc 5 w b 0 m dk os) noHeap (.pointer (some ⟨bm, 0, none⟩)) (.ipt 4 [rgD r] 0 0) := by
   refine Rep.ipt0 (fun _ j => cm[j]!) (fun i d hd => ?_) (fun i j x hx => ?_) fun i j x hx => ?_
   ·cases i with
    | zero => cases hd; rfl
    | succ i => cases hd
   ·obtain ⟨rfl, hx⟩ := hat 4 _ i j x hx
    obtain ⟨hj, v, h2, h3⟩ := hmk j x hx
    refine ⟨rfl, ?_⟩
    rw [Nat.zero_mul, Nat.zero_add, World.cell?_of_block (a := ⟨bm, j, none⟩) (g1 bm hml2 hbm.symm), cell_of_row w bm j cm _ (0, 0) hmb, h2]
    obtain ⟨hlt, he⟩ := Array.getElem?_eq_some_iff.1 h2
    have h7 : cm[j]! = cm[j] := getElem!_pos cm j hlt
    rw [h7, he]
   ·obtain ⟨rfl, hx⟩ := hat 4 _ i j x hx
    obtain ⟨hj, v, h2, h3⟩ := hmk j x hx
    obtain ⟨hlt, he⟩ := Array.getElem?_eq_some_iff.1 h2
    have h7 : cm[j]! = v := (getElem!_pos cm j hlt).trans he
    show Rep _ _ (cm[j]!) x
    rw [h7]
    exact h3.kept hkp
  have hcap : Rep (sortWorldK enc 5 w b 0 m dk os) noHeap (.pointer (some ⟨B, o, none⟩)) (.ipt 1 [.ipt 4 [rgD r] 0 0] 0 0) := by
   refine Rep.ipt0 (fun _ _ => .pointer (some ⟨bm, 0, none⟩)) (fun i d hd => ?_) (fun i j x hx => ?_) fun i j x hx => ?_
   ·cases i with
    | zero => cases hd; rfl
    | succ i => cases hd
   ·cases i with
    | zero =>
     cases j with
     | zero => exact ⟨rfl, (World.cell?_of_block (a := ⟨B, o, none⟩) (g1 B hBl hBb)).trans hBc⟩
     | succ j => cases hx
    | succ i => cases hx
   ·cases i with
    | zero =>
     cases j with
     | zero => cases hx; exact hin2
     | succ j => cases hx
    | succ i => cases hx
  have hargs : RepsA (sortWorldK enc 5 w b 0 m dk os) noHeap #[.agg (enc x).toArray, .agg (enc y).toArray, .pointer (some ⟨B, o, none⟩)] [mbD nd[x.1], mbD nd[y.1], .ipt 1 [.ipt 4 [rgD r] 0 0] 0 0] := by
   refine ⟨rfl, fun j z hz => ?_⟩
   match j, hz with
   | 0, hz => cases hz; exact ⟨_, rfl, hagg x⟩
   | 1, hz => cases hz; exact ⟨_, rfl, hagg y⟩
   | 2, hz => cases hz; exact ⟨_, rfl, hcap⟩
   | j + 3, hz => cases hz
  have hfin := hcmpD.calls _ _ hW hargs
  have e3 : (#[.agg (enc x).toArray, .agg (enc y).toArray] ++ #[.pointer (some ⟨B, o, none⟩)] : Array Value) = #[.agg (enc x).toArray, .agg (enc y).toArray, .pointer (some ⟨B, o, none⟩)] := rfl
  rw [e3]
  refine hfin.mono ?_
  ·rintro e w' ⟨v, rfl, hrep, _, hext⟩
   refine ⟨?_, world_grown hext⟩
   rw [rep_int hrep]
   congr 2
   unfold cfT keyT
   have hfi := code2_first (r := r) (i := nd[x.1].a) (k := nd[y.1].a) x3 y3 (by omega) (by omega)
   by_cases hlt : code2 r nd[y.1].a nd[y.1].u.e < code2 r nd[x.1].a nd[x.1].u.e
   ·rw [if_pos hlt, if_pos (hfi.2 hlt)]
   ·rw [if_neg hlt, if_neg (fun h => hlt (hfi.1 h))]
 have hcon := AnyQ.slices_SortFunc_eq Tryz.laysSort 5 Tryz.isAgg68 Tryz.sizeOf68 enc hel h1c (cfT r nd) (cfT_swo r nd) 76 #[.pointer (some ⟨B, o, none⟩)] b 0 cap (Array.ofFn fun i : Fin nd.length => i) w
  (fun args w => run_callFunc hcmp0 args w) hcmp hH hbl (by rw [hds]; omega)
 rw [hds] at hcon
 refine hcon.mono ?_
 rintro e w' ⟨rfl, n, os, rfl⟩
 have hsr : srtT r nd = (srtK r nd h0).toList.map fun i => nd[i.1] := by unfold srtT; rw [dif_pos h0]
 have hsk : srtK r nd h0 = pdq (ltOf (cfT r nd)) (Array.ofFn fun i : Fin nd.length => i) 0 nd.length (Lib.bitLen nd.length) true true := rfl
 have hks := (srtK_perm r nd h0).1
 rw [← hsk]
 generalize hdk : srtK r nd h0 = dk at *
 obtain ⟨g1, cs2, g2, g3, g4⟩ := sorted_heap (enc := enc) (w := w) (m := n) (os := os) hcb hks hcl2
 have hlen : (srtT r nd).length = nd.length := (srtT_perm r nd).length_eq
 have hext : Ext w H1 (sortWorldK enc 5 w b 0 n dk os) (H1.set b (68, ((srtT r nd).map mbC).flatten)) := by
  refine ⟨rfl, rfl, rfl, size_sortWorldK_c .., .of_le (Nat.le_add_right _ _), fun c hc0 hHc => ?_, fun c cs0 T0 hc0 => ?_⟩
  ·have hne : c ≠ b := fun h => by rw [h, hbk] at hHc; cases hHc
   exact ⟨by rw [Heap.set_other _ _ hne]; exact hHc, g1 c hc0 hne⟩
  ·by_cases hcb' : c = b
   ·subst hcb'
    rw [hcb] at hc0
    cases hc0
    exact ⟨cs2, g2, g3⟩
   ·exact ⟨cs0, by rw [g1 c (lt_of_block hc0) hcb']; exact hc0, rfl⟩
 refine ⟨_, .tup [], _, rfl, ⟨srtT_perm r nd, Heap.set_self _ _ _, fun c z hne hz => by rw [Heap.set_other _ _ hne]; exact hz⟩, .tup (fun _ => .bool true) rfl (fun j x hx => by cases hx) (fun j x hx => by cases hx), ⟨fun c T cells hx => ?_, fun g cs h => (by cases h)⟩, hext⟩
 simp only [Heap.set] at hx
 split at hx
 ·rename_i hcb'
  subst hcb'
  cases hx
  have hcl3 : ∀ c ∈ (srtT r nd).map mbC, c.length = 5 := fun c hc => by
   obtain ⟨x, _, rfl⟩ := List.mem_map.1 hc
   rfl
  have hfl3 := flat_len hcl3
  rw [List.length_map, hlen] at hfl3
  refine ⟨cs2, g2, by rw [hfl3, g3]; exact hcl2, fun j x hj => ?_⟩
  have hjl : j < nd.length * 5 := by rw [← hfl3]; exact (List.getElem?_eq_some_iff.1 hj).1
  have hq : j / 5 < nd.length := by omega
  have h5 : j % 5 < 5 := Nat.mod_lt _ (by omega)
  have e3 : j / 5 * 5 + j % 5 = j := by omega
  have hqk : j / 5 < dk.size := by rw [hks]; exact hq
  have e4 : dk[j / 5]! = dk[j / 5] := getElem!_pos dk (j / 5) hqk
  have e5 : (srtT r nd)[j / 5]'(by rw [hlen]; exact hq) = nd[(dk[j / 5]).1] := by simp [hsr]
  have e6 := flat_get (cs := (srtT r nd).map mbC) (i := j / 5) (j := j % 5) (by simp [hlen]; exact hq) hcl3 h5
  rw [e3, hj, List.getElem_map, e5] at e6
  obtain ⟨_, h1, v, h2, h3⟩ := hrc dk[j / 5] (j % 5) x e6.symm
  refine ⟨h1, v, ?_, h3.ext hext⟩
  rw [g4 j hjl, e4]
  have h6 : j % 5 < (enc dk[j / 5]).length := by rw [hel]; exact h5
  have h7 : (enc dk[j / 5])[j % 5]! = (enc dk[j / 5])[j % 5] := getElem!_pos (enc dk[j / 5]) (j % 5) h6
  rw [h7, ← h2, List.getElem?_eq_getElem h6]
 ·rename_i hne
  obtain ⟨cs0, e1, e2, e3⟩ := ho.at' c T cells hx
  refine ⟨cs0, by rw [g1 c (lt_of_block e1) hne]; exact e1, e2, fun j x hj => ?_⟩
  obtain ⟨q1, v, q2, q3⟩ := e3 j x hj
  exact ⟨q1, v, q2, q3.ext hext⟩
end
section
open Go.RowKit Go.Sort Go.Shelf
set_option maxHeartbeats 4000000

theorem bitsLen0_pure : Pure Tryz.prog 94 [.int .u64 (0 : Nat)] (I (Lib.bitLen (0 : Int).toNat)) :=
 fun H => ⟨⟨_, Tryz.func94, rfl, rfl⟩, fun w args ho hr => by
  obtain ⟨hs, hv⟩ := hr
  obtain ⟨v, hv0, hrep⟩ := hv 0 _ rfl
  have hv' := rep_int hrep
  subst hv'
  obtain rfl : args = #[.int .u64 (0 : Nat)] := by
   apply Array.ext_getElem?
   intro j
   cases j with
   | zero => rw [hv0]; rfl
   | succ j => rw [Array.getElem?_eq_none (by rw [hs]; simp), Array.getElem?_eq_none (by simp)]
  have h := Any.bits_Len (SlLaysF0.n15.bits (P := Tryz.prog) (ρ := Tryz.laysSort_ren) { Tryz.laysSort with }) 0 w (by decide) (by decide)
  refine Calls.mono (R := fun e w' => e = .returned (.int .i64 (Lib.bitLen (0 : Int).toNat)) ∧ w' = w) h ?_
  rintro e w' ⟨rfl, rfl⟩
  exact ⟨_, rfl, .int _ _, ho, .refl _ _⟩⟩

theorem insSort0_call {H : Heap} {f : D} : CallD Tryz.prog H 104 [.nil, I 0, I 0, f] fun _ H' => H' = H := by
 refine CallD.of_body Tryz.func104 rfl (by decide) (Nat.le_of_ble_eq_true rfl) fun w0 => ?_
 (repeat(first|refine zA ?_|refine zB ?_|refine zE rfl (by decide) rfl ?_|refine zF ?_|refine zG ?_|refine zH ?_|refine zI ?_|refine zJ ?_|refine zK ?_|refine zL rfl ?_|refine zM rfl ?_))
 refine DW.loopI (fun k : Nat => k = 1) (fun k => [(8, I k), (2, I 0)]) (fun _ => H) (fun k => 0) 1 rfl rfl ⟨rfl, rfl, trivial⟩ fun k hk => ?_
 subst hk
 (repeat(first|refine zA ?_|refine zB ?_|refine zE rfl (by decide) rfl ?_|refine zF ?_|refine zG ?_|refine zH ?_|refine zI ?_|refine zJ ?_|refine zK ?_|refine zL rfl ?_|refine zM rfl ?_))
 exact ⟨.inr rfl, _, _, _, rfl, Heap.sub_refl _, .same _, rfl⟩

theorem pdq0_call {H : Heap} {f n : D} : CallD Tryz.prog H 93 [.nil, I 0, I 0, n, f] fun _ H' => H' = H := by
 refine CallD.of_body Tryz.func93 rfl (by decide) (Nat.le_of_ble_eq_true rfl) fun w0 => ?_
 (repeat(first|refine zA ?_|refine zB ?_|refine zE rfl (by decide) rfl ?_|refine zF ?_|refine zG ?_|refine zH ?_|refine zI ?_|refine zJ ?_|refine zK ?_|refine zL rfl ?_|refine zM rfl ?_))
 refine DW.loopI (fun k : Nat => k = 0) (fun k => [(0, .nil), (1, I 0), (2, I 0), (4, f)]) (fun _ => H) (fun k => 0) 0 rfl rfl ⟨rfl, rfl, rfl, rfl, trivial⟩ fun k hk => ?_
 subst hk
 (repeat(first|refine zA ?_|refine zB ?_|refine zE rfl (by decide) rfl ?_|refine zF ?_|refine zG ?_|refine zH ?_|refine zI ?_|refine zJ ?_|refine zK ?_|refine zL rfl ?_|refine zM rfl ?_))
 refine RO.dyn rfl ((opD_call rfl rfl insSort0_call).mono fun d H1 hH => ?_)
 subst hH
 (repeat(first|refine zA ?_|refine zB ?_|refine zE rfl (by decide) rfl ?_|refine zF ?_|refine zG ?_|refine zH ?_|refine zI ?_|refine zJ ?_|refine zK ?_|refine zL rfl ?_|refine zM rfl ?_))
 exact DW.ret ⟨.inl rfl, _, _, _, rfl, Heap.sub_refl _, .same _, rfl⟩

theorem sort0_call : Sort0 := fun H f => by
 refine CallD.of_body Tryz.func75 rfl (by decide) (Nat.le_of_ble_eq_true rfl) fun w0 => ?_
 (repeat(first|refine zA ?_|refine zB ?_|refine zE rfl (by decide) rfl ?_|refine zF ?_|refine zG ?_|refine zH ?_|refine zI ?_|refine zJ ?_|refine zK ?_|refine zL rfl ?_|refine zM rfl ?_))
 refine RO.sta (s_uint (n := 0) Tryz.underlying119 Tryz.underlying3 rfl (by decide)) rfl ?_
 refine RO.sta (sta_call rfl rfl (bitsLen0_pure _)) rfl ?_
 (repeat(first|refine zA ?_|refine zB ?_|refine zE rfl (by decide) rfl ?_|refine zF ?_|refine zG ?_|refine zH ?_|refine zI ?_|refine zJ ?_|refine zK ?_|refine zL rfl ?_|refine zM rfl ?_))
 refine RO.dyn rfl ((opD_call rfl rfl pdq0_call).mono fun d H1 hH => ?_)
 subst hH
 (repeat(first|refine zA ?_|refine zB ?_|refine zE rfl (by decide) rfl ?_|refine zF ?_|refine zG ?_|refine zH ?_|refine zI ?_|refine zJ ?_|refine zK ?_|refine zL rfl ?_|refine zM rfl ?_))
 exact ⟨.inr rfl, _, _, _, rfl, Heap.sub_refl _, .same _, rfl⟩
end
end Go.Proofs.YtfjmdhemlfafbaaGreat
