/-
  PolyOps holds: whatever it is handed, the law answers true, and its arguments read as before. No condition.
-/
import Derived.Test.YtblileclefbklaaDoorKPoc16
import Derived.Test.YtblileclefbklaaDoorKPoc17
import Derived.Test.YtblileclefbklaaDoorKPoc8

namespace Go.Proofs.YtblileclefbklaaDoor
open Go.RowKit
set_option linter.unusedVariables false
set_option linter.unusedSimpArgs false
set_option maxHeartbeats 8000000

theorem s_two {P : Program} {H : Heap} {e : Env} {dst : Option Tmp} {ty : TypeId} {pos : String} {af : Array Edge} {gd : Option (Nat × Bool)} {t E : TypeId} {x y : Operand} {a b : Int} {bytes : Nat} {zd : List D} [SliceT P t E] [ElT P E 1 zd bytes] (hx : e.ev x = some (I a)) (hy : e.ev y = some (I b)) :
    Sta P H e ⟨dst, .buildSlice t 2 #[(0, x), (1, y)], ty, pos, af, gd⟩ (intsD [a, b]) := by
  have hz : zd.length = 1 := (ElT.z (P := P) (E := E) (k := 1) (zd := zd) (bytes := bytes)).len
  obtain ⟨z, rfl⟩ : ∃ z, zd = [z] := by
    match zd, hz with
    | [z], _ => exact ⟨z, rfl⟩
  exact s_lit (P := P) (t := t) (E := E) (bytes := bytes) (zd := [z]) (pd := [(0, I a), (1, I b)]) (ds := [I a, I b]) (by decide) (by decide) (by simp [evParts, hx, hy]) rfl (fun d hd => by simp at hd; rcases hd with rfl | rfl <;> rfl) rfl

def bgF : Pl := [⟨1, [1, 0]⟩, ⟨2, [0, 0]⟩]
def bgG : Pl := [⟨1, [2, 0]⟩, ⟨4, [1, 0]⟩, ⟨4, [0, 0]⟩]

theorem bgG_text : printT bgG = [120, 94, 50, 32, 43, 32, 52, 42, 120, 32, 43, 32, 52] := by
  have d2 : Lib.itoa 2 = [50] := by rw [itoa_pos (by decide)]; show Lib.decDigits 2 = _; rw [Lib.decDigits, dif_pos (by decide)]; rfl
  have d4 : Lib.itoa 4 = [52] := by rw [itoa_pos (by decide)]; show Lib.decDigits 4 = _; rw [Lib.decDigits, dif_pos (by decide)]; rfl
  simp [printT, bgG, termTx, partsT, headP, partsGo, partOf, d2, d4, Lib.join_cons, Lib.joinTail, Lib.join_one]

theorem polyBegun_pure : Pure Tryd.prog 11 [] (.bool true) := by
  intro H
  have e1 : pmulT xyR bgF bgF = (bgG, 0) := by kernel_rfl
  have e2 : polysCk xyR [bgG] = 0 := by kernel_rfl
  have e3 : valueR xyR bgF [3, 0] = (5, 0) := by kernel_rfl
  have e4 : polysCk xyR [bgF] = 0 := by kernel_rfl
  have c1 := pMul_pure xyR bgF bgF (by decide) (by decide)
  have c2 := Print_pure xyR bgG (by decide)
  have c3 := Value_pure xyR bgF [3, 0] (by decide) (by decide)
  have c4 := pCheck_pure xyR bgF (by decide)
  rw [e1] at c1
  rw [e2, if_pos rfl, bgG_text] at c2
  rw [e3] at c3
  rw [e4] at c4
  refine PureH.of_body Tryd.func11 rfl (by decide) (Nat.le_of_ble_eq_true rfl) fun w0 => ?_
  (repeat (first | refine RO.Sv ?_ | refine RO.Yv ?_ | refine RO.no rfl (by decide) rfl ?_ | refine RO.nil ?_ | refine DW.region ?_ | refine DW.seq ?_ | refine DW.block ?_ | refine DW.skip ?_ | refine DW.exit ?_ | refine DW.condT rfl ?_ | refine DW.condF rfl ?_))
  refine RO.sta (s_two rfl rfl) rfl ?_
  refine RO.sta (sta_call rfl rfl (term_pure 1 [1, 0] _)) rfl ?_
  refine RO.sta (s_two rfl rfl) rfl ?_
  refine RO.sta (sta_call rfl rfl (term_pure 2 [0, 0] _)) rfl ?_
  refine RO.sta (s_lit (pd := [(0, tmD ⟨1, [1, 0]⟩), (1, tmD ⟨2, [0, 0]⟩)]) (ds := [tmD ⟨1, [1, 0]⟩, tmD ⟨2, [0, 0]⟩]) (by decide) (by decide) rfl rfl (fun d hd => by simp at hd; rcases hd with rfl | rfl <;> rfl) rfl) rfl ?_
  (repeat (first | refine RO.Sv ?_ | refine RO.Yv ?_ | refine RO.no rfl (by decide) rfl ?_ | refine RO.nil ?_ | refine DW.region ?_ | refine DW.seq ?_ | refine DW.block ?_ | refine DW.skip ?_ | refine DW.exit ?_ | refine DW.condT rfl ?_ | refine DW.condF rfl ?_))
  refine RO.sta (sta_call rfl rfl (xy_pure _)) rfl ?_
  (repeat (first | refine RO.Sv ?_ | refine RO.Yv ?_ | refine RO.no rfl (by decide) rfl ?_ | refine RO.nil ?_ | refine DW.region ?_ | refine DW.seq ?_ | refine DW.block ?_ | refine DW.skip ?_ | refine DW.exit ?_ | refine DW.condT rfl ?_ | refine DW.condF rfl ?_))
  refine RO.sta (sta_call rfl rfl (c1 _)) rfl ?_
  (repeat (first | refine RO.Sv ?_ | refine RO.Yv ?_ | refine RO.no rfl (by decide) rfl ?_ | refine RO.nil ?_ | refine DW.region ?_ | refine DW.seq ?_ | refine DW.block ?_ | refine DW.skip ?_ | refine DW.exit ?_ | refine DW.condT rfl ?_ | refine DW.condF rfl ?_))
  refine RO.sta (sta_call rfl rfl (xy_pure _)) rfl ?_
  (repeat (first | refine RO.Sv ?_ | refine RO.Yv ?_ | refine RO.no rfl (by decide) rfl ?_ | refine RO.nil ?_ | refine DW.region ?_ | refine DW.seq ?_ | refine DW.block ?_ | refine DW.skip ?_ | refine DW.exit ?_ | refine DW.condT rfl ?_ | refine DW.condF rfl ?_))
  refine RO.sta (sta_call rfl rfl (c2 _)) rfl ?_
  (repeat (first | refine RO.Sv ?_ | refine RO.Yv ?_ | refine RO.no rfl (by decide) rfl ?_ | refine RO.nil ?_ | refine DW.region ?_ | refine DW.seq ?_ | refine DW.block ?_ | refine DW.skip ?_ | refine DW.exit ?_ | refine DW.condT rfl ?_ | refine DW.condF rfl ?_))
  refine RO.sta (sta_call rfl rfl (xy_pure _)) rfl ?_
  (repeat (first | refine RO.Sv ?_ | refine RO.Yv ?_ | refine RO.no rfl (by decide) rfl ?_ | refine RO.nil ?_ | refine DW.region ?_ | refine DW.seq ?_ | refine DW.block ?_ | refine DW.skip ?_ | refine DW.exit ?_ | refine DW.condT rfl ?_ | refine DW.condF rfl ?_))
  refine RO.sta (s_two rfl rfl) rfl ?_
  refine RO.sta (sta_call rfl rfl (c3 _)) rfl ?_
  (repeat (first | refine RO.Sv ?_ | refine RO.Yv ?_ | refine RO.no rfl (by decide) rfl ?_ | refine RO.nil ?_ | refine DW.region ?_ | refine DW.seq ?_ | refine DW.block ?_ | refine DW.skip ?_ | refine DW.exit ?_ | refine DW.condT rfl ?_ | refine DW.condF rfl ?_))
  refine RO.sta (sta_call rfl rfl (xy_pure _)) rfl ?_
  (repeat (first | refine RO.Sv ?_ | refine RO.Yv ?_ | refine RO.no rfl (by decide) rfl ?_ | refine RO.nil ?_ | refine DW.region ?_ | refine DW.seq ?_ | refine DW.block ?_ | refine DW.skip ?_ | refine DW.exit ?_ | refine DW.condT rfl ?_ | refine DW.condF rfl ?_))
  refine RO.sta (sta_call rfl rfl (c4 _)) rfl ?_
  (repeat (first | refine RO.Sv ?_ | refine RO.Yv ?_ | refine RO.no rfl (by decide) rfl ?_ | refine RO.nil ?_ | refine DW.region ?_ | refine DW.seq ?_ | refine DW.block ?_ | refine DW.skip ?_ | refine DW.exit ?_ | refine DW.condT rfl ?_ | refine DW.condF rfl ?_))
  refine RO.yes rfl rfl (OpD.of_sta (s_strEq (a := [120, 94, 50, 32, 43, 32, 52, 42, 120, 32, 43, 32, 52]) (b := [120, 94, 50, 32, 43, 32, 52, 42, 120, 32, 43, 32, 52]) rfl rfl) ?_)
  (repeat (first | refine RO.Sv ?_ | refine RO.Yv ?_ | refine RO.no rfl (by decide) rfl ?_ | refine RO.nil ?_ | refine DW.region ?_ | refine DW.seq ?_ | refine DW.block ?_ | refine DW.skip ?_ | refine DW.exit ?_ | refine DW.condT rfl ?_ | refine DW.condF rfl ?_))
  exact DW.ret ⟨.inl rfl, _, rfl, Over.refl _, .same _⟩

/-- What is wanted, as it stands: nothing if it need not be made. -/
def wantP (w : Int) (want : Pl) : Pl := if w = 0 then want else []

theorem pis_call {H : Heap} (x : Pl × Int) (w : Int) (want : Pl) {p o : Int} {n : Nat} {B : Int} (hn : n ≤ 3) (hB : B ≤ 1000000) (hw : w = 0 → want.length ≤ 4000000000000 ∧ PB 1 p o n B want) (h : x = pisT w want) :
    PureH Tryd.prog H 13 [plD x.1, I x.2, I w, plD (wantP w want)] (.bool true) := by
  have hx : x.1.length ≤ 4000000000000 ∧ ∀ t ∈ x.1, t.e.length ≤ 3 := by
    rw [h]
    unfold pisT doneT
    split
    · rename_i h0
      obtain ⟨h1, h2⟩ := hw h0
      split
      · exact ⟨Nat.zero_le _, fun t ht => by cases ht⟩
      · exact ⟨h1, fun t ht => by have := (h2.all t ht).len; omega⟩
    · exact ⟨Nat.zero_le _, fun t ht => by cases ht⟩
  refine polyIs_pure x.1 x.2 w (wantP w want) hx.1 hx.2 (fun h0 => ?_) ?_ H
  · obtain ⟨h1, h2⟩ := hw h0
    rw [wantP, if_pos h0]
    exact ⟨h1, fun t ht => (h2.all t ht).mok hn hB, topT_ge h2⟩
  · show x = _
    rw [h]
    unfold pisT wantP
    split <;> rfl

theorem padd_pis (r : Rg) (f g : Pl) : paddT r f g = pisT (polysCk r [f, g]) (sumT r.p r.order f g) := by
  unfold paddT pisT
  by_cases h : polysCk r [f, g] = 0
  · rw [if_neg (by simpa using h), if_pos h]
  · rw [if_pos h, if_neg h]

theorem pmul_pis (r : Rg) (f g : Pl) : pmulT r f g = pisT (polysCk r [f, g]) (prodT r.p r.order f g) := by
  unfold pmulT pisT
  by_cases h : polysCk r [f, g] = 0
  · rw [if_neg (by simpa using h), if_pos h]
    obtain ⟨hr, hal⟩ := polysCk_ok h
    have hfo := hal f (by simp)
    have hgo := hal g (by simp)
    have hr2 := ringCk_ok hr
    have hp := ckP_ok hr2.1
    by_cases hb : bigT f g = true
    · rw [if_pos hb]
      unfold doneT
      rw [if_pos (big_great (by omega) (ckP_prm hr2.1) (by omega) hfo.ok hgo.ok hb)]
    · rw [if_neg hb]
  · rw [if_pos h, if_neg h]

theorem sum_pb {r : Rg} {f g : Pl} (h : polysCk r [f, g] = 0) : r.n.toNat ≤ 3 ∧ (sumT r.p r.order f g).length ≤ 4000000000000 ∧ PB 1 r.p r.order r.n.toNat 400 (sumT r.p r.order f g) := by
  obtain ⟨hr, hal⟩ := polysCk_ok h
  have hfo := hal f (by simp)
  have hgo := hal g (by simp)
  have hr2 := ringCk_ok hr
  have hp := ckP_ok hr2.1
  have e1 := hfo.len
  have e2 := hgo.len
  have hsl := sumT_length (p := r.p) (o := r.order) f g
  exact ⟨by omega, by omega, (sumT_ok (by omega) f g hfo.ok hgo.ok).mono (by omega) (by omega)⟩

theorem prod_pb {r : Rg} {f g : Pl} (h : polysCk r [f, g] = 0) : r.n.toNat ≤ 3 ∧ (prodT r.p r.order f g).length ≤ 4000000000000 ∧ PB 1 r.p r.order r.n.toNat 400 (prodT r.p r.order f g) := by
  obtain ⟨hr, hal⟩ := polysCk_ok h
  have hfo := hal f (by simp)
  have hgo := hal g (by simp)
  have hr2 := ringCk_ok hr
  have hp := ckP_ok hr2.1
  have hpr : Prm r.p := ckP_prm hr2.1
  have hmul : f.length * g.length ≤ 2000 * 2000 := Nat.mul_le_mul hfo.len hgo.len
  have h0 : ∀ t ∈ f, TB 0 r.p r.n.toNat 200 t := fun t ht => (hfo.ok.all t ht).mono (by omega) (by omega)
  have hpl := prodT_length (o := r.order) (by omega) hpr hgo.ok (by omega) h0
  exact ⟨by omega, by omega, (prodT_ok (o := r.order) (by omega) hpr hgo.ok (by omega) h0).mono (by omega) (by omega)⟩

theorem polyOps_pure (r : Rg) (f g : Pl) (hf : f.length ≤ 4611686018427387904) (hg : g.length ≤ 4611686018427387904) : Pure Tryd.prog 3 [rgD r, plD f, plD g] (.bool true) := by
  intro H
  refine PureH.of_body Tryd.func3 rfl (by decide) (Nat.le_of_ble_eq_true rfl) fun w0 => ?_
  have c2 := two_polys hf hg
  (repeat (first | refine RO.Sv ?_ | refine RO.Yv ?_ | refine RO.no rfl (by decide) rfl ?_ | refine RO.nil ?_ | refine DW.region ?_ | refine DW.seq ?_ | refine DW.block ?_ | refine DW.skip ?_ | refine DW.exit ?_ | refine DW.condT rfl ?_ | refine DW.condF rfl ?_))
  refine RO.sta (sta_call rfl rfl (pAdd_pure r f g hf hg _)) rfl ?_
  (repeat (first | refine RO.Sv ?_ | refine RO.Yv ?_ | refine RO.no rfl (by decide) rfl ?_ | refine RO.nil ?_ | refine DW.region ?_ | refine DW.seq ?_ | refine DW.block ?_ | refine DW.skip ?_ | refine DW.exit ?_ | refine DW.condT rfl ?_ | refine DW.condF rfl ?_))
  refine RO.sta (sta_call rfl rfl (pMul_pure r f g hf hg _)) rfl ?_
  (repeat (first | refine RO.Sv ?_ | refine RO.Yv ?_ | refine RO.no rfl (by decide) rfl ?_ | refine RO.nil ?_ | refine DW.region ?_ | refine DW.seq ?_ | refine DW.block ?_ | refine DW.skip ?_ | refine DW.exit ?_ | refine DW.condT rfl ?_ | refine DW.condF rfl ?_))
  refine RO.sta (s_lit (pd := [(0, plD f), (1, plD g)]) (ds := [plD f, plD g]) (by decide) (by decide) rfl rfl (fun d hd => by simp at hd; rcases hd with rfl | rfl <;> rfl) rfl) rfl ?_
  refine RO.sta (sta_call rfl rfl (CheckPolys_pure r [f, g] (by simp) c2 _)) rfl ?_
  (repeat (first | refine RO.Sv ?_ | refine RO.Yv ?_ | refine RO.no rfl (by decide) rfl ?_ | refine RO.nil ?_ | refine DW.region ?_ | refine DW.seq ?_ | refine DW.block ?_ | refine DW.skip ?_ | refine DW.exit ?_ | refine DW.condT rfl ?_ | refine DW.condF rfl ?_))
  refine DW.cutg [(1, plD f), (2, plD g), (3, .ipt 4 [rgD r] 0 0), (7, plD (paddT r f g).1), (8, I (paddT r f g).2), (9, plD (pmulT r f g).1), (10, I (pmulT r f g).2), (11, I (polysCk r [f, g])), (12, plD (wantP (polysCk r [f, g]) (sumT r.p r.order f g))), (13, plD (wantP (polysCk r [f, g]) (prodT r.p r.order f g)))] H ?_ ?_
  rotate_left
  · unfold wantP
    by_cases hck : polysCk r [f, g] = 0
    case neg =>
      rw [if_neg hck, if_neg hck, show (polysCk r [f, g] == 0) = false by simpa using hck]
      (repeat (first | refine RO.Sv ?_ | refine RO.Yv ?_ | refine RO.no rfl (by decide) rfl ?_ | refine RO.nil ?_ | refine DW.region ?_ | refine DW.seq ?_ | refine DW.block ?_ | refine DW.skip ?_ | refine DW.exit ?_ | refine DW.condT rfl ?_ | refine DW.condF rfl ?_))
      exact ⟨Heap.sub_refl _, (by repeat first | exact trivial | refine HasG.one rfl ?_ | refine HasN.one rfl ?_ | refine HasG.nil1 rfl ?_)⟩
    obtain ⟨hr, hal⟩ := polysCk_ok hck
    have hfo := hal f (by simp)
    have hgo := hal g (by simp)
    have hr2 := ringCk_ok hr
    have hp := ckP_ok hr2.1
    have hpr : Prm r.p := ckP_prm hr2.1
    have e1 := hfo.len
    have e2 := hgo.len
    have hmul : f.length * g.length ≤ 2000 * 2000 := Nat.mul_le_mul e1 e2
    rw [if_pos hck, if_pos hck, show (polysCk r [f, g] == 0) = true by simpa using hck]
    (repeat (first | refine RO.Sv ?_ | refine RO.Yv ?_ | refine RO.no rfl (by decide) rfl ?_ | refine RO.nil ?_ | refine DW.region ?_ | refine DW.seq ?_ | refine DW.block ?_ | refine DW.skip ?_ | refine DW.exit ?_ | refine DW.condT rfl ?_ | refine DW.condF rfl ?_))
    refine DW.drawS 10 Tryd.mixed (by kernel_rfl) (by decide) ?_
    dsimp only [List.take, List.drop]
    (repeat (first | refine RS.Sv ?_ | refine RS.Yv ?_ | refine RS.no rfl (by decide) rfl ?_ | refine RS.nil ?_))
    refine RS.sta (fun H' hov => sta_call rfl rfl (refSum_pure r f g (n := r.n.toNat) (B := 200) (by omega) (by omega) hp (by omega) hfo.ok hgo.ok _)) rfl ?_
    (repeat (first | refine RS.Sv ?_ | refine RS.Yv ?_ | refine RS.no rfl (by decide) rfl ?_ | refine RS.nil ?_))
    refine RS.sta (fun H' hov => sta_call rfl rfl (refProduct_pure r f g (n := r.n.toNat) (B := 200) (C := 200) (by omega) (by omega) (by omega) (by omega) hr2.1 hpr (by omega) hfo.ok hgo.ok (by omega) (by omega) _)) rfl ?_
    (repeat (first | refine RS.Sv ?_ | refine RS.Yv ?_ | refine RS.no rfl (by decide) rfl ?_ | refine RS.nil ?_))
    (repeat (first | refine RO.Sv ?_ | refine RO.Yv ?_ | refine RO.no rfl (by decide) rfl ?_ | refine RO.nil ?_ | refine DW.region ?_ | refine DW.seq ?_ | refine DW.block ?_ | refine DW.skip ?_ | refine DW.exit ?_ | refine DW.condT rfl ?_ | refine DW.condF rfl ?_))
    exact ⟨Heap.sub_refl _, (by repeat first | exact trivial | refine HasG.one rfl ?_ | refine HasN.one rfl ?_ | refine HasG.nil1 rfl ?_)⟩
  have cA := fun H' => pis_call (H := H') (paddT r f g) (polysCk r [f, g]) (sumT r.p r.order f g) (p := r.p) (o := r.order) (n := if polysCk r [f, g] = 0 then r.n.toNat else 0) (B := 400) (by split <;> first | (rename_i h; exact (sum_pb h).1) | omega) (by omega) (fun h => by rw [if_pos h]; exact (sum_pb h).2) (padd_pis r f g)
  have cB := fun H' => pis_call (H := H') (pmulT r f g) (polysCk r [f, g]) (prodT r.p r.order f g) (p := r.p) (o := r.order) (n := if polysCk r [f, g] = 0 then r.n.toNat else 0) (B := 400) (by split <;> first | (rename_i h; exact (prod_pb h).1) | omega) (by omega) (fun h => by rw [if_pos h]; exact (prod_pb h).2) (pmul_pis r f g)
  (repeat (first | refine RO.Sv ?_ | refine RO.Yv ?_ | refine RO.no rfl (by decide) rfl ?_ | refine RO.nil ?_ | refine DW.region ?_ | refine DW.seq ?_ | refine DW.block ?_ | refine DW.skip ?_ | refine DW.exit ?_ | refine DW.condT rfl ?_ | refine DW.condF rfl ?_))
  refine DW.drawS 25 Tryd.mixed (by kernel_rfl) (by decide) ?_
  dsimp only [List.take, List.drop]
  refine RS.sta (fun H' hov => sta_call rfl rfl (polyBegun_pure _)) rfl ?_
  (repeat (first | refine RS.Sv ?_ | refine RS.Yv ?_ | refine RS.no rfl (by decide) rfl ?_ | refine RS.nil ?_))
  refine RS.yes rfl (fun H' hov => sta_call rfl rfl (pCheck_pure r f hf _)) rfl ?_
  (repeat (first | refine RS.Sv ?_ | refine RS.Yv ?_ | refine RS.no rfl (by decide) rfl ?_ | refine RS.nil ?_))
  refine RS.yes rfl (fun H' hov => sta_call rfl rfl (CheckPolys_pure r [f] (by simp) (fun u hu => by rw [List.mem_singleton.1 hu]; exact hf) _)) rfl ?_
  (repeat (first | refine RS.Sv ?_ | refine RS.Yv ?_ | refine RS.no rfl (by decide) rfl ?_ | refine RS.nil ?_))
  rw [show (polysCk r [f] == polysCk r [f]) = true by simp]
  (repeat (first | refine RS.Sv ?_ | refine RS.Yv ?_ | refine RS.no rfl (by decide) rfl ?_ | refine RS.nil ?_))
  refine RS.yes rfl (fun H' hov => sta_call rfl rfl (cA _)) rfl ?_
  (repeat (first | refine RS.Sv ?_ | refine RS.Yv ?_ | refine RS.no rfl (by decide) rfl ?_ | refine RS.nil ?_))
  refine RS.yes rfl (fun H' hov => sta_call rfl rfl (cB _)) rfl ?_
  (repeat (first | refine RS.Sv ?_ | refine RS.Yv ?_ | refine RS.no rfl (by decide) rfl ?_ | refine RS.nil ?_))
  (repeat (first | refine RO.Sv ?_ | refine RO.Yv ?_ | refine RO.no rfl (by decide) rfl ?_ | refine RO.nil ?_ | refine DW.region ?_ | refine DW.seq ?_ | refine DW.block ?_ | refine DW.skip ?_ | refine DW.exit ?_ | refine DW.condT rfl ?_ | refine DW.condF rfl ?_))
  exact DW.ret ⟨.inl rfl, _, rfl, Over.refl _, .same _⟩

end Go.Proofs.YtblileclefbklaaDoor

namespace Go.Proofs.YtblileclefbklaaDoor
open Go.RowKit Go.ChangeShapes Go.WideShapes Go.ChangeAt
set_option linter.unusedVariables false

set_option maxRecDepth 100000 in
theorem polyOps_lifted (os : Os) (started : os.Started) (H : Type) (enc : TypeId × Value → H) :
    ReturnsInHanded {} Tryd.checked os 3 .any (fun w args => (Rows.polyOpsSpec.pre enc Tryd.prog Tryd.f3 [] false w args ∧ laidMetH Tryd.prog Tryd.laidL w) ∧ sizedMet enc Tryd.prog Tryd.f3 (OpenSpec.ofChange Rows.polyOpsSpec) false w args) (Rows.polyOpsSpec.post enc Tryd.prog Tryd.f3 false true false false) := by
  refine returnsInHanded_of_change_and (C := Tryd.checked) (X := fun w _ => laidMetH Tryd.prog Tryd.laidL w) (fun _ _ _ hh h => h.of_heap hh) Tryd.ownK started (by kernel_rfl) Tryd.func3
    (ChangeSpec.witness_shaped (enc := enc) (C := Tryd.checked) (os := os) (X := fun w _ => laidMetH Tryd.prog Tryd.laidL w) false (World.doorLaid Tryd.prog 24 os) #[.agg #[.int .i64 0, .int .i64 0, .int .i64 0, .int .i64 0], .slice none 0 0, .slice none 0 0] 8 rfl (World.shaped_of_RefB (by kernel_rfl) (by kernel_rfl)) (by kernel_rfl) (by kernel_rfl) (by kernel_rfl) (Tryd.door_met os _)) ?_
  intro W base args ds gs before hval0 hW hcnd hwt hL _
  have hval : ∀ (j : Nat) t v, Tryd.f3.params[j]? = some t → args[j]? = some v → Value.okWide Tryd.prog W .any base t v := hval0
  have hW' := hW
  obtain ⟨p, q, hA0, hV, rfl, hfz, hnd⟩ := hW
  have hA : DataW.TrodAll enc Tryd.prog W 0 (fun _ => true) true Tryd.f3.params.toList args.toList ds p := hA0
  rw [Tryd.params3] at hA hval
  obtain ⟨v0, vs0, d0, ds0, p0, q0, hargs, rfl, rfl, h0, r0⟩ := trodAll_cons hA
  obtain ⟨v1, vs1, d1, ds1, p1, q1, rfl, rfl, rfl, h1, r1⟩ := trodAll_cons r0
  obtain ⟨v2, vs2, d2, ds2, p2, q2, rfl, rfl, rfl, h2, r2⟩ := trodAll_cons r1
  obtain ⟨rfl, rfl, rfl⟩ := trodAll_nil r2
  obtain rfl : args = #[v0, v1, v2] := by cases args; simp_all
  obtain ⟨rfl, rfl⟩ := trodVars_none hV
  rw [Tryd.params3] at hwt
  obtain ⟨w0, hwt⟩ := weights_head hwt
  obtain ⟨w1, hwt⟩ := weights_head hwt
  obtain ⟨w2, hwt⟩ := weights_head hwt
  obtain ⟨c0, rfl, _⟩ := okWide_struct Tryd.underlying23 (hval 0 _ v0 rfl rfl)
  obtain ⟨s1, n1, k1, rfl⟩ := okWide_slice Tryd.underlying25 (hval 1 _ v1 rfl rfl)
  obtain ⟨s2, n2, k2, rfl⟩ := okWide_slice Tryd.underlying25 (hval 2 _ v2 rfl rfl)
  obtain ⟨x0, g0, b0⟩ := arg_agg Tryd.opensRing (fun _ => rfl) h0 w0
  obtain ⟨x1, g1, b1⟩ := arg_cell Tryd.opensPoly (fun _ => rfl) (slice_cells _ _ _) h1 w1
  obtain ⟨x2, g2, b2⟩ := arg_cell Tryd.opensPoly (fun _ => rfl) (slice_cells _ _ _) h2 w2
  refine (law_calls (polyOps_pure x0 x1 x2 (plLe b1) (plLe b2)) (Tryd.tabs_of_laid hL) (.cons g0 (.cons g1 (.cons g2 .nil)))).mono fun e W' ⟨he, hb⟩ => ?_
  subst he
  exact ⟨_, rfl, law_post hW' rfl Tryd.laidOutK (of_decide_eq_true (by kernel_rfl)) (tb := 4) rfl Tryd.underlying4 rfl rfl rfl hb⟩

theorem polyOps_holds : Rows.PolyOpsSaid :=
  OpenClaim.holds_of_wide 3 Tryd.f3 rfl rfl rfl rfl rfl rfl rfl ⟨rfl, rfl, rfl, rfl, rfl⟩ rfl rfl rfl rfl rfl (by kernel_rfl) Tryd.func3 (by kernel_rfl)
    (of_decide_eq_true (by kernel_rfl)) (by unfold Func.isWrapper; first | (rw [if_pos (by decide +kernel)]; kernel_rfl) | (rw [if_neg (by decide +kernel)]; exact ⟨rfl, rfl⟩))
    (fun os started H enc _ => polyOps_lifted os started H enc)

/-- The tied card. -/
theorem polyOps_card_holds : Rows.PolyOpsCardSaid :=
  Claim7.holds_tied_plain_at .later [] [.data, .data, .data] true Rows.polyOpsCard.stood.harness false
    polyOps_holds (fun _ h => by cases h) (by kernel_rfl) (fun _ h => by cases h) polyOps_row_tie rfl ⟨rfl, rfl⟩ (by kernel_rfl) rfl
    (fun f fn hf hfn => by
      obtain rfl : f = 3 := Option.some.inj ((show Tryd.prog.funcNamed "syzygist/syzygistlaw.PolyOps" = some 3 by kernel_rfl).symm.trans hf) |>.symm
      obtain rfl : fn = Tryd.f3 := (Option.some.inj (Tryd.func3.symm.trans hfn)).symm
      exact ⟨by kernel_rfl, fun j t ht => by
        rw [Tryd.params3] at ht
        have hm : t ∈ [23, 25, 25] := by simpa using Array.mem_of_getElem? ht
        have hall : ([23, 25, 25].all fun u => !Tryd.prog.wantsStandIn u) = true := by kernel_rfl
        exact (show Tryd.prog.wantsStandIn t = false by simpa using List.all_eq_true.1 hall t hm)⟩)
    (by kernel_rfl)

end Go.Proofs.YtblileclefbklaaDoor
