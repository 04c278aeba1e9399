/-
  PolyMakes holds: whatever it is handed, the law answers true, and its arguments read as before. No condition.
-/
import Derived.Test.YtblileclefbklaaDoorKPmc16
import Derived.Test.YtblileclefbklaaDoorKPmc17
import Derived.Test.YtblileclefbklaaDoorKPmc8

namespace Go.Proofs.YtblileclefbklaaDoor
open Go.RowKit
set_option linter.unusedVariables false
set_option linter.unusedSimpArgs false
set_option maxHeartbeats 8000000

theorem s_two {P : Program} {H : Heap} {e : Env} {dst : Option Tmp} {ty : TypeId} {pos : String} {af : Array Edge} {gd : Option (Nat × Bool)} {t E : TypeId} {x y : Operand} {a b : Int} {bytes : Nat} {zd : List D} [SliceT P t E] [ElT P E 1 zd bytes] (hx : e.ev x = some (I a)) (hy : e.ev y = some (I b)) :
    Sta P H e ⟨dst, .buildSlice t 2 #[(0, x), (1, y)], ty, pos, af, gd⟩ (intsD [a, b]) := by
  have hz : zd.length = 1 := (ElT.z (P := P) (E := E) (k := 1) (zd := zd) (bytes := bytes)).len
  obtain ⟨z, rfl⟩ : ∃ z, zd = [z] := by
    match zd, hz with
    | [z], _ => exact ⟨z, rfl⟩
  exact s_lit (P := P) (t := t) (E := E) (bytes := bytes) (zd := [z]) (pd := [(0, I a), (1, I b)]) (ds := [I a, I b]) (by decide) (by decide) (by simp [evParts, hx, hy]) rfl (fun d hd => by simp at hd; rcases hd with rfl | rfl <;> rfl) rfl

def bgF : Pl := [⟨1, [1, 0]⟩, ⟨2, [0, 0]⟩]
def bgG : Pl := [⟨1, [2, 0]⟩, ⟨4, [1, 0]⟩, ⟨4, [0, 0]⟩]

theorem bgG_text : printT bgG = [120, 94, 50, 32, 43, 32, 52, 42, 120, 32, 43, 32, 52] := by
  have d2 : Lib.itoa 2 = [50] := by rw [itoa_pos (by decide)]; show Lib.decDigits 2 = _; rw [Lib.decDigits, dif_pos (by decide)]; rfl
  have d4 : Lib.itoa 4 = [52] := by rw [itoa_pos (by decide)]; show Lib.decDigits 4 = _; rw [Lib.decDigits, dif_pos (by decide)]; rfl
  simp [printT, bgG, termTx, partsT, headP, partsGo, partOf, d2, d4, Lib.join_cons, Lib.joinTail, Lib.join_one]

theorem polyBegun_pure : Pure Tryd.prog 11 [] (.bool true) := by
  intro H
  have e1 : pmulT xyR bgF bgF = (bgG, 0) := by kernel_rfl
  have e2 : polysCk xyR [bgG] = 0 := by kernel_rfl
  have e3 : valueR xyR bgF [3, 0] = (5, 0) := by kernel_rfl
  have e4 : polysCk xyR [bgF] = 0 := by kernel_rfl
  have c1 := pMul_pure xyR bgF bgF (by decide) (by decide)
  have c2 := Print_pure xyR bgG (by decide)
  have c3 := Value_pure xyR bgF [3, 0] (by decide) (by decide)
  have c4 := pCheck_pure xyR bgF (by decide)
  rw [e1] at c1
  rw [e2, if_pos rfl, bgG_text] at c2
  rw [e3] at c3
  rw [e4] at c4
  refine PureH.of_body Tryd.func11 rfl (by decide) (Nat.le_of_ble_eq_true rfl) fun w0 => ?_
  (repeat (first | refine RO.Sv ?_ | refine RO.Yv ?_ | refine RO.no rfl (by decide) rfl ?_ | refine RO.nil ?_ | refine DW.region ?_ | refine DW.seq ?_ | refine DW.block ?_ | refine DW.skip ?_ | refine DW.exit ?_ | refine DW.condT rfl ?_ | refine DW.condF rfl ?_))
  refine RO.sta (s_two rfl rfl) rfl ?_
  refine RO.sta (sta_call rfl rfl (term_pure 1 [1, 0] _)) rfl ?_
  refine RO.sta (s_two rfl rfl) rfl ?_
  refine RO.sta (sta_call rfl rfl (term_pure 2 [0, 0] _)) rfl ?_
  refine RO.sta (s_lit (pd := [(0, tmD ⟨1, [1, 0]⟩), (1, tmD ⟨2, [0, 0]⟩)]) (ds := [tmD ⟨1, [1, 0]⟩, tmD ⟨2, [0, 0]⟩]) (by decide) (by decide) rfl rfl (fun d hd => by simp at hd; rcases hd with rfl | rfl <;> rfl) rfl) rfl ?_
  (repeat (first | refine RO.Sv ?_ | refine RO.Yv ?_ | refine RO.no rfl (by decide) rfl ?_ | refine RO.nil ?_ | refine DW.region ?_ | refine DW.seq ?_ | refine DW.block ?_ | refine DW.skip ?_ | refine DW.exit ?_ | refine DW.condT rfl ?_ | refine DW.condF rfl ?_))
  refine RO.sta (sta_call rfl rfl (xy_pure _)) rfl ?_
  (repeat (first | refine RO.Sv ?_ | refine RO.Yv ?_ | refine RO.no rfl (by decide) rfl ?_ | refine RO.nil ?_ | refine DW.region ?_ | refine DW.seq ?_ | refine DW.block ?_ | refine DW.skip ?_ | refine DW.exit ?_ | refine DW.condT rfl ?_ | refine DW.condF rfl ?_))
  refine RO.sta (sta_call rfl rfl (c1 _)) rfl ?_
  (repeat (first | refine RO.Sv ?_ | refine RO.Yv ?_ | refine RO.no rfl (by decide) rfl ?_ | refine RO.nil ?_ | refine DW.region ?_ | refine DW.seq ?_ | refine DW.block ?_ | refine DW.skip ?_ | refine DW.exit ?_ | refine DW.condT rfl ?_ | refine DW.condF rfl ?_))
  refine RO.sta (sta_call rfl rfl (xy_pure _)) rfl ?_
  (repeat (first | refine RO.Sv ?_ | refine RO.Yv ?_ | refine RO.no rfl (by decide) rfl ?_ | refine RO.nil ?_ | refine DW.region ?_ | refine DW.seq ?_ | refine DW.block ?_ | refine DW.skip ?_ | refine DW.exit ?_ | refine DW.condT rfl ?_ | refine DW.condF rfl ?_))
  refine RO.sta (sta_call rfl rfl (c2 _)) rfl ?_
  (repeat (first | refine RO.Sv ?_ | refine RO.Yv ?_ | refine RO.no rfl (by decide) rfl ?_ | refine RO.nil ?_ | refine DW.region ?_ | refine DW.seq ?_ | refine DW.block ?_ | refine DW.skip ?_ | refine DW.exit ?_ | refine DW.condT rfl ?_ | refine DW.condF rfl ?_))
  refine RO.sta (sta_call rfl rfl (xy_pure _)) rfl ?_
  (repeat (first | refine RO.Sv ?_ | refine RO.Yv ?_ | refine RO.no rfl (by decide) rfl ?_ | refine RO.nil ?_ | refine DW.region ?_ | refine DW.seq ?_ | refine DW.block ?_ | refine DW.skip ?_ | refine DW.exit ?_ | refine DW.condT rfl ?_ | refine DW.condF rfl ?_))
  refine RO.sta (s_two rfl rfl) rfl ?_
  refine RO.sta (sta_call rfl rfl (c3 _)) rfl ?_
  (repeat (first | refine RO.Sv ?_ | refine RO.Yv ?_ | refine RO.no rfl (by decide) rfl ?_ | refine RO.nil ?_ | refine DW.region ?_ | refine DW.seq ?_ | refine DW.block ?_ | refine DW.skip ?_ | refine DW.exit ?_ | refine DW.condT rfl ?_ | refine DW.condF rfl ?_))
  refine RO.sta (sta_call rfl rfl (xy_pure _)) rfl ?_
  (repeat (first | refine RO.Sv ?_ | refine RO.Yv ?_ | refine RO.no rfl (by decide) rfl ?_ | refine RO.nil ?_ | refine DW.region ?_ | refine DW.seq ?_ | refine DW.block ?_ | refine DW.skip ?_ | refine DW.exit ?_ | refine DW.condT rfl ?_ | refine DW.condF rfl ?_))
  refine RO.sta (sta_call rfl rfl (c4 _)) rfl ?_
  (repeat (first | refine RO.Sv ?_ | refine RO.Yv ?_ | refine RO.no rfl (by decide) rfl ?_ | refine RO.nil ?_ | refine DW.region ?_ | refine DW.seq ?_ | refine DW.block ?_ | refine DW.skip ?_ | refine DW.exit ?_ | refine DW.condT rfl ?_ | refine DW.condF rfl ?_))
  refine RO.yes rfl rfl (OpD.of_sta (s_strEq (a := [120, 94, 50, 32, 43, 32, 52, 42, 120, 32, 43, 32, 52]) (b := [120, 94, 50, 32, 43, 32, 52, 42, 120, 32, 43, 32, 52]) rfl rfl) ?_)
  (repeat (first | refine RO.Sv ?_ | refine RO.Yv ?_ | refine RO.no rfl (by decide) rfl ?_ | refine RO.nil ?_ | refine DW.region ?_ | refine DW.seq ?_ | refine DW.block ?_ | refine DW.skip ?_ | refine DW.exit ?_ | refine DW.condT rfl ?_ | refine DW.condF rfl ?_))
  exact DW.ret ⟨.inl rfl, _, rfl, Over.refl _, .same _⟩

/-- What is wanted, as it stands: nothing if it need not be made. -/
def wantP (w : Int) (want : Pl) : Pl := if w = 0 then want else []

theorem pis_call {H : Heap} (x : Pl × Int) (w : Int) (want : Pl) {p o : Int} {n : Nat} {B : Int} (hn : n ≤ 3) (hB : B ≤ 1000000) (hw : w = 0 → want.length ≤ 4000000000000 ∧ PB 1 p o n B want) (h : x = pisT w want) :
    PureH Tryd.prog H 13 [plD x.1, I x.2, I w, plD (wantP w want)] (.bool true) := by
  have hx : x.1.length ≤ 4000000000000 ∧ ∀ t ∈ x.1, t.e.length ≤ 3 := by
    rw [h]
    unfold pisT doneT
    split
    · rename_i h0
      obtain ⟨h1, h2⟩ := hw h0
      split
      · exact ⟨Nat.zero_le _, fun t ht => by cases ht⟩
      · exact ⟨h1, fun t ht => by have := (h2.all t ht).len; omega⟩
    · exact ⟨Nat.zero_le _, fun t ht => by cases ht⟩
  refine polyIs_pure x.1 x.2 w (wantP w want) hx.1 hx.2 (fun h0 => ?_) ?_ H
  · obtain ⟨h1, h2⟩ := hw h0
    rw [wantP, if_pos h0]
    exact ⟨h1, fun t ht => (h2.all t ht).mok hn hB, topT_ge h2⟩
  · show x = _
    rw [h]
    unfold pisT wantP
    split <;> rfl

theorem padd_pis (r : Rg) (f g : Pl) : paddT r f g = pisT (polysCk r [f, g]) (sumT r.p r.order f g) := by
  unfold paddT pisT
  by_cases h : polysCk r [f, g] = 0
  · rw [if_neg (by simpa using h), if_pos h]
  · rw [if_pos h, if_neg h]

theorem pmul_pis (r : Rg) (f g : Pl) : pmulT r f g = pisT (polysCk r [f, g]) (prodT r.p r.order f g) := by
  unfold pmulT pisT
  by_cases h : polysCk r [f, g] = 0
  · rw [if_neg (by simpa using h), if_pos h]
    obtain ⟨hr, hal⟩ := polysCk_ok h
    have hfo := hal f (by simp)
    have hgo := hal g (by simp)
    have hr2 := ringCk_ok hr
    have hp := ckP_ok hr2.1
    by_cases hb : bigT f g = true
    · rw [if_pos hb]
      unfold doneT
      rw [if_pos (big_great (by omega) (ckP_prm hr2.1) (by omega) hfo.ok hgo.ok hb)]
    · rw [if_neg hb]
  · rw [if_pos h, if_neg h]

theorem sum_pb {r : Rg} {f g : Pl} (h : polysCk r [f, g] = 0) : r.n.toNat ≤ 3 ∧ (sumT r.p r.order f g).length ≤ 4000000000000 ∧ PB 1 r.p r.order r.n.toNat 400 (sumT r.p r.order f g) := by
  obtain ⟨hr, hal⟩ := polysCk_ok h
  have hfo := hal f (by simp)
  have hgo := hal g (by simp)
  have hr2 := ringCk_ok hr
  have hp := ckP_ok hr2.1
  have e1 := hfo.len
  have e2 := hgo.len
  have hsl := sumT_length (p := r.p) (o := r.order) f g
  exact ⟨by omega, by omega, (sumT_ok (by omega) f g hfo.ok hgo.ok).mono (by omega) (by omega)⟩

theorem prod_pb {r : Rg} {f g : Pl} (h : polysCk r [f, g] = 0) : r.n.toNat ≤ 3 ∧ (prodT r.p r.order f g).length ≤ 4000000000000 ∧ PB 1 r.p r.order r.n.toNat 400 (prodT r.p r.order f g) := by
  obtain ⟨hr, hal⟩ := polysCk_ok h
  have hfo := hal f (by simp)
  have hgo := hal g (by simp)
  have hr2 := ringCk_ok hr
  have hp := ckP_ok hr2.1
  have hpr : Prm r.p := ckP_prm hr2.1
  have hmul : f.length * g.length ≤ 2000 * 2000 := Nat.mul_le_mul hfo.len hgo.len
  have h0 : ∀ t ∈ f, TB 0 r.p r.n.toNat 200 t := fun t ht => (hfo.ok.all t ht).mono (by omega) (by omega)
  have hpl := prodT_length (o := r.order) (by omega) hpr hgo.ok (by omega) h0
  exact ⟨by omega, by omega, (prodT_ok (o := r.order) (by omega) hpr hgo.ok (by omega) h0).mono (by omega) (by omega)⟩

theorem polyOps_pure (r : Rg) (f g : Pl) (hf : f.length ≤ 4611686018427387904) (hg : g.length ≤ 4611686018427387904) : Pure Tryd.prog 3 [rgD r, plD f, plD g] (.bool true) := by
  intro H
  refine PureH.of_body Tryd.func3 rfl (by decide) (Nat.le_of_ble_eq_true rfl) fun w0 => ?_
  have c2 := two_polys hf hg
  (repeat (first | refine RO.Sv ?_ | refine RO.Yv ?_ | refine RO.no rfl (by decide) rfl ?_ | refine RO.nil ?_ | refine DW.region ?_ | refine DW.seq ?_ | refine DW.block ?_ | refine DW.skip ?_ | refine DW.exit ?_ | refine DW.condT rfl ?_ | refine DW.condF rfl ?_))
  refine RO.sta (sta_call rfl rfl (pAdd_pure r f g hf hg _)) rfl ?_
  (repeat (first | refine RO.Sv ?_ | refine RO.Yv ?_ | refine RO.no rfl (by decide) rfl ?_ | refine RO.nil ?_ | refine DW.region ?_ | refine DW.seq ?_ | refine DW.block ?_ | refine DW.skip ?_ | refine DW.exit ?_ | refine DW.condT rfl ?_ | refine DW.condF rfl ?_))
  refine RO.sta (sta_call rfl rfl (pMul_pure r f g hf hg _)) rfl ?_
  (repeat (first | refine RO.Sv ?_ | refine RO.Yv ?_ | refine RO.no rfl (by decide) rfl ?_ | refine RO.nil ?_ | refine DW.region ?_ | refine DW.seq ?_ | refine DW.block ?_ | refine DW.skip ?_ | refine DW.exit ?_ | refine DW.condT rfl ?_ | refine DW.condF rfl ?_))
  refine RO.sta (s_lit (pd := [(0, plD f), (1, plD g)]) (ds := [plD f, plD g]) (by decide) (by decide) rfl rfl (fun d hd => by simp at hd; rcases hd with rfl | rfl <;> rfl) rfl) rfl ?_
  refine RO.sta (sta_call rfl rfl (CheckPolys_pure r [f, g] (by simp) c2 _)) rfl ?_
  (repeat (first | refine RO.Sv ?_ | refine RO.Yv ?_ | refine RO.no rfl (by decide) rfl ?_ | refine RO.nil ?_ | refine DW.region ?_ | refine DW.seq ?_ | refine DW.block ?_ | refine DW.skip ?_ | refine DW.exit ?_ | refine DW.condT rfl ?_ | refine DW.condF rfl ?_))
  refine DW.cutg [(1, plD f), (2, plD g), (3, .ipt 4 [rgD r] 0 0), (7, plD (paddT r f g).1), (8, I (paddT r f g).2), (9, plD (pmulT r f g).1), (10, I (pmulT r f g).2), (11, I (polysCk r [f, g])), (12, plD (wantP (polysCk r [f, g]) (sumT r.p r.order f g))), (13, plD (wantP (polysCk r [f, g]) (prodT r.p r.order f g)))] H ?_ ?_
  rotate_left
  · unfold wantP
    by_cases hck : polysCk r [f, g] = 0
    case neg =>
      rw [if_neg hck, if_neg hck, show (polysCk r [f, g] == 0) = false by simpa using hck]
      (repeat (first | refine RO.Sv ?_ | refine RO.Yv ?_ | refine RO.no rfl (by decide) rfl ?_ | refine RO.nil ?_ | refine DW.region ?_ | refine DW.seq ?_ | refine DW.block ?_ | refine DW.skip ?_ | refine DW.exit ?_ | refine DW.condT rfl ?_ | refine DW.condF rfl ?_))
      exact ⟨Heap.sub_refl _, (by repeat first | exact trivial | refine HasG.one rfl ?_ | refine HasN.one rfl ?_ | refine HasG.nil1 rfl ?_)⟩
    obtain ⟨hr, hal⟩ := polysCk_ok hck
    have hfo := hal f (by simp)
    have hgo := hal g (by simp)
    have hr2 := ringCk_ok hr
    have hp := ckP_ok hr2.1
    have hpr : Prm r.p := ckP_prm hr2.1
    have e1 := hfo.len
    have e2 := hgo.len
    have hmul : f.length * g.length ≤ 2000 * 2000 := Nat.mul_le_mul e1 e2
    rw [if_pos hck, if_pos hck, show (polysCk r [f, g] == 0) = true by simpa using hck]
    (repeat (first | refine RO.Sv ?_ | refine RO.Yv ?_ | refine RO.no rfl (by decide) rfl ?_ | refine RO.nil ?_ | refine DW.region ?_ | refine DW.seq ?_ | refine DW.block ?_ | refine DW.skip ?_ | refine DW.exit ?_ | refine DW.condT rfl ?_ | refine DW.condF rfl ?_))
    refine DW.drawS 10 Tryd.mixed (by kernel_rfl) (by decide) ?_
    dsimp only [List.take, List.drop]
    (repeat (first | refine RS.Sv ?_ | refine RS.Yv ?_ | refine RS.no rfl (by decide) rfl ?_ | refine RS.nil ?_))
    refine RS.sta (fun H' hov => sta_call rfl rfl (refSum_pure r f g (n := r.n.toNat) (B := 200) (by omega) (by omega) hp (by omega) hfo.ok hgo.ok _)) rfl ?_
    (repeat (first | refine RS.Sv ?_ | refine RS.Yv ?_ | refine RS.no rfl (by decide) rfl ?_ | refine RS.nil ?_))
    refine RS.sta (fun H' hov => sta_call rfl rfl (refProduct_pure r f g (n := r.n.toNat) (B := 200) (C := 200) (by omega) (by omega) (by omega) (by omega) hr2.1 hpr (by omega) hfo.ok hgo.ok (by omega) (by omega) _)) rfl ?_
    (repeat (first | refine RS.Sv ?_ | refine RS.Yv ?_ | refine RS.no rfl (by decide) rfl ?_ | refine RS.nil ?_))
    (repeat (first | refine RO.Sv ?_ | refine RO.Yv ?_ | refine RO.no rfl (by decide) rfl ?_ | refine RO.nil ?_ | refine DW.region ?_ | refine DW.seq ?_ | refine DW.block ?_ | refine DW.skip ?_ | refine DW.exit ?_ | refine DW.condT rfl ?_ | refine DW.condF rfl ?_))
    exact ⟨Heap.sub_refl _, (by repeat first | exact trivial | refine HasG.one rfl ?_ | refine HasN.one rfl ?_ | refine HasG.nil1 rfl ?_)⟩
  have cA := fun H' => pis_call (H := H') (paddT r f g) (polysCk r [f, g]) (sumT r.p r.order f g) (p := r.p) (o := r.order) (n := if polysCk r [f, g] = 0 then r.n.toNat else 0) (B := 400) (by split <;> first | (rename_i h; exact (sum_pb h).1) | omega) (by omega) (fun h => by rw [if_pos h]; exact (sum_pb h).2) (padd_pis r f g)
  have cB := fun H' => pis_call (H := H') (pmulT r f g) (polysCk r [f, g]) (prodT r.p r.order f g) (p := r.p) (o := r.order) (n := if polysCk r [f, g] = 0 then r.n.toNat else 0) (B := 400) (by split <;> first | (rename_i h; exact (prod_pb h).1) | omega) (by omega) (fun h => by rw [if_pos h]; exact (prod_pb h).2) (pmul_pis r f g)
  (repeat (first | refine RO.Sv ?_ | refine RO.Yv ?_ | refine RO.no rfl (by decide) rfl ?_ | refine RO.nil ?_ | refine DW.region ?_ | refine DW.seq ?_ | refine DW.block ?_ | refine DW.skip ?_ | refine DW.exit ?_ | refine DW.condT rfl ?_ | refine DW.condF rfl ?_))
  refine DW.drawS 25 Tryd.mixed (by kernel_rfl) (by decide) ?_
  dsimp only [List.take, List.drop]
  refine RS.sta (fun H' hov => sta_call rfl rfl (polyBegun_pure _)) rfl ?_
  (repeat (first | refine RS.Sv ?_ | refine RS.Yv ?_ | refine RS.no rfl (by decide) rfl ?_ | refine RS.nil ?_))
  refine RS.yes rfl (fun H' hov => sta_call rfl rfl (pCheck_pure r f hf _)) rfl ?_
  (repeat (first | refine RS.Sv ?_ | refine RS.Yv ?_ | refine RS.no rfl (by decide) rfl ?_ | refine RS.nil ?_))
  refine RS.yes rfl (fun H' hov => sta_call rfl rfl (CheckPolys_pure r [f] (by simp) (fun u hu => by rw [List.mem_singleton.1 hu]; exact hf) _)) rfl ?_
  (repeat (first | refine RS.Sv ?_ | refine RS.Yv ?_ | refine RS.no rfl (by decide) rfl ?_ | refine RS.nil ?_))
  rw [show (polysCk r [f] == polysCk r [f]) = true by simp]
  (repeat (first | refine RS.Sv ?_ | refine RS.Yv ?_ | refine RS.no rfl (by decide) rfl ?_ | refine RS.nil ?_))
  refine RS.yes rfl (fun H' hov => sta_call rfl rfl (cA _)) rfl ?_
  (repeat (first | refine RS.Sv ?_ | refine RS.Yv ?_ | refine RS.no rfl (by decide) rfl ?_ | refine RS.nil ?_))
  refine RS.yes rfl (fun H' hov => sta_call rfl rfl (cB _)) rfl ?_
  (repeat (first | refine RS.Sv ?_ | refine RS.Yv ?_ | refine RS.no rfl (by decide) rfl ?_ | refine RS.nil ?_))
  (repeat (first | refine RO.Sv ?_ | refine RO.Yv ?_ | refine RO.no rfl (by decide) rfl ?_ | refine RO.nil ?_ | refine DW.region ?_ | refine DW.seq ?_ | refine DW.block ?_ | refine DW.skip ?_ | refine DW.exit ?_ | refine DW.condT rfl ?_ | refine DW.condF rfl ?_))
  exact DW.ret ⟨.inl rfl, _, rfl, Over.refl _, .same _⟩

end Go.Proofs.YtblileclefbklaaDoor

namespace Go.Proofs.YtblileclefbklaaDoor
open Go.RowKit
set_option linter.unusedVariables false
set_option linter.unusedSimpArgs false
set_option maxHeartbeats 8000000

theorem of_pis (r : Rg) (l : Pl) : ofT r l = pisT (termsCk r l) (ofGo r.p r.order l []) := by
  unfold ofT pisT
  by_cases h : termsCk r l = 0
  · rw [if_pos h, if_pos h]
    unfold doneT
    rw [of_small (termsCk_ok h), if_neg (by decide)]
  · rw [if_neg h, if_neg h]

theorem of_pb {r : Rg} {l : Pl} (h : termsCk r l = 0) : r.n.toNat ≤ 3 ∧ (ofGo r.p r.order l []).length ≤ 4000000000000 ∧ PB 1 r.p r.order r.n.toNat 400 (ofGo r.p r.order l []) := by
  have hk := termsCk_ok h
  have hr2 := ringCk_ok hk.ring
  have hp := ckP_ok hr2.1
  have h1 := ofGo_length (p := r.p) (o := r.order) l []
  have h2 := hk.len
  simp only [List.length_nil] at h1
  exact ⟨by omega, by omega, (ofGo_ok (by omega) hk.all (PB.nil _ _ _ _ _)).mono (by omega) (by omega)⟩

/-- What is wrong with a polynomial and a point. -/
def valCk (r : Rg) (f : Pl) (at' : List Int) : Int := if polysCk r [f] = 0 then atCk r at' else polysCk r [f]

theorem valueR_2 (r : Rg) (f : Pl) (at' : List Int) : (valueR r f at').2 = valCk r f at' := by
  unfold valueR valCk
  by_cases h : polysCk r [f] = 0
  · rw [if_neg (by simpa using h), if_pos h]
    by_cases h2 : atCk r at' = 0
    · rw [if_neg (by simpa using h2), h2]
    · rw [if_pos h2]
  · rw [if_pos h, if_neg h]

theorem valueR_1 (r : Rg) (f : Pl) (at' : List Int) : (valueR r f at').1 = if valCk r f at' = 0 then valT r.p at' f else 0 := by
  unfold valueR valCk
  by_cases h : polysCk r [f] = 0
  · rw [if_neg (by simpa using h), if_pos h]
    by_cases h2 : atCk r at' = 0
    · rw [if_neg (by simpa using h2), if_pos h2]
    · rw [if_pos h2, if_neg h2]
  · rw [if_pos h, if_neg h, if_neg h]

theorem polyMakes_pure (r : Rg) (l f : Pl) (at' : List Int) (hl : l.length ≤ 4611686018427387904) (hf : f.length ≤ 4611686018427387904) (hat : at'.length ≤ 4611686018427387904) : Pure Tryd.prog 4 [rgD r, plD l, plD f, intsD at'] (.bool true) := by
  intro H
  refine PureH.of_body Tryd.func4 rfl (by decide) (Nat.le_of_ble_eq_true rfl) fun w0 => ?_
  have hf1 : ∀ u ∈ [f], u.length ≤ 4611686018427387904 := fun u hu => by rw [List.mem_singleton.1 hu]; exact hf
  (repeat (first | refine RO.Sv ?_ | refine RO.Yv ?_ | refine RO.no rfl (by decide) rfl ?_ | refine RO.nil ?_ | refine DW.region ?_ | refine DW.seq ?_ | refine DW.block ?_ | refine DW.skip ?_ | refine DW.exit ?_ | refine DW.condT rfl ?_ | refine DW.condF rfl ?_))
  refine RO.sta (sta_call rfl rfl (Of_pure r l hl _)) rfl ?_
  (repeat (first | refine RO.Sv ?_ | refine RO.Yv ?_ | refine RO.no rfl (by decide) rfl ?_ | refine RO.nil ?_ | refine DW.region ?_ | refine DW.seq ?_ | refine DW.block ?_ | refine DW.skip ?_ | refine DW.exit ?_ | refine DW.condT rfl ?_ | refine DW.condF rfl ?_))
  refine RO.sta (sta_call rfl rfl (Value_pure r f at' hf hat _)) rfl ?_
  (repeat (first | refine RO.Sv ?_ | refine RO.Yv ?_ | refine RO.no rfl (by decide) rfl ?_ | refine RO.nil ?_ | refine DW.region ?_ | refine DW.seq ?_ | refine DW.block ?_ | refine DW.skip ?_ | refine DW.exit ?_ | refine DW.condT rfl ?_ | refine DW.condF rfl ?_))
  refine RO.sta (sta_call rfl rfl (Print_pure r f hf _)) rfl ?_
  (repeat (first | refine RO.Sv ?_ | refine RO.Yv ?_ | refine RO.no rfl (by decide) rfl ?_ | refine RO.nil ?_ | refine DW.region ?_ | refine DW.seq ?_ | refine DW.block ?_ | refine DW.skip ?_ | refine DW.exit ?_ | refine DW.condT rfl ?_ | refine DW.condF rfl ?_))
  refine DW.drawS 9 Tryd.mixed (by kernel_rfl) (by decide) ?_
  dsimp only [List.take, List.drop]
  (repeat (first | refine RS.Sv ?_ | refine RS.Yv ?_ | refine RS.no rfl (by decide) rfl ?_ | refine RS.nil ?_))
  refine RS.sta (fun H' hov => sta_call rfl rfl (CheckTerms_pure r l hl _)) rfl ?_
  (repeat (first | refine RS.Sv ?_ | refine RS.Yv ?_ | refine RS.no rfl (by decide) rfl ?_ | refine RS.nil ?_))
  refine RS.sta (fun H' hov => sta_call rfl rfl (CheckPolys_pure r [f] (by simp) hf1 _)) rfl ?_
  (repeat (first | refine RS.Sv ?_ | refine RS.Yv ?_ | refine RS.no rfl (by decide) rfl ?_ | refine RS.nil ?_))
  (repeat (first | refine RO.Sv ?_ | refine RO.Yv ?_ | refine RO.no rfl (by decide) rfl ?_ | refine RO.nil ?_ | refine DW.region ?_ | refine DW.seq ?_ | refine DW.block ?_ | refine DW.skip ?_ | refine DW.exit ?_ | refine DW.condT rfl ?_ | refine DW.condF rfl ?_))
  refine DW.cutg [(1, plD l), (2, plD f), (3, intsD at'), (4, .ipt 4 [rgD r] 0 0), (9, plD (ofT r l).1), (10, I (ofT r l).2), (11, I (valueR r f at').1), (12, I (valueR r f at').2), (13, strD (if polysCk r [f] = 0 then printT f else [])), (14, I (polysCk r [f])), (15, I (termsCk r l)), (16, I (polysCk r [f])), (17, I (polysCk r [f])),
    (18, plD (wantP (termsCk r l) (ofGo r.p r.order l []))), (19, I 0), (20, strD [])] H ?_ ?_
  rotate_left
  · unfold wantP
    by_cases hck : termsCk r l = 0
    case neg =>
      rw [if_neg hck, show (termsCk r l == 0) = false by simpa using hck]
      (repeat (first | refine RO.Sv ?_ | refine RO.Yv ?_ | refine RO.no rfl (by decide) rfl ?_ | refine RO.nil ?_ | refine DW.region ?_ | refine DW.seq ?_ | refine DW.block ?_ | refine DW.skip ?_ | refine DW.exit ?_ | refine DW.condT rfl ?_ | refine DW.condF rfl ?_))
      exact ⟨Heap.sub_refl _, (by repeat first | exact trivial | refine HasG.one rfl ?_ | refine HasN.one rfl ?_ | refine HasG.nil1 rfl ?_)⟩
    have hk := termsCk_ok hck
    have hr2 := ringCk_ok hk.ring
    have hp := ckP_ok hr2.1
    have hkl := hk.len
    rw [if_pos hck, show (termsCk r l == 0) = true by simpa using hck]
    have hcol := collect_pure r l (n := r.n.toNat) (B := 200) (by omega) (by omega) hp (by omega) hk.all
    rw [collect_of (o := r.order) (by omega) hk.all] at hcol
    (repeat (first | refine RO.Sv ?_ | refine RO.Yv ?_ | refine RO.no rfl (by decide) rfl ?_ | refine RO.nil ?_ | refine DW.region ?_ | refine DW.seq ?_ | refine DW.block ?_ | refine DW.skip ?_ | refine DW.exit ?_ | refine DW.condT rfl ?_ | refine DW.condF rfl ?_))
    refine RO.sta (sta_call rfl rfl (hcol _)) rfl ?_
    (repeat (first | refine RO.Sv ?_ | refine RO.Yv ?_ | refine RO.no rfl (by decide) rfl ?_ | refine RO.nil ?_ | refine DW.region ?_ | refine DW.seq ?_ | refine DW.block ?_ | refine DW.skip ?_ | refine DW.exit ?_ | refine DW.condT rfl ?_ | refine DW.condF rfl ?_))
    exact ⟨Heap.sub_refl _, (by repeat first | exact trivial | refine HasG.one rfl ?_ | refine HasN.one rfl ?_ | refine HasG.nil1 rfl ?_)⟩
  (repeat (first | refine RO.Sv ?_ | refine RO.Yv ?_ | refine RO.no rfl (by decide) rfl ?_ | refine RO.nil ?_ | refine DW.region ?_ | refine DW.seq ?_ | refine DW.block ?_ | refine DW.skip ?_ | refine DW.exit ?_ | refine DW.condT rfl ?_ | refine DW.condF rfl ?_))
  refine DW.cutg [(1, plD l), (2, plD f), (3, intsD at'), (4, .ipt 4 [rgD r] 0 0), (9, plD (ofT r l).1), (10, I (ofT r l).2), (11, I (valueR r f at').1), (12, I (valueR r f at').2), (13, strD (if polysCk r [f] = 0 then printT f else [])), (14, I (polysCk r [f])), (15, I (termsCk r l)), (16, I (polysCk r [f])), (17, I (polysCk r [f])),
    (18, plD (wantP (termsCk r l) (ofGo r.p r.order l []))), (19, I 0), (20, strD (if polysCk r [f] = 0 then printT f else []))] H ?_ ?_
  rotate_left
  · by_cases hck : polysCk r [f] = 0
    case neg =>
      rw [if_neg hck, show (polysCk r [f] == 0) = false by simpa using hck]
      (repeat (first | refine RO.Sv ?_ | refine RO.Yv ?_ | refine RO.no rfl (by decide) rfl ?_ | refine RO.nil ?_ | refine DW.region ?_ | refine DW.seq ?_ | refine DW.block ?_ | refine DW.skip ?_ | refine DW.exit ?_ | refine DW.condT rfl ?_ | refine DW.condF rfl ?_))
      exact ⟨Heap.sub_refl _, (by repeat first | exact trivial | refine HasG.one rfl ?_ | refine HasN.one rfl ?_ | refine HasG.nil1 rfl ?_)⟩
    obtain ⟨hr, hal⟩ := polysCk_ok hck
    have hfo := hal f (by simp)
    have hr2 := ringCk_ok hr
    have hp := ckP_ok hr2.1
    rw [if_pos hck, show (polysCk r [f] == 0) = true by simpa using hck]
    (repeat (first | refine RO.Sv ?_ | refine RO.Yv ?_ | refine RO.no rfl (by decide) rfl ?_ | refine RO.nil ?_ | refine DW.region ?_ | refine DW.seq ?_ | refine DW.block ?_ | refine DW.skip ?_ | refine DW.exit ?_ | refine DW.condT rfl ?_ | refine DW.condF rfl ?_))
    refine RO.sta (sta_call rfl rfl (PrintOf_pure f (p := r.p) (o := r.order) (n := r.n.toNat) (by omega) hp.2 hfo.ok hfo.len _)) rfl ?_
    (repeat (first | refine RO.Sv ?_ | refine RO.Yv ?_ | refine RO.no rfl (by decide) rfl ?_ | refine RO.nil ?_ | refine DW.region ?_ | refine DW.seq ?_ | refine DW.block ?_ | refine DW.skip ?_ | refine DW.exit ?_ | refine DW.condT rfl ?_ | refine DW.condF rfl ?_))
    exact ⟨Heap.sub_refl _, (by repeat first | exact trivial | refine HasG.one rfl ?_ | refine HasN.one rfl ?_ | refine HasG.nil1 rfl ?_)⟩
  (repeat (first | refine RO.Sv ?_ | refine RO.Yv ?_ | refine RO.no rfl (by decide) rfl ?_ | refine RO.nil ?_ | refine DW.region ?_ | refine DW.seq ?_ | refine DW.block ?_ | refine DW.skip ?_ | refine DW.exit ?_ | refine DW.condT rfl ?_ | refine DW.condF rfl ?_))
  refine RO.cut [(2, plD f), (3, intsD at'), (4, .ipt 4 [rgD r] 0 0), (9, plD (ofT r l).1), (10, I (ofT r l).2), (11, I (valueR r f at').1), (12, I (valueR r f at').2), (13, strD (if polysCk r [f] = 0 then printT f else [])), (14, I (polysCk r [f])), (15, I (termsCk r l)), (16, I (polysCk r [f])), (18, plD (wantP (termsCk r l) (ofGo r.p r.order l []))), (20, strD (if polysCk r [f] = 0 then printT f else [])), (17, I (polysCk r [f])), (19, I 0), (66, .bool (polysCk r [f] == 0 && (at'.length : Int) != r.n))] H ?_ ?_
  rotate_left
  · cases h1 : (polysCk r [f] == 0)
    case false =>
      (repeat (first | refine RO.Sv ?_ | refine RO.Yv ?_ | refine RO.no rfl (by decide) rfl ?_ | refine RO.nil ?_ | refine DW.region ?_ | refine DW.seq ?_ | refine DW.block ?_ | refine DW.skip ?_ | refine DW.exit ?_ | refine DW.condT rfl ?_ | refine DW.condF rfl ?_))
      exact ⟨(by repeat first | exact trivial | refine HasG.one rfl ?_ | refine HasN.one rfl ?_), rfl⟩
    (repeat (first | refine RO.Sv ?_ | refine RO.Yv ?_ | refine RO.no rfl (by decide) rfl ?_ | refine RO.nil ?_ | refine DW.region ?_ | refine DW.seq ?_ | refine DW.block ?_ | refine DW.skip ?_ | refine DW.exit ?_ | refine DW.condT rfl ?_ | refine DW.condF rfl ?_))
    exact ⟨(by repeat first | exact trivial | refine HasG.one rfl ?_ | refine HasN.one rfl ?_), rfl⟩
  refine DW.cutg [(2, plD f), (3, intsD at'), (4, .ipt 4 [rgD r] 0 0), (9, plD (ofT r l).1), (10, I (ofT r l).2), (11, I (valueR r f at').1), (12, I (valueR r f at').2), (13, strD (if polysCk r [f] = 0 then printT f else [])), (14, I (polysCk r [f])), (15, I (termsCk r l)), (16, I (polysCk r [f])), (18, plD (wantP (termsCk r l) (ofGo r.p r.order l []))), (20, strD (if polysCk r [f] = 0 then printT f else [])), (17, I (if polysCk r [f] = 0 then (if (at'.length : Int) = r.n then 0 else 1) else polysCk r [f])), (19, I 0)] H ?_ ?_
  rotate_left
  · by_cases h1 : polysCk r [f] = 0
    case neg =>
      rw [if_neg (c := polysCk r [f] = 0) (t := (if (at'.length : Int) = r.n then (0 : Int) else 1)) h1, show (polysCk r [f] == 0) = false by simpa using h1]
      (repeat (first | refine RO.Sv ?_ | refine RO.Yv ?_ | refine RO.no rfl (by decide) rfl ?_ | refine RO.nil ?_ | refine DW.region ?_ | refine DW.seq ?_ | refine DW.block ?_ | refine DW.skip ?_ | refine DW.exit ?_ | refine DW.condT rfl ?_ | refine DW.condF rfl ?_))
      exact ⟨Heap.sub_refl _, (by repeat first | exact trivial | refine HasG.one rfl ?_ | refine HasN.one rfl ?_ | refine HasG.nil1 rfl ?_)⟩
    rw [if_pos (c := polysCk r [f] = 0) (t := (if (at'.length : Int) = r.n then (0 : Int) else 1)) h1, show (polysCk r [f] == 0) = true by simpa using h1]
    by_cases h2 : (at'.length : Int) = r.n
    case neg =>
      rw [if_neg h2, show ((at'.length : Int) != r.n) = true by simpa using h2]
      (repeat (first | refine RO.Sv ?_ | refine RO.Yv ?_ | refine RO.no rfl (by decide) rfl ?_ | refine RO.nil ?_ | refine DW.region ?_ | refine DW.seq ?_ | refine DW.block ?_ | refine DW.skip ?_ | refine DW.exit ?_ | refine DW.condT rfl ?_ | refine DW.condF rfl ?_))
      exact ⟨Heap.sub_refl _, (by repeat first | exact trivial | refine HasG.one rfl ?_ | refine HasN.one rfl ?_ | refine HasG.nil1 rfl ?_)⟩
    rw [if_pos h2, show ((at'.length : Int) != r.n) = false by simpa using h2]
    (repeat (first | refine RO.Sv ?_ | refine RO.Yv ?_ | refine RO.no rfl (by decide) rfl ?_ | refine RO.nil ?_ | refine DW.region ?_ | refine DW.seq ?_ | refine DW.block ?_ | refine DW.skip ?_ | refine DW.exit ?_ | refine DW.condT rfl ?_ | refine DW.condF rfl ?_))
    rw [← h1]
    exact ⟨Heap.sub_refl _, (by repeat first | exact trivial | refine HasG.one rfl ?_ | refine HasN.one rfl ?_ | refine HasG.nil1 rfl ?_)⟩
  generalize hu0 : (if polysCk r [f] = 0 then (if (at'.length : Int) = r.n then 0 else 1) else polysCk r [f] : Int) = u0
  have hi0 : (u0 = valCk r f at' ∧ u0 ≠ 0) ∨ (u0 = 0 ∧ polysCk r [f] = 0 ∧ (at'.length : Int) = r.n ∧ (at'.drop 0).all (inP r.p) = at'.all (inP r.p)) := by
    unfold valCk atCk
    rw [← hu0]
    by_cases h1 : polysCk r [f] = 0
    · rw [if_pos h1, if_pos h1]
      by_cases h2 : (at'.length : Int) = r.n
      · rw [if_pos h2]; exact .inr ⟨rfl, h1, h2, rfl⟩
      · rw [if_neg h2, if_neg h2]; exact .inl ⟨rfl, by decide⟩
    · rw [if_neg h1, if_neg h1]; exact .inl ⟨rfl, h1⟩
  clear hu0
  refine DW.seq ?_
  refine DW.cutg [(2, plD f), (3, intsD at'), (4, .ipt 4 [rgD r] 0 0), (9, plD (ofT r l).1), (10, I (ofT r l).2), (11, I (valueR r f at').1), (12, I (valueR r f at').2), (13, strD (if polysCk r [f] = 0 then printT f else [])), (14, I (polysCk r [f])), (15, I (termsCk r l)), (16, I (polysCk r [f])), (18, plD (wantP (termsCk r l) (ofGo r.p r.order l []))), (20, strD (if polysCk r [f] = 0 then printT f else [])), (17, I (valCk r f at')), (19, I 0)] H ?_ ?_
  rotate_left
  · (repeat (first | refine RO.Sv ?_ | refine RO.Yv ?_ | refine RO.no rfl (by decide) rfl ?_ | refine RO.nil ?_ | refine DW.region ?_ | refine DW.seq ?_ | refine DW.block ?_ | refine DW.skip ?_ | refine DW.exit ?_ | refine DW.condT rfl ?_ | refine DW.condF rfl ?_))
    refine DW.loopI (fun x : Nat × Int => x.1 ≤ at'.length ∧ ((x.2 = valCk r f at' ∧ x.2 ≠ 0) ∨ (x.2 = 0 ∧ polysCk r [f] = 0 ∧ (at'.length : Int) = r.n ∧ (at'.drop x.1).all (inP r.p) = at'.all (inP r.p)))) (fun x => [(2, plD f), (3, intsD at'), (4, .ipt 4 [rgD r] 0 0), (9, plD (ofT r l).1), (10, I (ofT r l).2), (11, I (valueR r f at').1), (12, I (valueR r f at').2), (13, strD (if polysCk r [f] = 0 then printT f else [])), (14, I (polysCk r [f])), (15, I (termsCk r l)), (16, I (polysCk r [f])), (18, plD (wantP (termsCk r l) (ofGo r.p r.order l []))), (20, strD (if polysCk r [f] = 0 then printT f else [])), (17, I x.2), (19, I 0), (21, I x.1)]) (fun _ => H) (fun x => at'.length - x.1) (0, u0)
      ⟨Nat.zero_le _, hi0⟩ rfl ⟨rfl, rfl, rfl, rfl, rfl, rfl, rfl, rfl, rfl, rfl, rfl, rfl, rfl, rfl, rfl, rfl, trivial⟩ fun ⟨k, u⟩ ⟨hk, hinv⟩ => ?_
    dsimp only at hk hinv
    dsimp only
    (repeat (first | refine RO.Sv ?_ | refine RO.Yv ?_ | refine RO.no rfl (by decide) rfl ?_ | refine RO.nil ?_ | refine DW.region ?_ | refine DW.seq ?_ | refine DW.block ?_ | refine DW.skip ?_ | refine DW.exit ?_ | refine DW.condT rfl ?_ | refine DW.condF rfl ?_))
    cases hb : decide ((k : Int) < (at'.length : Int))
    case false =>
      have hge : k = at'.length := by have := of_decide_eq_false hb; omega
      have hee : u = valCk r f at' := by
        rcases hinv with h | ⟨h1, h2, h3, h4⟩
        · exact h.1
        · rw [hge, List.drop_length] at h4
          unfold valCk atCk
          rw [if_pos h2, if_pos h3, if_pos (show at'.all (inP r.p) = true from h4.symm)]
          exact h1
      rw [hee]
      (repeat (first | refine RO.Sv ?_ | refine RO.Yv ?_ | refine RO.no rfl (by decide) rfl ?_ | refine RO.nil ?_ | refine DW.region ?_ | refine DW.seq ?_ | refine DW.block ?_ | refine DW.skip ?_ | refine DW.exit ?_ | refine DW.condT rfl ?_ | refine DW.condF rfl ?_))
      exact ⟨Heap.sub_refl _, (by repeat first | exact trivial | refine HasG.one rfl ?_ | refine HasN.one rfl ?_ | refine HasG.nil1 rfl ?_)⟩
    have hlt : k < at'.length := by have := of_decide_eq_true hb; omega
    clear hb
    (repeat (first | refine RO.Sv ?_ | refine RO.Yv ?_ | refine RO.no rfl (by decide) rfl ?_ | refine RO.nil ?_ | refine DW.region ?_ | refine DW.seq ?_ | refine DW.block ?_ | refine DW.skip ?_ | refine DW.exit ?_ | refine DW.condT rfl ?_ | refine DW.condF rfl ?_))
    rcases hinv with ⟨h1, h2⟩ | ⟨h1, h2, h3, h4⟩
    · rw [show (u == 0) = false by simpa using h2]
      (repeat (first | refine RO.Sv ?_ | refine RO.Yv ?_ | refine RO.no rfl (by decide) rfl ?_ | refine RO.nil ?_ | refine DW.region ?_ | refine DW.seq ?_ | refine DW.block ?_ | refine DW.skip ?_ | refine DW.exit ?_ | refine DW.condT rfl ?_ | refine DW.condF rfl ?_))
      rw [h1]
      exact ⟨Heap.sub_refl _, (by repeat first | exact trivial | refine HasG.one rfl ?_ | refine HasN.one rfl ?_ | refine HasG.nil1 rfl ?_)⟩
    subst h1
    rw [List.drop_eq_getElem_cons hlt, List.all_cons] at h4
    have hr2 := ringCk_ok (polysCk_ok h2).1
    have hp := ckP_ok hr2.1
    (repeat (first | refine RO.Sv ?_ | refine RO.Yv ?_ | refine RO.no rfl (by decide) rfl ?_ | refine RO.nil ?_ | refine DW.region ?_ | refine DW.seq ?_ | refine DW.block ?_ | refine DW.skip ?_ | refine DW.exit ?_ | refine DW.condT rfl ?_ | refine DW.condF rfl ?_))
    refine DW.drawS 14 Tryd.mixed (by kernel_rfl) (by decide) ?_
    dsimp only [List.take, List.drop]
    (repeat (first | refine RS.Sv ?_ | refine RS.Yv ?_ | refine RS.no rfl (by decide) rfl ?_ | refine RS.nil ?_))
    have hin : inP r.p at'[k] = !(decide (at'[k] < 0) || decide (r.p ≤ at'[k])) := by
      unfold inP
      by_cases h5 : at'[k] < 0
      · rw [decide_eq_true h5, decide_eq_false (by omega)]; rfl
      · rw [decide_eq_false h5, decide_eq_true (show 0 ≤ at'[k] by omega)]
        by_cases h6 : r.p ≤ at'[k]
        · rw [decide_eq_true h6, decide_eq_false (by omega)]; rfl
        · rw [decide_eq_false h6, decide_eq_true (by omega)]; rfl
    have hbad : inP r.p at'[k] = false → valCk r f at' = 3 := fun h => by
      rw [h] at h4
      unfold valCk atCk
      rw [if_pos h2, if_pos h3, if_neg (by rw [← h4]; exact Bool.false_ne_true)]
    cases h5 : decide (at'[k] < 0)
    case true =>
      rw [h5] at hin
      have h6 := hbad hin
      (repeat (first | refine RS.Sv ?_ | refine RS.Yv ?_ | refine RS.no rfl (by decide) rfl ?_ | refine RS.nil ?_))
      (repeat (first | refine RO.Sv ?_ | refine RO.Yv ?_ | refine RO.no rfl (by decide) rfl ?_ | refine RO.nil ?_ | refine DW.region ?_ | refine DW.seq ?_ | refine DW.block ?_ | refine DW.skip ?_ | refine DW.exit ?_ | refine DW.condT rfl ?_ | refine DW.condF rfl ?_))
      exact ⟨(k + 1, 3), ⟨hlt, .inl ⟨h6.symm, by dsimp only; decide⟩⟩, by dsimp only; omega, rfl, rfl, rfl, rfl, rfl, rfl, rfl, rfl, rfl, rfl, rfl, rfl, rfl, rfl, rfl, rfl, rfl, trivial⟩
    (repeat (first | refine RS.Sv ?_ | refine RS.Yv ?_ | refine RS.no rfl (by decide) rfl ?_ | refine RS.nil ?_))
    cases h7 : decide (r.p ≤ at'[k])
    case true =>
      rw [h5, h7] at hin
      have h6 := hbad hin
      (repeat (first | refine RS.Sv ?_ | refine RS.Yv ?_ | refine RS.no rfl (by decide) rfl ?_ | refine RS.nil ?_))
      (repeat (first | refine RO.Sv ?_ | refine RO.Yv ?_ | refine RO.no rfl (by decide) rfl ?_ | refine RO.nil ?_ | refine DW.region ?_ | refine DW.seq ?_ | refine DW.block ?_ | refine DW.skip ?_ | refine DW.exit ?_ | refine DW.condT rfl ?_ | refine DW.condF rfl ?_))
      exact ⟨(k + 1, 3), ⟨hlt, .inl ⟨h6.symm, by dsimp only; decide⟩⟩, by dsimp only; omega, rfl, rfl, rfl, rfl, rfl, rfl, rfl, rfl, rfl, rfl, rfl, rfl, rfl, rfl, rfl, rfl, rfl, trivial⟩
    rw [h5, h7] at hin
    rw [hin] at h4
    (repeat (first | refine RS.Sv ?_ | refine RS.Yv ?_ | refine RS.no rfl (by decide) rfl ?_ | refine RS.nil ?_))
    (repeat (first | refine RO.Sv ?_ | refine RO.Yv ?_ | refine RO.no rfl (by decide) rfl ?_ | refine RO.nil ?_ | refine DW.region ?_ | refine DW.seq ?_ | refine DW.block ?_ | refine DW.skip ?_ | refine DW.exit ?_ | refine DW.condT rfl ?_ | refine DW.condF rfl ?_))
    exact ⟨(k + 1, 0), ⟨hlt, .inr ⟨rfl, h2, h3, by simpa using h4⟩⟩, by dsimp only; omega, rfl, rfl, rfl, rfl, rfl, rfl, rfl, rfl, rfl, rfl, rfl, rfl, rfl, rfl, rfl, rfl, rfl, trivial⟩
  (repeat (first | refine RO.Sv ?_ | refine RO.Yv ?_ | refine RO.no rfl (by decide) rfl ?_ | refine RO.nil ?_ | refine DW.region ?_ | refine DW.seq ?_ | refine DW.block ?_ | refine DW.skip ?_ | refine DW.exit ?_ | refine DW.condT rfl ?_ | refine DW.condF rfl ?_))
  refine DW.cutg [(2, plD f), (3, intsD at'), (4, .ipt 4 [rgD r] 0 0), (9, plD (ofT r l).1), (10, I (ofT r l).2), (11, I (valueR r f at').1), (12, I (valueR r f at').2), (13, strD (if polysCk r [f] = 0 then printT f else [])), (14, I (polysCk r [f])), (15, I (termsCk r l)), (16, I (polysCk r [f])), (18, plD (wantP (termsCk r l) (ofGo r.p r.order l []))), (20, strD (if polysCk r [f] = 0 then printT f else [])), (17, I (valCk r f at')), (19, I (if valCk r f at' = 0 then valT r.p at' f else 0))] H ?_ ?_
  rotate_left
  · by_cases h1 : valCk r f at' = 0
    case neg =>
      rw [if_neg (c := valCk r f at' = 0) (t := valT r.p at' f) h1, show (valCk r f at' == 0) = false by simpa using h1]
      (repeat (first | refine RO.Sv ?_ | refine RO.Yv ?_ | refine RO.no rfl (by decide) rfl ?_ | refine RO.nil ?_ | refine DW.region ?_ | refine DW.seq ?_ | refine DW.block ?_ | refine DW.skip ?_ | refine DW.exit ?_ | refine DW.condT rfl ?_ | refine DW.condF rfl ?_))
      exact ⟨Heap.sub_refl _, (by repeat first | exact trivial | refine HasG.one rfl ?_ | refine HasN.one rfl ?_ | refine HasG.nil1 rfl ?_)⟩
    rw [if_pos (c := valCk r f at' = 0) (t := valT r.p at' f) h1, show (valCk r f at' == 0) = true by simpa using h1]
    have hpk : polysCk r [f] = 0 := by
      unfold valCk at h1
      split at h1
      · assumption
      · exact h1
    have hak : atCk r at' = 0 := by unfold valCk at h1; rwa [if_pos hpk] at h1
    obtain ⟨hr, hal⟩ := polysCk_ok hpk
    have hp := ckP_ok (ringCk_ok hr).1
    have hlen : (at'.length : Int) = r.n := by
      unfold atCk at hak
      split at hak
      · assumption
      · cases hak
    have hin : at'.all (inP r.p) = true := by
      unfold atCk at hak
      rw [if_pos hlen] at hak
      split at hak
      · assumption
      · cases hak
    have hpt : ∀ x ∈ at', 0 ≤ x ∧ x ≤ 100 := fun x hx => by
      have := List.all_eq_true.1 hin x hx
      simp [inP] at this
      omega
    (repeat (first | refine RO.Sv ?_ | refine RO.Yv ?_ | refine RO.no rfl (by decide) rfl ?_ | refine RO.nil ?_ | refine DW.region ?_ | refine DW.seq ?_ | refine DW.block ?_ | refine DW.skip ?_ | refine DW.exit ?_ | refine DW.condT rfl ?_ | refine DW.condF rfl ?_))
    refine RO.sta (sta_call rfl rfl (ValueOf_pure r f at' hr (hal f (by simp)) hlen hpt _)) rfl ?_
    (repeat (first | refine RO.Sv ?_ | refine RO.Yv ?_ | refine RO.no rfl (by decide) rfl ?_ | refine RO.nil ?_ | refine DW.region ?_ | refine DW.seq ?_ | refine DW.block ?_ | refine DW.skip ?_ | refine DW.exit ?_ | refine DW.condT rfl ?_ | refine DW.condF rfl ?_))
    exact ⟨Heap.sub_refl _, (by repeat first | exact trivial | refine HasG.one rfl ?_ | refine HasN.one rfl ?_ | refine HasG.nil1 rfl ?_)⟩
  have cA := fun H' => pis_call (H := H') (ofT r l) (termsCk r l) (ofGo r.p r.order l []) (p := r.p) (o := r.order) (n := if termsCk r l = 0 then r.n.toNat else 0) (B := 400) (by split <;> first | (rename_i h; exact (of_pb h).1) | omega) (by omega) (fun h => by rw [if_pos h]; exact (of_pb h).2) (of_pis r l)
  rw [valueR_1, valueR_2]
  generalize (if valCk r f at' = 0 then valT r.p at' f else 0) = vv
  generalize (if polysCk r [f] = 0 then printT f else []) = tt
  (repeat (first | refine RO.Sv ?_ | refine RO.Yv ?_ | refine RO.no rfl (by decide) rfl ?_ | refine RO.nil ?_ | refine DW.region ?_ | refine DW.seq ?_ | refine DW.block ?_ | refine DW.skip ?_ | refine DW.exit ?_ | refine DW.condT rfl ?_ | refine DW.condF rfl ?_))
  refine RO.sta (sta_call rfl rfl (polyBegun_pure _)) rfl ?_
  (repeat (first | refine RO.Sv ?_ | refine RO.Yv ?_ | refine RO.no rfl (by decide) rfl ?_ | refine RO.nil ?_ | refine DW.region ?_ | refine DW.seq ?_ | refine DW.block ?_ | refine DW.skip ?_ | refine DW.exit ?_ | refine DW.condT rfl ?_ | refine DW.condF rfl ?_))
  refine RO.yes rfl rfl (OpD.of_sta (sta_call rfl rfl (cA _)) ?_)
  (repeat (first | refine RO.Sv ?_ | refine RO.Yv ?_ | refine RO.no rfl (by decide) rfl ?_ | refine RO.nil ?_ | refine DW.region ?_ | refine DW.seq ?_ | refine DW.block ?_ | refine DW.skip ?_ | refine DW.exit ?_ | refine DW.condT rfl ?_ | refine DW.condF rfl ?_))
  rw [show (valCk r f at' == valCk r f at') = true by simp]
  (repeat (first | refine RO.Sv ?_ | refine RO.Yv ?_ | refine RO.no rfl (by decide) rfl ?_ | refine RO.nil ?_ | refine DW.region ?_ | refine DW.seq ?_ | refine DW.block ?_ | refine DW.skip ?_ | refine DW.exit ?_ | refine DW.condT rfl ?_ | refine DW.condF rfl ?_))
  rw [show (vv == vv) = true by simp]
  (repeat (first | refine RO.Sv ?_ | refine RO.Yv ?_ | refine RO.no rfl (by decide) rfl ?_ | refine RO.nil ?_ | refine DW.region ?_ | refine DW.seq ?_ | refine DW.block ?_ | refine DW.skip ?_ | refine DW.exit ?_ | refine DW.condT rfl ?_ | refine DW.condF rfl ?_))
  rw [show (polysCk r [f] == polysCk r [f]) = true by simp]
  (repeat (first | refine RO.Sv ?_ | refine RO.Yv ?_ | refine RO.no rfl (by decide) rfl ?_ | refine RO.nil ?_ | refine DW.region ?_ | refine DW.seq ?_ | refine DW.block ?_ | refine DW.skip ?_ | refine DW.exit ?_ | refine DW.condT rfl ?_ | refine DW.condF rfl ?_))
  refine RO.yes rfl rfl (OpD.of_sta (s_strEq (a := tt) (b := tt) rfl rfl) ?_)
  rw [show (tt == tt) = true by simp]
  (repeat (first | refine RO.Sv ?_ | refine RO.Yv ?_ | refine RO.no rfl (by decide) rfl ?_ | refine RO.nil ?_ | refine DW.region ?_ | refine DW.seq ?_ | refine DW.block ?_ | refine DW.skip ?_ | refine DW.exit ?_ | refine DW.condT rfl ?_ | refine DW.condF rfl ?_))
  exact DW.ret ⟨.inl rfl, _, rfl, Over.refl _, .same _⟩

end Go.Proofs.YtblileclefbklaaDoor

namespace Go.Proofs.YtblileclefbklaaDoor
open Go.RowKit Go.ChangeShapes Go.WideShapes Go.ChangeAt
set_option linter.unusedVariables false

set_option maxRecDepth 100000 in
theorem polyMakes_lifted (os : Os) (started : os.Started) (H : Type) (enc : TypeId × Value → H) :
    ReturnsInHanded {} Tryd.checked os 4 .any (fun w args => (Rows.polyMakesSpec.pre enc Tryd.prog Tryd.f4 [] false w args ∧ laidMetH Tryd.prog Tryd.laidL w) ∧ sizedMet enc Tryd.prog Tryd.f4 (OpenSpec.ofChange Rows.polyMakesSpec) false w args) (Rows.polyMakesSpec.post enc Tryd.prog Tryd.f4 false true false false) := by
  refine returnsInHanded_of_change_and (C := Tryd.checked) (X := fun w _ => laidMetH Tryd.prog Tryd.laidL w) (fun _ _ _ hh h => h.of_heap hh) Tryd.ownK started (by kernel_rfl) Tryd.func4
    (ChangeSpec.witness_shaped (enc := enc) (C := Tryd.checked) (os := os) (X := fun w _ => laidMetH Tryd.prog Tryd.laidL w) false (World.doorLaid Tryd.prog 24 os) #[.agg #[.int .i64 0, .int .i64 0, .int .i64 0, .int .i64 0], .slice none 0 0, .slice none 0 0, .slice none 0 0] 8 rfl (World.shaped_of_RefB (by kernel_rfl) (by kernel_rfl)) (by kernel_rfl) (by kernel_rfl) (by kernel_rfl) (Tryd.door_met os _)) ?_
  intro W base args ds gs before hval0 hW hcnd hwt hL _
  have hval : ∀ (j : Nat) t v, Tryd.f4.params[j]? = some t → args[j]? = some v → Value.okWide Tryd.prog W .any base t v := hval0
  have hW' := hW
  obtain ⟨p, q, hA0, hV, rfl, hfz, hnd⟩ := hW
  have hA : DataW.TrodAll enc Tryd.prog W 0 (fun _ => true) true Tryd.f4.params.toList args.toList ds p := hA0
  rw [Tryd.params4] at hA hval
  obtain ⟨v0, vs0, d0, ds0, p0, q0, hargs, rfl, rfl, h0, r0⟩ := trodAll_cons hA
  obtain ⟨v1, vs1, d1, ds1, p1, q1, rfl, rfl, rfl, h1, r1⟩ := trodAll_cons r0
  obtain ⟨v2, vs2, d2, ds2, p2, q2, rfl, rfl, rfl, h2, r2⟩ := trodAll_cons r1
  obtain ⟨v3, vs3, d3, ds3, p3, q3, rfl, rfl, rfl, h3, r3⟩ := trodAll_cons r2
  obtain ⟨rfl, rfl, rfl⟩ := trodAll_nil r3
  obtain rfl : args = #[v0, v1, v2, v3] := by cases args; simp_all
  obtain ⟨rfl, rfl⟩ := trodVars_none hV
  rw [Tryd.params4] at hwt
  obtain ⟨w0, hwt⟩ := weights_head hwt
  obtain ⟨w1, hwt⟩ := weights_head hwt
  obtain ⟨w2, hwt⟩ := weights_head hwt
  obtain ⟨w3, hwt⟩ := weights_head hwt
  obtain ⟨c0, rfl, _⟩ := okWide_struct Tryd.underlying23 (hval 0 _ v0 rfl rfl)
  obtain ⟨s1, n1, k1, rfl⟩ := okWide_slice Tryd.underlying24 (hval 1 _ v1 rfl rfl)
  obtain ⟨s2, n2, k2, rfl⟩ := okWide_slice Tryd.underlying25 (hval 2 _ v2 rfl rfl)
  obtain ⟨s3, n3, k3, rfl⟩ := okWide_slice Tryd.underlying36 (hval 3 _ v3 rfl rfl)
  obtain ⟨x0, g0, b0⟩ := arg_agg Tryd.opensRing (fun _ => rfl) h0 w0
  obtain ⟨x1, g1, b1⟩ := arg_cell Tryd.opensTerms (fun _ => rfl) (slice_cells _ _ _) h1 w1
  obtain ⟨x2, g2, b2⟩ := arg_cell Tryd.opensPoly (fun _ => rfl) (slice_cells _ _ _) h2 w2
  obtain ⟨x3, g3, b3⟩ := arg_cell Tryd.opensInts (fun _ => rfl) (slice_cells _ _ _) h3 w3
  refine (law_calls (polyMakes_pure x0 x1 x2 x3 (plLe b1) (plLe b2) (by have := len_le b3.2 Tryd.bytes_int; omega)) (Tryd.tabs_of_laid hL) (.cons g0 (.cons g1 (.cons g2 (.cons g3 .nil))))).mono fun e W' ⟨he, hb⟩ => ?_
  subst he
  exact ⟨_, rfl, law_post hW' rfl Tryd.laidOutK (of_decide_eq_true (by kernel_rfl)) (tb := 4) rfl Tryd.underlying4 rfl rfl rfl hb⟩

theorem polyMakes_holds : Rows.PolyMakesSaid :=
  OpenClaim.holds_of_wide 4 Tryd.f4 rfl rfl rfl rfl rfl rfl rfl ⟨rfl, rfl, rfl, rfl, rfl⟩ rfl rfl rfl rfl rfl (by kernel_rfl) Tryd.func4 (by kernel_rfl)
    (of_decide_eq_true (by kernel_rfl)) (by unfold Func.isWrapper; first | (rw [if_pos (by decide +kernel)]; kernel_rfl) | (rw [if_neg (by decide +kernel)]; exact ⟨rfl, rfl⟩))
    (fun os started H enc _ => polyMakes_lifted os started H enc)

/-- The tied card. -/
theorem polyMakes_card_holds : Rows.PolyMakesCardSaid :=
  Claim7.holds_tied_plain_at .later [] [.data, .data, .data] true Rows.polyMakesCard.stood.harness false
    polyMakes_holds (fun _ h => by cases h) (by kernel_rfl) (fun _ h => by cases h) polyMakes_row_tie rfl ⟨rfl, rfl⟩ (by kernel_rfl) rfl
    (fun f fn hf hfn => by
      obtain rfl : f = 4 := Option.some.inj ((show Tryd.prog.funcNamed "syzygist/syzygistlaw.PolyMakes" = some 4 by kernel_rfl).symm.trans hf) |>.symm
      obtain rfl : fn = Tryd.f4 := (Option.some.inj (Tryd.func4.symm.trans hfn)).symm
      exact ⟨by kernel_rfl, fun j t ht => by
        rw [Tryd.params4] at ht
        have hm : t ∈ [23, 24, 25, 36] := by simpa using Array.mem_of_getElem? ht
        have hall : ([23, 24, 25, 36].all fun u => !Tryd.prog.wantsStandIn u) = true := by kernel_rfl
        exact (show Tryd.prog.wantsStandIn t = false by simpa using List.all_eq_true.1 hall t hm)⟩)
    (by kernel_rfl)

end Go.Proofs.YtblileclefbklaaDoor
