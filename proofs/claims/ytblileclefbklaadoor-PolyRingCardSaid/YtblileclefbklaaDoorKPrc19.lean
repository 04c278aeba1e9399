/-
  Package field: what its functions do with rows: Clone, looks at rows. No condition.
-/
import Derived.Test.YtblileclefbklaaDoorKPrc17
import Derived.Test.YtblileclefbklaaDoorKPrc18
import Derived.Test.YtblileclefbklaaDoorKPrc12
import Derived.Test.YtblileclefbklaaDoorKPrc6
import Derived.Test.YtblileclefbklaaDoorKPrc9

namespace Go.Proofs.YtblileclefbklaaDoor
open Go.RowKit
set_option linter.unusedVariables false
set_option linter.unusedSimpArgs false
set_option maxHeartbeats 8000000

theorem s_two {P : Program} {H : Heap} {e : Env} {dst : Option Tmp} {ty : TypeId} {pos : String} {af : Array Edge} {gd : Option (Nat × Bool)} {t E : TypeId} {x y : Operand} {a b : Int} {bytes : Nat} {zd : List D} [SliceT P t E] [ElT P E 1 zd bytes] (hx : e.ev x = some (I a)) (hy : e.ev y = some (I b)) :
    Sta P H e ⟨dst, .buildSlice t 2 #[(0, x), (1, y)], ty, pos, af, gd⟩ (intsD [a, b]) := by
  have hz : zd.length = 1 := (ElT.z (P := P) (E := E) (k := 1) (zd := zd) (bytes := bytes)).len
  obtain ⟨z, rfl⟩ : ∃ z, zd = [z] := by
    match zd, hz with
    | [z], _ => exact ⟨z, rfl⟩
  exact s_lit (P := P) (t := t) (E := E) (bytes := bytes) (zd := [z]) (pd := [(0, I a), (1, I b)]) (ds := [I a, I b]) (by decide) (by decide) (by simp [evParts, hx, hy]) rfl (fun d hd => by simp at hd; rcases hd with rfl | rfl <;> rfl) rfl

def bgF : Pl := [⟨1, [1, 0]⟩, ⟨2, [0, 0]⟩]
def bgG : Pl := [⟨1, [2, 0]⟩, ⟨4, [1, 0]⟩, ⟨4, [0, 0]⟩]

theorem bgG_text : printT bgG = [120, 94, 50, 32, 43, 32, 52, 42, 120, 32, 43, 32, 52] := by
  have d2 : Lib.itoa 2 = [50] := by rw [itoa_pos (by decide)]; show Lib.decDigits 2 = _; rw [Lib.decDigits, dif_pos (by decide)]; rfl
  have d4 : Lib.itoa 4 = [52] := by rw [itoa_pos (by decide)]; show Lib.decDigits 4 = _; rw [Lib.decDigits, dif_pos (by decide)]; rfl
  simp [printT, bgG, termTx, partsT, headP, partsGo, partOf, d2, d4, Lib.join_cons, Lib.joinTail, Lib.join_one]

theorem polyBegun_pure : Pure Tryd.prog 11 [] (.bool true) := by
  intro H
  have e1 : pmulT xyR bgF bgF = (bgG, 0) := by kernel_rfl
  have e2 : polysCk xyR [bgG] = 0 := by kernel_rfl
  have e3 : valueR xyR bgF [3, 0] = (5, 0) := by kernel_rfl
  have e4 : polysCk xyR [bgF] = 0 := by kernel_rfl
  have c1 := pMul_pure xyR bgF bgF (by decide) (by decide)
  have c2 := Print_pure xyR bgG (by decide)
  have c3 := Value_pure xyR bgF [3, 0] (by decide) (by decide)
  have c4 := pCheck_pure xyR bgF (by decide)
  rw [e1] at c1
  rw [e2, if_pos rfl, bgG_text] at c2
  rw [e3] at c3
  rw [e4] at c4
  refine PureH.of_body Tryd.func11 rfl (by decide) (Nat.le_of_ble_eq_true rfl) fun w0 => ?_
  (repeat (first | refine RO.Sv ?_ | refine RO.Yv ?_ | refine RO.no rfl (by decide) rfl ?_ | refine RO.nil ?_ | refine DW.region ?_ | refine DW.seq ?_ | refine DW.block ?_ | refine DW.skip ?_ | refine DW.exit ?_ | refine DW.condT rfl ?_ | refine DW.condF rfl ?_))
  refine RO.sta (s_two rfl rfl) rfl ?_
  refine RO.sta (sta_call rfl rfl (term_pure 1 [1, 0] _)) rfl ?_
  refine RO.sta (s_two rfl rfl) rfl ?_
  refine RO.sta (sta_call rfl rfl (term_pure 2 [0, 0] _)) rfl ?_
  refine RO.sta (s_lit (pd := [(0, tmD ⟨1, [1, 0]⟩), (1, tmD ⟨2, [0, 0]⟩)]) (ds := [tmD ⟨1, [1, 0]⟩, tmD ⟨2, [0, 0]⟩]) (by decide) (by decide) rfl rfl (fun d hd => by simp at hd; rcases hd with rfl | rfl <;> rfl) rfl) rfl ?_
  (repeat (first | refine RO.Sv ?_ | refine RO.Yv ?_ | refine RO.no rfl (by decide) rfl ?_ | refine RO.nil ?_ | refine DW.region ?_ | refine DW.seq ?_ | refine DW.block ?_ | refine DW.skip ?_ | refine DW.exit ?_ | refine DW.condT rfl ?_ | refine DW.condF rfl ?_))
  refine RO.sta (sta_call rfl rfl (xy_pure _)) rfl ?_
  (repeat (first | refine RO.Sv ?_ | refine RO.Yv ?_ | refine RO.no rfl (by decide) rfl ?_ | refine RO.nil ?_ | refine DW.region ?_ | refine DW.seq ?_ | refine DW.block ?_ | refine DW.skip ?_ | refine DW.exit ?_ | refine DW.condT rfl ?_ | refine DW.condF rfl ?_))
  refine RO.sta (sta_call rfl rfl (c1 _)) rfl ?_
  (repeat (first | refine RO.Sv ?_ | refine RO.Yv ?_ | refine RO.no rfl (by decide) rfl ?_ | refine RO.nil ?_ | refine DW.region ?_ | refine DW.seq ?_ | refine DW.block ?_ | refine DW.skip ?_ | refine DW.exit ?_ | refine DW.condT rfl ?_ | refine DW.condF rfl ?_))
  refine RO.sta (sta_call rfl rfl (xy_pure _)) rfl ?_
  (repeat (first | refine RO.Sv ?_ | refine RO.Yv ?_ | refine RO.no rfl (by decide) rfl ?_ | refine RO.nil ?_ | refine DW.region ?_ | refine DW.seq ?_ | refine DW.block ?_ | refine DW.skip ?_ | refine DW.exit ?_ | refine DW.condT rfl ?_ | refine DW.condF rfl ?_))
  refine RO.sta (sta_call rfl rfl (c2 _)) rfl ?_
  (repeat (first | refine RO.Sv ?_ | refine RO.Yv ?_ | refine RO.no rfl (by decide) rfl ?_ | refine RO.nil ?_ | refine DW.region ?_ | refine DW.seq ?_ | refine DW.block ?_ | refine DW.skip ?_ | refine DW.exit ?_ | refine DW.condT rfl ?_ | refine DW.condF rfl ?_))
  refine RO.sta (sta_call rfl rfl (xy_pure _)) rfl ?_
  (repeat (first | refine RO.Sv ?_ | refine RO.Yv ?_ | refine RO.no rfl (by decide) rfl ?_ | refine RO.nil ?_ | refine DW.region ?_ | refine DW.seq ?_ | refine DW.block ?_ | refine DW.skip ?_ | refine DW.exit ?_ | refine DW.condT rfl ?_ | refine DW.condF rfl ?_))
  refine RO.sta (s_two rfl rfl) rfl ?_
  refine RO.sta (sta_call rfl rfl (c3 _)) rfl ?_
  (repeat (first | refine RO.Sv ?_ | refine RO.Yv ?_ | refine RO.no rfl (by decide) rfl ?_ | refine RO.nil ?_ | refine DW.region ?_ | refine DW.seq ?_ | refine DW.block ?_ | refine DW.skip ?_ | refine DW.exit ?_ | refine DW.condT rfl ?_ | refine DW.condF rfl ?_))
  refine RO.sta (sta_call rfl rfl (xy_pure _)) rfl ?_
  (repeat (first | refine RO.Sv ?_ | refine RO.Yv ?_ | refine RO.no rfl (by decide) rfl ?_ | refine RO.nil ?_ | refine DW.region ?_ | refine DW.seq ?_ | refine DW.block ?_ | refine DW.skip ?_ | refine DW.exit ?_ | refine DW.condT rfl ?_ | refine DW.condF rfl ?_))
  refine RO.sta (sta_call rfl rfl (c4 _)) rfl ?_
  (repeat (first | refine RO.Sv ?_ | refine RO.Yv ?_ | refine RO.no rfl (by decide) rfl ?_ | refine RO.nil ?_ | refine DW.region ?_ | refine DW.seq ?_ | refine DW.block ?_ | refine DW.skip ?_ | refine DW.exit ?_ | refine DW.condT rfl ?_ | refine DW.condF rfl ?_))
  refine RO.yes rfl rfl (OpD.of_sta (s_strEq (a := [120, 94, 50, 32, 43, 32, 52, 42, 120, 32, 43, 32, 52]) (b := [120, 94, 50, 32, 43, 32, 52, 42, 120, 32, 43, 32, 52]) rfl rfl) ?_)
  (repeat (first | refine RO.Sv ?_ | refine RO.Yv ?_ | refine RO.no rfl (by decide) rfl ?_ | refine RO.nil ?_ | refine DW.region ?_ | refine DW.seq ?_ | refine DW.block ?_ | refine DW.skip ?_ | refine DW.exit ?_ | refine DW.condT rfl ?_ | refine DW.condF rfl ?_))
  exact DW.ret ⟨.inl rfl, _, rfl, Over.refl _, .same _⟩

/-- What is wanted, as it stands: nothing if it need not be made. -/
def wantP (w : Int) (want : Pl) : Pl := if w = 0 then want else []

theorem pis_call {H : Heap} (x : Pl × Int) (w : Int) (want : Pl) {p o : Int} {n : Nat} {B : Int} (hn : n ≤ 3) (hB : B ≤ 1000000) (hw : w = 0 → want.length ≤ 4000000000000 ∧ PB 1 p o n B want) (h : x = pisT w want) :
    PureH Tryd.prog H 13 [plD x.1, I x.2, I w, plD (wantP w want)] (.bool true) := by
  have hx : x.1.length ≤ 4000000000000 ∧ ∀ t ∈ x.1, t.e.length ≤ 3 := by
    rw [h]
    unfold pisT doneT
    split
    · rename_i h0
      obtain ⟨h1, h2⟩ := hw h0
      split
      · exact ⟨Nat.zero_le _, fun t ht => by cases ht⟩
      · exact ⟨h1, fun t ht => by have := (h2.all t ht).len; omega⟩
    · exact ⟨Nat.zero_le _, fun t ht => by cases ht⟩
  refine polyIs_pure x.1 x.2 w (wantP w want) hx.1 hx.2 (fun h0 => ?_) ?_ H
  · obtain ⟨h1, h2⟩ := hw h0
    rw [wantP, if_pos h0]
    exact ⟨h1, fun t ht => (h2.all t ht).mok hn hB, topT_ge h2⟩
  · show x = _
    rw [h]
    unfold pisT wantP
    split <;> rfl

theorem padd_pis (r : Rg) (f g : Pl) : paddT r f g = pisT (polysCk r [f, g]) (sumT r.p r.order f g) := by
  unfold paddT pisT
  by_cases h : polysCk r [f, g] = 0
  · rw [if_neg (by simpa using h), if_pos h]
  · rw [if_pos h, if_neg h]

theorem pmul_pis (r : Rg) (f g : Pl) : pmulT r f g = pisT (polysCk r [f, g]) (prodT r.p r.order f g) := by
  unfold pmulT pisT
  by_cases h : polysCk r [f, g] = 0
  · rw [if_neg (by simpa using h), if_pos h]
    obtain ⟨hr, hal⟩ := polysCk_ok h
    have hfo := hal f (by simp)
    have hgo := hal g (by simp)
    have hr2 := ringCk_ok hr
    have hp := ckP_ok hr2.1
    by_cases hb : bigT f g = true
    · rw [if_pos hb]
      unfold doneT
      rw [if_pos (big_great (by omega) (ckP_prm hr2.1) (by omega) hfo.ok hgo.ok hb)]
    · rw [if_neg hb]
  · rw [if_pos h, if_neg h]

theorem sum_pb {r : Rg} {f g : Pl} (h : polysCk r [f, g] = 0) : r.n.toNat ≤ 3 ∧ (sumT r.p r.order f g).length ≤ 4000000000000 ∧ PB 1 r.p r.order r.n.toNat 400 (sumT r.p r.order f g) := by
  obtain ⟨hr, hal⟩ := polysCk_ok h
  have hfo := hal f (by simp)
  have hgo := hal g (by simp)
  have hr2 := ringCk_ok hr
  have hp := ckP_ok hr2.1
  have e1 := hfo.len
  have e2 := hgo.len
  have hsl := sumT_length (p := r.p) (o := r.order) f g
  exact ⟨by omega, by omega, (sumT_ok (by omega) f g hfo.ok hgo.ok).mono (by omega) (by omega)⟩

theorem prod_pb {r : Rg} {f g : Pl} (h : polysCk r [f, g] = 0) : r.n.toNat ≤ 3 ∧ (prodT r.p r.order f g).length ≤ 4000000000000 ∧ PB 1 r.p r.order r.n.toNat 400 (prodT r.p r.order f g) := by
  obtain ⟨hr, hal⟩ := polysCk_ok h
  have hfo := hal f (by simp)
  have hgo := hal g (by simp)
  have hr2 := ringCk_ok hr
  have hp := ckP_ok hr2.1
  have hpr : Prm r.p := ckP_prm hr2.1
  have hmul : f.length * g.length ≤ 2000 * 2000 := Nat.mul_le_mul hfo.len hgo.len
  have h0 : ∀ t ∈ f, TB 0 r.p r.n.toNat 200 t := fun t ht => (hfo.ok.all t ht).mono (by omega) (by omega)
  have hpl := prodT_length (o := r.order) (by omega) hpr hgo.ok (by omega) h0
  exact ⟨by omega, by omega, (prodT_ok (o := r.order) (by omega) hpr hgo.ok (by omega) h0).mono (by omega) (by omega)⟩

theorem polyOps_pure (r : Rg) (f g : Pl) (hf : f.length ≤ 4611686018427387904) (hg : g.length ≤ 4611686018427387904) : Pure Tryd.prog 3 [rgD r, plD f, plD g] (.bool true) := by
  intro H
  refine PureH.of_body Tryd.func3 rfl (by decide) (Nat.le_of_ble_eq_true rfl) fun w0 => ?_
  have c2 := two_polys hf hg
  (repeat (first | refine RO.Sv ?_ | refine RO.Yv ?_ | refine RO.no rfl (by decide) rfl ?_ | refine RO.nil ?_ | refine DW.region ?_ | refine DW.seq ?_ | refine DW.block ?_ | refine DW.skip ?_ | refine DW.exit ?_ | refine DW.condT rfl ?_ | refine DW.condF rfl ?_))
  refine RO.sta (sta_call rfl rfl (pAdd_pure r f g hf hg _)) rfl ?_
  (repeat (first | refine RO.Sv ?_ | refine RO.Yv ?_ | refine RO.no rfl (by decide) rfl ?_ | refine RO.nil ?_ | refine DW.region ?_ | refine DW.seq ?_ | refine DW.block ?_ | refine DW.skip ?_ | refine DW.exit ?_ | refine DW.condT rfl ?_ | refine DW.condF rfl ?_))
  refine RO.sta (sta_call rfl rfl (pMul_pure r f g hf hg _)) rfl ?_
  (repeat (first | refine RO.Sv ?_ | refine RO.Yv ?_ | refine RO.no rfl (by decide) rfl ?_ | refine RO.nil ?_ | refine DW.region ?_ | refine DW.seq ?_ | refine DW.block ?_ | refine DW.skip ?_ | refine DW.exit ?_ | refine DW.condT rfl ?_ | refine DW.condF rfl ?_))
  refine RO.sta (s_lit (pd := [(0, plD f), (1, plD g)]) (ds := [plD f, plD g]) (by decide) (by decide) rfl rfl (fun d hd => by simp at hd; rcases hd with rfl | rfl <;> rfl) rfl) rfl ?_
  refine RO.sta (sta_call rfl rfl (CheckPolys_pure r [f, g] (by simp) c2 _)) rfl ?_
  (repeat (first | refine RO.Sv ?_ | refine RO.Yv ?_ | refine RO.no rfl (by decide) rfl ?_ | refine RO.nil ?_ | refine DW.region ?_ | refine DW.seq ?_ | refine DW.block ?_ | refine DW.skip ?_ | refine DW.exit ?_ | refine DW.condT rfl ?_ | refine DW.condF rfl ?_))
  refine DW.cutg [(1, plD f), (2, plD g), (3, .ipt 4 [rgD r] 0 0), (7, plD (paddT r f g).1), (8, I (paddT r f g).2), (9, plD (pmulT r f g).1), (10, I (pmulT r f g).2), (11, I (polysCk r [f, g])), (12, plD (wantP (polysCk r [f, g]) (sumT r.p r.order f g))), (13, plD (wantP (polysCk r [f, g]) (prodT r.p r.order f g)))] H ?_ ?_
  rotate_left
  · unfold wantP
    by_cases hck : polysCk r [f, g] = 0
    case neg =>
      rw [if_neg hck, if_neg hck, show (polysCk r [f, g] == 0) = false by simpa using hck]
      (repeat (first | refine RO.Sv ?_ | refine RO.Yv ?_ | refine RO.no rfl (by decide) rfl ?_ | refine RO.nil ?_ | refine DW.region ?_ | refine DW.seq ?_ | refine DW.block ?_ | refine DW.skip ?_ | refine DW.exit ?_ | refine DW.condT rfl ?_ | refine DW.condF rfl ?_))
      exact ⟨Heap.sub_refl _, (by repeat first | exact trivial | refine HasG.one rfl ?_ | refine HasN.one rfl ?_ | refine HasG.nil1 rfl ?_)⟩
    obtain ⟨hr, hal⟩ := polysCk_ok hck
    have hfo := hal f (by simp)
    have hgo := hal g (by simp)
    have hr2 := ringCk_ok hr
    have hp := ckP_ok hr2.1
    have hpr : Prm r.p := ckP_prm hr2.1
    have e1 := hfo.len
    have e2 := hgo.len
    have hmul : f.length * g.length ≤ 2000 * 2000 := Nat.mul_le_mul e1 e2
    rw [if_pos hck, if_pos hck, show (polysCk r [f, g] == 0) = true by simpa using hck]
    (repeat (first | refine RO.Sv ?_ | refine RO.Yv ?_ | refine RO.no rfl (by decide) rfl ?_ | refine RO.nil ?_ | refine DW.region ?_ | refine DW.seq ?_ | refine DW.block ?_ | refine DW.skip ?_ | refine DW.exit ?_ | refine DW.condT rfl ?_ | refine DW.condF rfl ?_))
    refine DW.drawS 10 Tryd.mixed (by kernel_rfl) (by decide) ?_
    dsimp only [List.take, List.drop]
    (repeat (first | refine RS.Sv ?_ | refine RS.Yv ?_ | refine RS.no rfl (by decide) rfl ?_ | refine RS.nil ?_))
    refine RS.sta (fun H' hov => sta_call rfl rfl (refSum_pure r f g (n := r.n.toNat) (B := 200) (by omega) (by omega) hp (by omega) hfo.ok hgo.ok _)) rfl ?_
    (repeat (first | refine RS.Sv ?_ | refine RS.Yv ?_ | refine RS.no rfl (by decide) rfl ?_ | refine RS.nil ?_))
    refine RS.sta (fun H' hov => sta_call rfl rfl (refProduct_pure r f g (n := r.n.toNat) (B := 200) (C := 200) (by omega) (by omega) (by omega) (by omega) hr2.1 hpr (by omega) hfo.ok hgo.ok (by omega) (by omega) _)) rfl ?_
    (repeat (first | refine RS.Sv ?_ | refine RS.Yv ?_ | refine RS.no rfl (by decide) rfl ?_ | refine RS.nil ?_))
    (repeat (first | refine RO.Sv ?_ | refine RO.Yv ?_ | refine RO.no rfl (by decide) rfl ?_ | refine RO.nil ?_ | refine DW.region ?_ | refine DW.seq ?_ | refine DW.block ?_ | refine DW.skip ?_ | refine DW.exit ?_ | refine DW.condT rfl ?_ | refine DW.condF rfl ?_))
    exact ⟨Heap.sub_refl _, (by repeat first | exact trivial | refine HasG.one rfl ?_ | refine HasN.one rfl ?_ | refine HasG.nil1 rfl ?_)⟩
  have cA := fun H' => pis_call (H := H') (paddT r f g) (polysCk r [f, g]) (sumT r.p r.order f g) (p := r.p) (o := r.order) (n := if polysCk r [f, g] = 0 then r.n.toNat else 0) (B := 400) (by split <;> first | (rename_i h; exact (sum_pb h).1) | omega) (by omega) (fun h => by rw [if_pos h]; exact (sum_pb h).2) (padd_pis r f g)
  have cB := fun H' => pis_call (H := H') (pmulT r f g) (polysCk r [f, g]) (prodT r.p r.order f g) (p := r.p) (o := r.order) (n := if polysCk r [f, g] = 0 then r.n.toNat else 0) (B := 400) (by split <;> first | (rename_i h; exact (prod_pb h).1) | omega) (by omega) (fun h => by rw [if_pos h]; exact (prod_pb h).2) (pmul_pis r f g)
  (repeat (first | refine RO.Sv ?_ | refine RO.Yv ?_ | refine RO.no rfl (by decide) rfl ?_ | refine RO.nil ?_ | refine DW.region ?_ | refine DW.seq ?_ | refine DW.block ?_ | refine DW.skip ?_ | refine DW.exit ?_ | refine DW.condT rfl ?_ | refine DW.condF rfl ?_))
  refine DW.drawS 25 Tryd.mixed (by kernel_rfl) (by decide) ?_
  dsimp only [List.take, List.drop]
  refine RS.sta (fun H' hov => sta_call rfl rfl (polyBegun_pure _)) rfl ?_
  (repeat (first | refine RS.Sv ?_ | refine RS.Yv ?_ | refine RS.no rfl (by decide) rfl ?_ | refine RS.nil ?_))
  refine RS.yes rfl (fun H' hov => sta_call rfl rfl (pCheck_pure r f hf _)) rfl ?_
  (repeat (first | refine RS.Sv ?_ | refine RS.Yv ?_ | refine RS.no rfl (by decide) rfl ?_ | refine RS.nil ?_))
  refine RS.yes rfl (fun H' hov => sta_call rfl rfl (CheckPolys_pure r [f] (by simp) (fun u hu => by rw [List.mem_singleton.1 hu]; exact hf) _)) rfl ?_
  (repeat (first | refine RS.Sv ?_ | refine RS.Yv ?_ | refine RS.no rfl (by decide) rfl ?_ | refine RS.nil ?_))
  rw [show (polysCk r [f] == polysCk r [f]) = true by simp]
  (repeat (first | refine RS.Sv ?_ | refine RS.Yv ?_ | refine RS.no rfl (by decide) rfl ?_ | refine RS.nil ?_))
  refine RS.yes rfl (fun H' hov => sta_call rfl rfl (cA _)) rfl ?_
  (repeat (first | refine RS.Sv ?_ | refine RS.Yv ?_ | refine RS.no rfl (by decide) rfl ?_ | refine RS.nil ?_))
  refine RS.yes rfl (fun H' hov => sta_call rfl rfl (cB _)) rfl ?_
  (repeat (first | refine RS.Sv ?_ | refine RS.Yv ?_ | refine RS.no rfl (by decide) rfl ?_ | refine RS.nil ?_))
  (repeat (first | refine RO.Sv ?_ | refine RO.Yv ?_ | refine RO.no rfl (by decide) rfl ?_ | refine RO.nil ?_ | refine DW.region ?_ | refine DW.seq ?_ | refine DW.block ?_ | refine DW.skip ?_ | refine DW.exit ?_ | refine DW.condT rfl ?_ | refine DW.condF rfl ?_))
  exact DW.ret ⟨.inl rfl, _, rfl, Over.refl _, .same _⟩

end Go.Proofs.YtblileclefbklaaDoor

namespace Go.Proofs.YtblileclefbklaaDoor
set_option linter.unusedVariables false
set_option linter.unusedSimpArgs false

/-- How far the program is: a rows have their leads, in the columns ahead of c; the others are 0 there. -/
structure Elim (p : Int) (n : Nat) (rows0 rows : List (List Int)) (a c : Nat) : Prop where
  len : rows.length = rows0.length
  ok : ∀ r ∈ rows, RowOk p n r
  sp1 : ∀ r ∈ rows0, Spn p (rows.map vec) (vec r)
  sp2 : ∀ r ∈ rows, Spn p (rows0.map vec) (vec r)
  ale : a ≤ rows.length
  cle : c ≤ n
  led : ∃ ls : List Nat, ls.length = a ∧ ls.Nodup ∧ (∀ m ∈ ls, m < c) ∧ ∀ (i : Nat) (h : i < ls.length) (h' : i < rows.length), Led p (vec rows[i]) ls[i]
  zero : ∀ (i : Nat) (h : i < rows.length), a ≤ i → ∀ j, j < c → vec rows[i] j = 0

theorem Elim.start {p : Int} {n : Nat} {rows : List (List Int)} (h : ∀ r ∈ rows, RowOk p n r) : Elim p n rows rows 0 0 :=
  ⟨rfl, h, fun r hr => Spn.mem (List.mem_map_of_mem hr), fun r hr => Spn.mem (List.mem_map_of_mem hr), Nat.zero_le _, Nat.zero_le _, ⟨[], rfl, by simp, by simp, fun i h => absurd h (Nat.not_lt_zero _)⟩, fun i h _ j hj => absurd hj (Nat.not_lt_zero _)⟩

theorem Elim.skip {p : Int} {n : Nat} {rows0 rows : List (List Int)} {a c : Nat} (h : Elim p n rows0 rows a c) (hc : c < n) (hz : ∀ (i : Nat) (hi : i < rows.length), a ≤ i → vec rows[i] c = 0) : Elim p n rows0 rows a (c + 1) := by
  refine ⟨h.len, h.ok, h.sp1, h.sp2, h.ale, hc, ?_, fun i hi hai j hj => ?_⟩
  · obtain ⟨ls, h1, h2, h3, h4⟩ := h.led
    exact ⟨ls, h1, h2, fun m hm => by have := h3 m hm; omega, h4⟩
  · by_cases hjc : j = c
    · subst hjc; exact hz i hi hai
    · exact h.zero i hi hai j (by omega)

def swapped (rows : List (List Int)) (a k : Nat) (ha : a < rows.length) (hk : k < rows.length) : List (List Int) := (rows.set a rows[k]).set k rows[a]

theorem swapped_get {rows : List (List Int)} {a k : Nat} (ha : a < rows.length) (hk : k < rows.length) (i : Nat) (hi : i < rows.length) (hi' : i < (swapped rows a k ha hk).length) :
    (swapped rows a k ha hk)[i] = if i = k then rows[a] else if i = a then rows[k] else rows[i] := by
  simp only [swapped, List.getElem_set]
  by_cases h1 : k = i
  · subst h1; simp
  · rw [if_neg h1, if_neg (Ne.symm h1)]
    by_cases h2 : a = i
    · subst h2; simp
    · rw [if_neg h2, if_neg (Ne.symm h2)]

theorem swapped_mem {rows : List (List Int)} {a k : Nat} (ha : a < rows.length) (hk : k < rows.length) (r : List Int) : r ∈ swapped rows a k ha hk ↔ r ∈ rows := by
  have hl : (swapped rows a k ha hk).length = rows.length := by simp [swapped]
  constructor
  · intro h
    obtain ⟨i, hi, rfl⟩ := List.mem_iff_getElem.1 h
    rw [swapped_get ha hk i (by omega) hi]
    split
    · exact List.getElem_mem _
    · split
      · exact List.getElem_mem _
      · exact List.getElem_mem _
  · intro h
    obtain ⟨i, hi, rfl⟩ := List.mem_iff_getElem.1 h
    by_cases h1 : i = a
    · subst h1
      have : (swapped rows i k ha hk)[k]'(by omega) = rows[i] := by rw [swapped_get ha hk k hk (by omega), if_pos rfl]
      rw [← this]; exact List.getElem_mem _
    · by_cases h2 : i = k
      · subst h2
        have : (swapped rows a i ha hk)[a]'(by omega) = rows[i] := by
          rw [swapped_get ha hk a ha (by omega), if_neg (Ne.symm h1), if_pos rfl]
        rw [← this]; exact List.getElem_mem _
      · have : (swapped rows a k ha hk)[i]'(by omega) = rows[i] := by rw [swapped_get ha hk i hi (by omega), if_neg h2, if_neg h1]
        rw [← this]; exact List.getElem_mem _

theorem spn_same {p : Int} {A B : List (List Int)} (h : ∀ r, r ∈ A → r ∈ B) {u : Fv} (hu : Spn p (A.map vec) u) : Spn p (B.map vec) u :=
  Spn.trans (fun e he => by
    obtain ⟨r, hr, rfl⟩ := List.mem_map.1 he
    exact Spn.mem (List.mem_map_of_mem (h r hr))) hu

theorem Elim.swap {p : Int} {n : Nat} {rows0 rows : List (List Int)} {a c k : Nat} (h : Elim p n rows0 rows a c) (ha : a < rows.length) (hk : k < rows.length) (hak : a ≤ k) : Elim p n rows0 (swapped rows a k ha hk) a c := by
  have hl : (swapped rows a k ha hk).length = rows.length := by simp [swapped]
  refine ⟨by rw [hl]; exact h.len, fun r hr => h.ok r ((swapped_mem ha hk r).1 hr), fun r hr => spn_same (fun r h => (swapped_mem ha hk r).2 h) (h.sp1 r hr), fun r hr => h.sp2 r ((swapped_mem ha hk r).1 hr), by omega, h.cle, ?_, fun i hi hai j hj => ?_⟩
  · obtain ⟨ls, h1, h2, h3, h4⟩ := h.led
    refine ⟨ls, h1, h2, h3, fun i hi hi' => ?_⟩
    rw [swapped_get ha hk i (by omega) hi', if_neg (by omega), if_neg (by omega)]
    exact h4 i hi (by omega)
  · rw [swapped_get ha hk i (by omega) hi]
    split
    · exact h.zero a ha (Nat.le_refl _) j hj
    · split
      · exact h.zero k hk hak j hj
      · exact h.zero i (by omega) hai j hj

/-- One row is lessened by the row with the next lead. -/
theorem Elim.less {p : Int} (hp : 1 < p) {n : Nat} {rows0 rows : List (List Int)} {a c i : Nat} {b : Int} (h : Elim p n rows0 rows a c) (ha : a < rows.length) (hi : i < rows.length) (hai : a < i) : Elim p n rows0 (rows.set i (lessBy p b rows[i] rows[a])) a c := by
  have o1 := h.ok _ (List.getElem_mem hi)
  have o2 := h.ok _ (List.getElem_mem ha)
  have o3 := lessBy_ok (p := p) (by omega) (b := b) o1 o2
  have hc := lessBy_cong (p := p) (b := b) o1.1 o2.1
  refine ⟨by simpa using h.len, fun r hr => ?_, fun r hr => ?_, fun r hr => ?_, by simpa using h.ale, h.cle, ?_, fun k hk hak j hj => ?_⟩
  · rcases List.mem_or_eq_of_mem_set hr with hr | rfl
    · exact h.ok r hr
    · exact o3
  · refine Spn.trans (fun e he => ?_) (h.sp1 r hr)
    obtain ⟨q, hq, rfl⟩ := List.mem_map.1 he
    obtain ⟨k, hk, rfl⟩ := List.mem_iff_getElem.1 hq
    have getk : ∀ k, (hk : k < rows.length) → k ≠ i → Spn p ((rows.set i (lessBy p b rows[i] rows[a])).map vec) (vec rows[k]) := fun k hk hki => by
      have : (rows.set i (lessBy p b rows[i] rows[a]))[k]'(by simpa using hk) = rows[k] := by rw [List.getElem_set, if_neg (Ne.symm hki)]
      rw [← this]
      exact Spn.mem (List.mem_map_of_mem (List.getElem_mem _))
    by_cases hki : k = i
    · subst hki
      have h1 : Spn p ((rows.set k (lessBy p b rows[k] rows[a])).map vec) (vec (lessBy p b rows[k] rows[a])) := by
        have : lessBy p b rows[k] rows[a] ∈ rows.set k (lessBy p b rows[k] rows[a]) := List.mem_iff_getElem.2 ⟨k, by simpa using hk, by simp⟩
        exact Spn.mem (List.mem_map_of_mem this)
      have h2 := getk a ha (by omega)
      refine Spn.congr (fun j => ?_) (Spn.add h1 (Spn.smul b h2))
      have := hc j
      dsimp only at this
      rwa [show vec (lessBy p b rows[k] rows[a]) j + b * vec rows[a] j - vec rows[k] j = vec (lessBy p b rows[k] rows[a]) j - (vec rows[k] j - b * vec rows[a] j) by omega]
    · exact getk k hk hki
  · rcases List.mem_or_eq_of_mem_set hr with hr | rfl
    · exact h.sp2 r hr
    · refine Spn.congr (fun j => ?_) (Spn.add (h.sp2 _ (List.getElem_mem hi)) (Spn.smul (-b) (h.sp2 _ (List.getElem_mem ha))))
      have := Int.dvd_neg.2 (hc j)
      dsimp only at this
      rw [Int.neg_mul]
      rwa [show vec rows[i] j + -(b * vec rows[a] j) - vec (lessBy p b rows[i] rows[a]) j = -(vec (lessBy p b rows[i] rows[a]) j - (vec rows[i] j - b * vec rows[a] j)) by omega]
  · obtain ⟨ls, h1, h2, h3, h4⟩ := h.led
    refine ⟨ls, h1, h2, h3, fun k hk hk' => ?_⟩
    rw [List.getElem_set, if_neg (by omega)]
    exact h4 k hk (by simpa using hk')
  · have hk2 : k < rows.length := by simpa using hk
    rw [List.getElem_set]
    split
    · have hv := o3.vec (by omega) j
      have := hc j
      dsimp only at this
      rw [h.zero i hi (by omega) j hj, h.zero a ha (Nat.le_refl _) j hj] at this
      exact dvd_small (by simpa using this) hv.1 hv.2
    · exact h.zero k hk2 hak j hj

/-- The place that is cleared. -/
theorem less_clear {inv : Int → Int} {p : Int} (hp : 1 < p) (hinv : InvOk inv p) {n c : Nat} {row k : List Int} (h1 : RowOk p n row) (h2 : RowOk p n k) (hk : vec k c ≠ 0) : vec (lessBy p (vec row c * inv (vec k c) % p) row k) c = 0 := by
  have hv := h2.vec (by omega) c
  have hi := hinv (vec k c) (by omega) hv.2
  have o3 := lessBy_ok (p := p) (by omega) (b := vec row c * inv (vec k c) % p) h1 h2
  have hc := lessBy_cong (p := p) (b := vec row c * inv (vec k c) % p) h1.1 h2.1 c
  dsimp only at hc
  have h3 := o3.vec (by omega) c
  refine dvd_small ?_ h3.1 h3.2
  have e1 : p ∣ vec k c * inv (vec k c) - 1 := by
    rw [Int.emod_def] at hi
    exact ⟨vec k c * inv (vec k c) / p, by omega⟩
  have e2 : p ∣ vec row c * inv (vec k c) % p - vec row c * inv (vec k c) := by
    rw [Int.emod_def]
    exact ⟨-(vec row c * inv (vec k c) / p), by rw [Int.mul_neg]; omega⟩
  have e3 : p ∣ (vec row c * inv (vec k c) % p - vec row c * inv (vec k c)) * vec k c := Int.dvd_trans e2 (Int.dvd_mul_right _ _)
  have e4 : p ∣ vec row c * (vec k c * inv (vec k c) - 1) := Int.dvd_trans e1 (Int.dvd_mul_left _ _)
  have e5 := Int.dvd_sub hc (Int.dvd_add e3 e4)
  have e6 : vec (lessBy p (vec row c * inv (vec k c) % p) row k) c - (vec row c - vec row c * inv (vec k c) % p * vec k c) - ((vec row c * inv (vec k c) % p - vec row c * inv (vec k c)) * vec k c + vec row c * (vec k c * inv (vec k c) - 1)) = vec (lessBy p (vec row c * inv (vec k c) % p) row k) c := by
    rw [Int.sub_mul, Int.mul_sub, Int.mul_one, Int.mul_assoc (vec row c) (inv (vec k c)) (vec k c), Int.mul_comm (inv (vec k c)) (vec k c)]
    omega
  rwa [e6] at e5

theorem Elim.next {p : Int} {n : Nat} {rows0 rows : List (List Int)} {a c : Nat} (h : Elim p n rows0 rows a c) (hp : 1 < p) (hc : c < n) (ha : a < rows.length) (hne : vec rows[a] c ≠ 0) (hz : ∀ (i : Nat) (hi : i < rows.length), a < i → vec rows[i] c = 0) : Elim p n rows0 rows (a + 1) (c + 1) := by
  refine ⟨h.len, h.ok, h.sp1, h.sp2, ha, hc, ?_, fun i hi hai j hj => ?_⟩
  · obtain ⟨ls, h1, h2, h3, h4⟩ := h.led
    refine ⟨ls ++ [c], by simp [h1], ?_, fun m hm => ?_, fun i hi hi' => ?_⟩
    · rw [List.nodup_append]
      exact ⟨h2, by simp, fun x hx y hy => by simp at hy; subst hy; have := h3 x hx; omega⟩
    · rcases List.mem_append.1 hm with hm | hm
      · have := h3 m hm; omega
      · simp at hm; omega
    · by_cases hlt : i < ls.length
      · rw [List.getElem_append_left hlt]
        exact h4 i hlt hi'
      · have hia : i = a := by simp at hi; omega
        subst hia
        have hcl : (ls ++ [c])[i] = c := by rw [List.getElem_append_right (by omega)]; simp
        rw [hcl]
        have hv := (h.ok _ (List.getElem_mem hi')).vec (by omega) c
        refine ⟨fun hd => hne (dvd_small hd hv.1 hv.2), fun j hj => ?_⟩
        rw [h.zero i hi' (Nat.le_refl _) j hj]
        exact Int.dvd_zero p
  · by_cases hjc : j = c
    · subst hjc; exact hz i hi (by omega)
    · exact h.zero i hi (by omega) j (by omega)

/-- At the end. -/
theorem Elim.stop {inv : Int → Int} {p : Int} (hp : 1 < p) (hinv : InvOk inv p) {n : Nat} {rows0 rows : List (List Int)} {a c : Nat} (h : Elim p n rows0 rows a c) (h0 : ∀ r ∈ rows0, RowOk p n r) (he : a = rows.length ∨ c = n) : a = rankT inv p rows0 := by
  obtain ⟨ls, h1, h2, h3, h4⟩ := h.led
  let E : List (Fv × Nat) := (List.range a).map fun i => (vec (rows.getD i []), ls.getD i 0)
  have hEl : E.length = a := by simp [E]
  have hale := h.ale
  have hEm : ∀ x ∈ E, ∃ i, ∃ (hi : i < a), x = (vec (rows[i]'(by omega)), ls[i]'(by omega)) := fun x hx => by
    obtain ⟨i, hi, rfl⟩ := List.mem_map.1 hx
    have hia := List.mem_range.1 hi
    exact ⟨i, hia, by simp [List.getD_eq_getElem?_getD, show i < rows.length by omega, show i < ls.length by omega]⟩
  have hE : Ech p E := by
    refine ⟨fun x hx => ?_, ?_⟩
    · obtain ⟨i, hi, rfl⟩ := hEm x hx
      exact h4 i (by omega) (by omega)
    · have : E.map (·.2) = ls := by
        apply List.ext_getElem
        · simp [E, h1]
        · intro i g1 g2
          simp [E, List.getD_eq_getElem?_getD, g2]
      rw [this]; exact h2
  have := rank_uniq hp hinv h0 hE (fun r hr => ?_) (fun x hx => ?_)
  · rw [hEl] at this; exact this
  · refine Spn.trans (fun e he' => ?_) (h.sp1 r hr)
    obtain ⟨q, hq, rfl⟩ := List.mem_map.1 he'
    obtain ⟨i, hi, rfl⟩ := List.mem_iff_getElem.1 hq
    by_cases hia : i < a
    · refine Spn.mem (List.mem_map.2 ⟨(vec rows[i], ls[i]'(by omega)), ?_, rfl⟩)
      exact List.mem_map.2 ⟨i, List.mem_range.2 hia, by simp [List.getD_eq_getElem?_getD, hi, show i < ls.length by omega]⟩
    · rcases he with he | he
      · omega
      · refine Spn.zero fun j => ?_
        have : vec rows[i] j = 0 := by
          by_cases hj : j < n
          · exact h.zero i hi (by omega) j (by omega)
          · exact vec_ge (by rw [(h.ok _ (List.getElem_mem hi)).1]; omega)
        rw [this]; exact Int.dvd_zero p
  · obtain ⟨i, hi, rfl⟩ := hEm x hx
    exact h.sp2 _ (List.getElem_mem _)

/-! ### A row that is lessened place by place -/

def partRow (full row : List Int) (j : Nat) : List Int := full.take j ++ row.drop j

theorem partRow_len {full row : List Int} (h : full.length = row.length) (j : Nat) : (partRow full row j).length = row.length := by simp [partRow]; omega

theorem partRow_get {full row : List Int} (h : full.length = row.length) {j i : Nat} (hi : i < row.length) (hi' : i < (partRow full row j).length) : (partRow full row j)[i] = if i < j then full[i]'(by omega) else row[i] := by
  have hi2 : i < (full.take j ++ row.drop j).length := hi'
  show (full.take j ++ row.drop j)[i]'hi2 = _
  by_cases hij : i < j
  · rw [if_pos hij, List.getElem_append_left (by simp; omega), List.getElem_take]
  · rw [if_neg hij, List.getElem_append_right (by simp; omega)]
    simp only [List.length_take, List.getElem_drop]
    congr 1
    omega

theorem partRow_set {full row : List Int} (h : full.length = row.length) {j : Nat} (hj : j < row.length) : (partRow full row j).set j (full[j]'(by omega)) = partRow full row (j + 1) := by
  apply List.ext_getElem
  · simp [partRow_len h]
  · intro i h1 h2
    have hi : i < row.length := by rw [partRow_len h] at h2; exact h2
    rw [List.getElem_set, partRow_get h hi h2]
    split
    · rename_i hji
      subst hji
      rw [if_pos (by omega)]
    · rw [partRow_get h hi (by rw [partRow_len h]; exact hi)]
      by_cases hij : i < j
      · rw [if_pos hij, if_pos (by omega)]
      · rw [if_neg hij, if_neg (by omega)]

theorem partRow_all {full row : List Int} (h : full.length = row.length) : partRow full row row.length = full := by simp [partRow, ← h]

/-- Ahead of the lead nothing turns. -/
theorem partRow_zero {p b : Int} {n c : Nat} {row k : List Int} (h1 : RowOk p n row) (h2 : RowOk p n k) (hz : ∀ j, j < c → vec k j = 0) : partRow (lessBy p b row k) row c = row := by
  have hl : (lessBy p b row k).length = row.length := by simp [lessBy, h1.1, h2.1]
  apply List.ext_getElem
  · exact partRow_len hl c
  · intro i g1 g2
    rw [partRow_get hl g2 g1]
    split
    · rename_i hic
      have hk := hz i hic
      have h3 := h1.1
      have h4 := h2.1
      rw [vec_lt (by omega)] at hk
      simp only [lessBy, List.getElem_zipWith]
      rw [hk, Int.mul_zero, Int.add_zero]
      have := h1.2 _ (List.getElem_mem g2)
      exact Int.emod_eq_of_lt this.1 this.2
    · rfl

end Go.Proofs.YtblileclefbklaaDoor

namespace Go.Proofs.YtblileclefbklaaDoor
open Go.RowKit
set_option linter.unusedVariables false
set_option linter.unusedSimpArgs false
set_option maxHeartbeats 4000000

section
variable {P : Program} {H : Heap} {e : Env} {dst : Option Tmp} {ty : TypeId} {pos : String} {af : Array Edge} {gd : Option (Nat × Bool)}

theorem s_loadVec {t T0 : TypeId} {x : Operand} {b off j : Nat} {l : List Int} [CellT P t] (hx : e.ev x = some (.ptr b off)) (hH : H b = some (T0, l.map I)) (ho : off = j) (hl : j < l.length) : Sta P H e ⟨dst, .load t x, ty, pos, af, gd⟩ (I (vec l j)) := by
  subst ho
  rw [vec_lt hl]
  exact s_loadInt hx hH hl

theorem r_loadVec {t T0 : TypeId} {x : Operand} {b off j : Nat} {l : List Int} [CellT P t] (hx : e.ev x = some (.ptr b off)) (hH : H b = some (T0, l.map I)) (ho : off = j) (hl : j < l.length) : ∀ H', Over H H' → Sta P H' e ⟨dst, .load t x, ty, pos, af, gd⟩ (I (vec l j)) :=
  fun H' hov => s_loadVec hx (hov _ _ hH) ho hl

end

theorem turnGo_range {p : Int} (hp : 0 < p) : ∀ (f : Nat) (n a out : Int), 0 ≤ out → out < p → 0 ≤ turnGo p f n a out ∧ turnGo p f n a out < p
  | 0, _, _, out, h0, h1 => ⟨h0, h1⟩
  | f + 1, n, a, out, h0, h1 => by
    simp only [turnGo]
    split
    · exact ⟨h0, h1⟩
    · refine turnGo_range hp f _ _ _ ?_ ?_
      · split
        · exact Int.emod_nonneg _ (by omega)
        · exact h0
      · split
        · exact Int.emod_lt_of_pos _ hp
        · exact h1

theorem turnP_range {p : Int} (hp : 2 ≤ p) (a : Int) : 0 ≤ turnP p a ∧ turnP p a < p := turnGo_range (by omega) _ _ _ _ (by omega) (by omega)

/-- What a mutable slice is from a place on. -/
def restD (b off n k m : Nat) : D := if m < n then .ref b (off + m * k) (n - m) k else .list k []

theorem restD_ref {b off n k m : Nat} (h : m < n) : restD b off n k m = .ref b (off + m * k) (n - m) k := if_pos h

theorem restD_len {b off n k m : Nat} : lenD (restD b off n k m) = some (n - m) := by
  unfold restD
  split
  · rfl
  · simp [lenD]; omega

theorem Heap.set_same {H : Heap} {b : Nat} {x : TypeId × List D} (h : H b = some x) : H.set b x = H := by
  funext c
  simp only [Heap.set]
  split
  · rename_i e; rw [e, h]
  · rfl

theorem s_fromRefD {P : Program} {H : Heap} {e : Env} {dst : Option Tmp} {ty : TypeId} {pos : String} {af : Array Edge} {gd : Option (Nat × Bool)} {t E : TypeId} {x y : Operand} {b off n k bytes m : Nat} {zd : List D} {i : Int} [SliceT P t E] [ElT P E k zd bytes]
    (hx : e.ev x = some (.ref b off n k)) (hy : e.ev y = some (I i)) (hi : i = m) (hm : m ≤ n) : Sta P H e ⟨dst, .slice t x (some y) none none, ty, pos, af, gd⟩ (restD b off n k m) := by
  subst hi
  unfold restD
  split
  · exact s_fromRef (zd := zd) (bytes := bytes) hx hy (by omega)
  · have : m = n := by omega
    subst this
    exact s_fromRefEnd (zd := zd) (bytes := bytes) hx hy

/-- A copy, that may be written. -/
theorem clone_call {H : Heap} (l : List Int) (hl : l.length ≤ 1000000) : CallD Tryd.prog H 60 [intsD l] fun d H' => (l = [] → d = .list 1 []) ∧ (l ≠ [] → Acc H H' d 1 3 (l.map I)) ∧ Over H H' := by
  refine CallD.of_body Tryd.func60 rfl (by decide) (Nat.le_of_ble_eq_true rfl) fun w0 => ?_
  (repeat (first | refine RO.S ?_ | refine RO.Y ?_ | refine RO.no rfl (by decide) rfl ?_ | refine RO.nil ?_ | refine DW.region ?_ | refine DW.seq ?_ | refine DW.block ?_ | refine DW.skip ?_ | refine DW.exit ?_ | refine DW.condT rfl ?_ | refine DW.condF rfl ?_))
  refine RO.dyn rfl (d_eqNil rfl fun b hb => ?_)
  (repeat (first | refine RO.S ?_ | refine RO.Y ?_ | refine RO.no rfl (by decide) rfl ?_ | refine RO.nil ?_ | refine DW.region ?_ | refine DW.seq ?_ | refine DW.block ?_ | refine DW.skip ?_ | refine DW.exit ?_ | refine DW.condT rfl ?_ | refine DW.condF rfl ?_))
  refine DW.cond rfl (fun hbt => ?_) (fun hbt => ?_)
  · have hnil : l = [] := by
      cases l with
      | nil => rfl
      | cons x l => rw [hb (by simp)] at hbt; cases hbt
    subst hnil
    (repeat (first | refine RO.S ?_ | refine RO.Y ?_ | refine RO.no rfl (by decide) rfl ?_ | refine RO.nil ?_ | refine DW.region ?_ | refine DW.seq ?_ | refine DW.block ?_ | refine DW.skip ?_ | refine DW.exit ?_ | refine DW.condT rfl ?_ | refine DW.condF rfl ?_))
    exact DW.ret ⟨.inl rfl, _, .list 1 [], _, rfl, fun _ _ h => h, .nil 1, fun _ => rfl, fun h => absurd rfl h, Over.refl _⟩
  · by_cases hnil : l = []
    · subst hnil
      (repeat (first | refine RO.S ?_ | refine RO.Y ?_ | refine RO.no rfl (by decide) rfl ?_ | refine RO.nil ?_ | refine DW.region ?_ | refine DW.seq ?_ | refine DW.block ?_ | refine DW.skip ?_ | refine DW.exit ?_ | refine DW.condT rfl ?_ | refine DW.condF rfl ?_))
      refine RO.sta (s_appendNil (xs := []) rfl rfl (.inl rfl) (Uni.nil 1) (by simp) (by simp)) rfl ?_
      (repeat (first | refine RO.S ?_ | refine RO.Y ?_ | refine RO.no rfl (by decide) rfl ?_ | refine RO.nil ?_ | refine DW.region ?_ | refine DW.seq ?_ | refine DW.block ?_ | refine DW.skip ?_ | refine DW.exit ?_ | refine DW.condT rfl ?_ | refine DW.condF rfl ?_))
      exact DW.ret ⟨.inl rfl, _, .list 1 [], _, rfl, fun _ _ h => h, .same _, fun _ => rfl, fun h => absurd rfl h, Over.refl _⟩
    · (repeat (first | refine RO.S ?_ | refine RO.Y ?_ | refine RO.no rfl (by decide) rfl ?_ | refine RO.nil ?_ | refine DW.region ?_ | refine DW.seq ?_ | refine DW.block ?_ | refine DW.skip ?_ | refine DW.exit ?_ | refine DW.condT rfl ?_ | refine DW.condF rfl ?_))
      refine RO.dyn rfl (d_append (H0 := H) (l := []) (xs := l.map I) rfl (Acc.nil _ _ _ _) (Over.refl _) rfl (.inl rfl) (uni_I _) (by simp; omega) (by simp; omega) fun d' H' h1 h2 h3 => ?_)
      (repeat (first | refine RO.S ?_ | refine RO.Y ?_ | refine RO.no rfl (by decide) rfl ?_ | refine RO.nil ?_ | refine DW.region ?_ | refine DW.seq ?_ | refine DW.block ?_ | refine DW.skip ?_ | refine DW.exit ?_ | refine DW.condT rfl ?_ | refine DW.condF rfl ?_))
      exact DW.ret ⟨.inl rfl, _, d', H', rfl, fun _ _ h => h, .same _, fun h => absurd h hnil, fun _ => by simpa using h1, h2⟩

theorem indexFunc_rows {H : Heap} {f : FuncId} {caps : List D} (l : List (List Int)) (g : List Int → Bool) (hl : l.length ≤ 4611686018427387904) (hg : ∀ x, x ∈ l → PureH Tryd.prog H f (intsD x :: caps) (.bool (g x))) :
    PureH Tryd.prog H 79 [intssD l, .fn f caps] (I (idxD g l)) := by
  refine PureH.of_body Tryd.func79 rfl (by decide) (Nat.le_of_ble_eq_true rfl) fun w0 => ?_
  (repeat (first | refine RO.S ?_ | refine RO.Y ?_ | refine RO.no rfl (by decide) rfl ?_ | refine RO.nil ?_ | refine DW.region ?_ | refine DW.seq ?_ | refine DW.block ?_ | refine DW.skip ?_ | refine DW.exit ?_ | refine DW.condT rfl ?_ | refine DW.condF rfl ?_))
  refine DW.loopI (fun k : Nat => k ≤ l.length ∧ ∀ (j : Nat) (hj : j < l.length), j < k → g l[j] = false) (fun k => [(0, intssD l), (1, .fn f caps), (7, I l.length), (8, I k)]) (fun _ => H) (fun k => l.length - k) 0 ⟨Nat.zero_le _, fun j hj h => by omega⟩ rfl ⟨rfl, rfl, rfl, rfl, trivial⟩ fun k ⟨hk, hk2⟩ => ?_
  (repeat (first | refine RO.S ?_ | refine RO.Y ?_ | refine RO.no rfl (by decide) rfl ?_ | refine RO.nil ?_ | refine DW.region ?_ | refine DW.seq ?_ | refine DW.block ?_ | refine DW.skip ?_ | refine DW.exit ?_ | refine DW.condT rfl ?_ | refine DW.condF rfl ?_))
  refine DW.cond rfl (fun hb => ?_) (fun hb => ?_)
  · have hlt : k < l.length := by have := of_decide_eq_true hb; omega
    (repeat (first | refine RO.S ?_ | refine RO.Y ?_ | refine RO.no rfl (by decide) rfl ?_ | refine RO.nil ?_ | refine DW.region ?_ | refine DW.seq ?_ | refine DW.block ?_ | refine DW.skip ?_ | refine DW.exit ?_ | refine DW.condT rfl ?_ | refine DW.condF rfl ?_))
    refine RO.sta (sta_call rfl rfl (hg _ (List.getElem_mem hlt))) rfl ?_
    (repeat (first | refine RO.S ?_ | refine RO.Y ?_ | refine RO.no rfl (by decide) rfl ?_ | refine RO.nil ?_ | refine DW.region ?_ | refine DW.seq ?_ | refine DW.block ?_ | refine DW.skip ?_ | refine DW.exit ?_ | refine DW.condT rfl ?_ | refine DW.condF rfl ?_))
    refine DW.cond rfl (fun hb => ?_) (fun hb => ?_)
    · (repeat (first | refine RO.S ?_ | refine RO.Y ?_ | refine RO.no rfl (by decide) rfl ?_ | refine RO.nil ?_ | refine DW.region ?_ | refine DW.seq ?_ | refine DW.block ?_ | refine DW.skip ?_ | refine DW.exit ?_ | refine DW.condT rfl ?_ | refine DW.condF rfl ?_))
      rw [idxD_at hlt hk2 hb]
      exact DW.ret ⟨.inl rfl, _, rfl, Over.refl _, .same _⟩
    · (repeat (first | refine RO.S ?_ | refine RO.Y ?_ | refine RO.no rfl (by decide) rfl ?_ | refine RO.nil ?_ | refine DW.region ?_ | refine DW.seq ?_ | refine DW.block ?_ | refine DW.skip ?_ | refine DW.exit ?_ | refine DW.condT rfl ?_ | refine DW.condF rfl ?_))
      refine ⟨k + 1, ⟨by omega, fun j hj hjk => ?_⟩, by dsimp only; omega, rfl, rfl, rfl, rfl, rfl, trivial⟩
      by_cases h : j = k
      · subst h; exact hb
      · exact hk2 j hj (by omega)
  · (repeat (first | refine RO.S ?_ | refine RO.Y ?_ | refine RO.no rfl (by decide) rfl ?_ | refine RO.nil ?_ | refine DW.region ?_ | refine DW.seq ?_ | refine DW.block ?_ | refine DW.skip ?_ | refine DW.exit ?_ | refine DW.condT rfl ?_ | refine DW.condF rfl ?_))
    have hn : ¬ k < l.length := by have := of_decide_eq_false hb; omega
    rw [idxD_none fun j hj => hk2 j hj (by omega)]
    exact DW.ret ⟨.inl rfl, _, rfl, Over.refl _, .same _⟩

theorem containsFunc_rows {H : Heap} {f : FuncId} {caps : List D} (l : List (List Int)) (g : List Int → Bool) (hl : l.length ≤ 4611686018427387904) (hg : ∀ x, x ∈ l → PureH Tryd.prog H f (intsD x :: caps) (.bool (g x))) :
    PureH Tryd.prog H 69 [intssD l, .fn f caps] (.bool (l.any g)) := by
  refine PureH.of_body Tryd.func69 rfl (by decide) (Nat.le_of_ble_eq_true rfl) fun w0 => ?_
  (repeat (first | refine RO.S ?_ | refine RO.Y ?_ | refine RO.no rfl (by decide) rfl ?_ | refine RO.nil ?_ | refine DW.region ?_ | refine DW.seq ?_ | refine DW.block ?_ | refine DW.skip ?_ | refine DW.exit ?_ | refine DW.condT rfl ?_ | refine DW.condF rfl ?_))
  refine RO.sta (sta_call rfl rfl (indexFunc_rows l g hl hg)) rfl ?_
  (repeat (first | refine RO.S ?_ | refine RO.Y ?_ | refine RO.no rfl (by decide) rfl ?_ | refine RO.nil ?_ | refine DW.region ?_ | refine DW.seq ?_ | refine DW.block ?_ | refine DW.skip ?_ | refine DW.exit ?_ | refine DW.condT rfl ?_ | refine DW.condF rfl ?_))
  have h : decide (0 ≤ idxD g l) = l.any g := by
    unfold idxD
    cases hx : l.findIdx? g with
    | none =>
      rw [List.findIdx?_eq_none_iff] at hx
      have : l.any g = false := by rw [List.any_eq_false]; intro x hm; simp [hx x hm]
      rw [this]; rfl
    | some i =>
      rw [List.findIdx?_eq_some_iff_getElem] at hx
      obtain ⟨h1, h2, _⟩ := hx
      have : l.any g = true := List.any_eq_true.2 ⟨_, List.getElem_mem h1, h2⟩
      rw [this]
      show decide (0 ≤ (i : Int)) = true
      exact decide_eq_true (by omega)
  rw [← h]
  exact DW.ret ⟨.inl rfl, _, rfl, Over.refl _, .same _⟩

theorem idxD_cases {α : Type} (g : α → Bool) (l : List α) : (idxD g l = -1 ∧ ∀ (j : Nat) (hj : j < l.length), g l[j] = false) ∨ ∃ (k : Nat) (hk : k < l.length), idxD g l = k ∧ g l[k] = true := by
  unfold idxD
  cases h : l.findIdx? g with
  | none =>
    rw [List.findIdx?_eq_none_iff] at h
    exact .inl ⟨rfl, fun j hj => h _ (List.getElem_mem hj)⟩
  | some i =>
    rw [List.findIdx?_eq_some_iff_getElem] at h
    obtain ⟨h1, h2, _⟩ := h
    exact .inr ⟨i, h1, rfl, h2⟩

/-- The same over rows that may be written. -/
theorem indexFunc_ref {H : Heap} {f : FuncId} {caps : List D} {b off m : Nat} {T : TypeId} {cells : List D} (ds : Nat → D) (g : Nat → Bool) (hH : H b = some (T, cells)) (hds : ∀ (i : Nat), i < m → cells[off + i]? = some (ds i)) (hl : m ≤ 1000000)
    (hg : ∀ i, i < m → PureH Tryd.prog H f (ds i :: caps) (.bool (g i))) :
    PureH Tryd.prog H 79 [.ref b off m 1, .fn f caps] (I (idxD g (List.range m))) := by
  refine PureH.of_body Tryd.func79 rfl (by decide) (Nat.le_of_ble_eq_true rfl) fun w0 => ?_
  (repeat (first | refine RO.S ?_ | refine RO.Y ?_ | refine RO.no rfl (by decide) rfl ?_ | refine RO.nil ?_ | refine DW.region ?_ | refine DW.seq ?_ | refine DW.block ?_ | refine DW.skip ?_ | refine DW.exit ?_ | refine DW.condT rfl ?_ | refine DW.condF rfl ?_))
  refine DW.loopI (fun k : Nat => k ≤ m ∧ ∀ (j : Nat), j < k → g j = false) (fun k => [(0, .ref b off m 1), (1, .fn f caps), (7, I m), (8, I k)]) (fun _ => H) (fun k => m - k) 0 ⟨Nat.zero_le _, fun j h => by omega⟩ rfl ⟨rfl, rfl, rfl, rfl, trivial⟩ fun k ⟨hk, hk2⟩ => ?_
  (repeat (first | refine RO.S ?_ | refine RO.Y ?_ | refine RO.no rfl (by decide) rfl ?_ | refine RO.nil ?_ | refine DW.region ?_ | refine DW.seq ?_ | refine DW.block ?_ | refine DW.skip ?_ | refine DW.exit ?_ | refine DW.condT rfl ?_ | refine DW.condF rfl ?_))
  refine DW.cond rfl (fun hb => ?_) (fun hb => ?_)
  · have hlt : k < m := by have := of_decide_eq_true hb; omega
    (repeat (first | refine RO.S ?_ | refine RO.Y ?_ | refine RO.no rfl (by decide) rfl ?_ | refine RO.nil ?_ | refine DW.region ?_ | refine DW.seq ?_ | refine DW.block ?_ | refine DW.skip ?_ | refine DW.exit ?_ | refine DW.condT rfl ?_ | refine DW.condF rfl ?_))
    refine RO.sta (s_ixRef rfl rfl (by omega) (by omega)) rfl ?_
    refine RO.sta (s_loadMut rfl hH (by simpa using hds k hlt)) rfl ?_
    refine RO.sta (sta_call rfl rfl (hg _ hlt)) rfl ?_
    (repeat (first | refine RO.S ?_ | refine RO.Y ?_ | refine RO.no rfl (by decide) rfl ?_ | refine RO.nil ?_ | refine DW.region ?_ | refine DW.seq ?_ | refine DW.block ?_ | refine DW.skip ?_ | refine DW.exit ?_ | refine DW.condT rfl ?_ | refine DW.condF rfl ?_))
    refine DW.cond rfl (fun hb => ?_) (fun hb => ?_)
    · (repeat (first | refine RO.S ?_ | refine RO.Y ?_ | refine RO.no rfl (by decide) rfl ?_ | refine RO.nil ?_ | refine DW.region ?_ | refine DW.seq ?_ | refine DW.block ?_ | refine DW.skip ?_ | refine DW.exit ?_ | refine DW.condT rfl ?_ | refine DW.condF rfl ?_))
      rw [idxD_at (l := List.range m) (k := k) (by simpa using hlt) (fun j hj h => by simpa using hk2 j h) (by simpa using hb)]
      exact DW.ret ⟨.inl rfl, _, rfl, Over.refl _, .same _⟩
    · (repeat (first | refine RO.S ?_ | refine RO.Y ?_ | refine RO.no rfl (by decide) rfl ?_ | refine RO.nil ?_ | refine DW.region ?_ | refine DW.seq ?_ | refine DW.block ?_ | refine DW.skip ?_ | refine DW.exit ?_ | refine DW.condT rfl ?_ | refine DW.condF rfl ?_))
      refine ⟨k + 1, ⟨by omega, fun j hjk => ?_⟩, by dsimp only; omega, rfl, rfl, rfl, rfl, rfl, trivial⟩
      by_cases h : j = k
      · subst h; exact hb
      · exact hk2 j (by omega)
  · (repeat (first | refine RO.S ?_ | refine RO.Y ?_ | refine RO.no rfl (by decide) rfl ?_ | refine RO.nil ?_ | refine DW.region ?_ | refine DW.seq ?_ | refine DW.block ?_ | refine DW.skip ?_ | refine DW.exit ?_ | refine DW.condT rfl ?_ | refine DW.condF rfl ?_))
    have hn : ¬ k < m := by have := of_decide_eq_false hb; omega
    rw [idxD_none (l := List.range m) fun j hj => by simpa using hk2 j (by simp at hj; omega)]
    exact DW.ret ⟨.inl rfl, _, rfl, Over.refl _, .same _⟩

theorem rankLit1_pure (row : List Int) (hl : row.length ≤ 4611686018427387904) : Pure Tryd.prog 70 [intsD row] (.bool (decide (400 < row.length))) := by
  intro H
  refine PureH.of_body Tryd.func70 rfl (by decide) (Nat.le_of_ble_eq_true rfl) fun w0 => ?_
  (repeat (first | refine RO.S ?_ | refine RO.Y ?_ | refine RO.no rfl (by decide) rfl ?_ | refine RO.nil ?_ | refine DW.region ?_ | refine DW.seq ?_ | refine DW.block ?_ | refine DW.skip ?_ | refine DW.exit ?_ | refine DW.condT rfl ?_ | refine DW.condF rfl ?_))
  have : decide ((400 : Int) < (row.length : Int)) = decide (400 < row.length) := by
    rw [decide_eq_decide]; omega
  rw [← this]
  exact DW.ret ⟨.inl rfl, _, rfl, Over.refl _, .same _⟩

theorem rankLit2_pure (p : Int) (row : List Int) (hp : -9223372036854775808 ≤ p - 1) (hp2 : p ≤ 9223372036854775807) (hl : row.length ≤ 4611686018427387904) : Pure Tryd.prog 71 [intsD row, .ipt 1 [I p] 0 0] (.bool (!(row.all (inP p)))) := by
  intro H
  refine PureH.of_body Tryd.func71 rfl (by decide) (Nat.le_of_ble_eq_true rfl) fun w0 => ?_
  (repeat (first | refine RO.S ?_ | refine RO.Y ?_ | refine RO.no rfl (by decide) rfl ?_ | refine RO.nil ?_ | refine DW.region ?_ | refine DW.seq ?_ | refine DW.block ?_ | refine DW.skip ?_ | refine DW.exit ?_ | refine DW.condT rfl ?_ | refine DW.condF rfl ?_))
  refine RO.sta (sta_call rfl rfl (In_pure p row hp hp2 hl _)) rfl ?_
  (repeat (first | refine RO.S ?_ | refine RO.Y ?_ | refine RO.no rfl (by decide) rfl ?_ | refine RO.nil ?_ | refine DW.region ?_ | refine DW.seq ?_ | refine DW.block ?_ | refine DW.skip ?_ | refine DW.exit ?_ | refine DW.condT rfl ?_ | refine DW.condF rfl ?_))
  exact DW.ret ⟨.inl rfl, _, rfl, Over.refl _, .same _⟩

/-- Is a place of a row not 0? -/
theorem indepLit_pure {H : Heap} {b bc c : Nat} {T T2 : TypeId} (row : List Int) (hH : H b = some (T, row.map I)) (hc : H bc = some (T2, [I c])) (hlt : c < row.length) :
    PureH Tryd.prog H 80 [.ref b 0 row.length 1, .ptr bc 0] (.bool (vec row c != 0)) := by
  refine PureH.of_body Tryd.func80 rfl (by decide) (Nat.le_of_ble_eq_true rfl) fun w0 => ?_
  (repeat (first | refine RO.S ?_ | refine RO.Y ?_ | refine RO.no rfl (by decide) rfl ?_ | refine RO.nil ?_ | refine DW.region ?_ | refine DW.seq ?_ | refine DW.block ?_ | refine DW.skip ?_ | refine DW.exit ?_ | refine DW.condT rfl ?_ | refine DW.condF rfl ?_))
  refine RO.sta (s_loadMut (d := I c) rfl hc rfl) rfl ?_
  refine RO.sta (s_ixRef rfl rfl (by omega) (by simpa using hlt)) rfl ?_
  refine RO.sta (s_loadInt (l := row) rfl hH (by simpa using hlt)) rfl ?_
  (repeat (first | refine RO.S ?_ | refine RO.Y ?_ | refine RO.no rfl (by decide) rfl ?_ | refine RO.nil ?_ | refine DW.region ?_ | refine DW.seq ?_ | refine DW.block ?_ | refine DW.skip ?_ | refine DW.exit ?_ | refine DW.condT rfl ?_ | refine DW.condF rfl ?_))
  have : vec row c = row[0 + (c : Int).toNat]'(by simpa using hlt) := by rw [vec_lt hlt]; simp
  rw [this]
  exact DW.ret ⟨.inl rfl, _, rfl, Over.refl _, .same _⟩

end Go.Proofs.YtblileclefbklaaDoor
