/-
  Package field: its calls. No condition.
-/
import Derived.Shelf.SlIterI.Collect
import Derived.RangeFuncBox
import Derived.RangeFuncLeaves
import Derived.WalkKit
import Derived.OwnWalkIn
import Derived.TacticsInMore
import Derived.LoopNIn
import Derived.LoopIn
import Derived.Test.YtcdihmhmoddppaaGreatProg
import Derived.Test.YtcdihmhmoddppaaGreatKRc10
import Derived.Test.YtcdihmhmoddppaaGreatKRc8

namespace Go.Proofs.YtcdihmhmoddppaaGreat
open Go.RowKit Go.Maps Go.Sort Go.Shelf

def cl_ren : Go.Shelf.Ren := ⟨fun | 11 => 144 | n => n, fun | 24 => 37 | 26 => 3 | 28 => 132 | 33 => 71 | 0 => 0 | n => n, fun n => n⟩

theorem cl_lays : SlLaysZI.n11 Tryz.prog cl_ren := {
  mixed := by kernel_rfl
  f11 := ⟨"slices.AppendSeq[[]int,int]", by rfl, Tryz.func144.trans (congrArg some (by kernel_rfl))⟩
  t0 := Tryz.underlying0
  a0 := Tryz.isAgg0
  z0 := Tryz.sizeOf0
  v0 := Tryz.zeroValue0
  t24 := Tryz.underlying37
  a24 := Tryz.isAgg37
  z24 := Tryz.sizeOf37
  v24 := Tryz.zeroValue37
  t26 := Tryz.underlying3
  a26 := Tryz.isAgg3
  z26 := Tryz.sizeOf3
  v26 := Tryz.zeroValue3
  t28 := Tryz.underlying132
  a28 := Tryz.isAgg132
  z28 := Tryz.sizeOf132
  v28 := Tryz.zeroValue132
  i26 := by kernel_rfl }

def cl_intOf : Value → Int
  | .int _ q => q
  | _ => 0

def cl_upto (zs : List Int) (k : Nat) : List Int := (List.range k).map fun j => zs[j]?.getD 0
theorem cl_upto_succ (zs : List Int) (k : Nat) : cl_upto zs (k + 1) = cl_upto zs k ++ [zs[k]?.getD 0] := by simp [cl_upto, List.range_succ]
theorem cl_upto_length (zs : List Int) (k : Nat) : (cl_upto zs k).length = k := by simp [cl_upto]
theorem cl_upto_all (zs : List Int) : cl_upto zs zs.length = zs := by
  apply List.ext_getElem
  · simp [cl_upto]
  · intro i h1 h2
    simp [cl_upto, h2]

set_option maxRecDepth 100000 in
set_option maxHeartbeats 4000000 in
theorem cl_values (F : Fence) (n : Nat) (h7 : F.fn 130) (hro : F.round = none) (hn : 1 ≤ n) (l Bs o b off cap : Nat) (zs : List Int) (hreach : zs.length * 8 ≤ 140737488351232) (w0 : World) (hb : b < w0.heap.size)
    (hc : ∀ j, j < zs.length → w0.cell? ⟨b, off + j, none⟩ = some (.int .i64 (zs[j]?.getD 0))) (J : List Int → World → Prop) (hJ : ∀ ss W, J ss W → Below w0.heap.size w0 W)
    (hY : ∀ pre x W, J pre W → pre.length < zs.length → YieldAt F (n - 1) Tryz.prog l #[.int .i64 x] W fun e W' => e = .returned (.bool true) ∧ J (pre ++ [x]) W')
    (W : World) (hBs : W.cell? ⟨Bs, o, none⟩ = some (.slice (some ⟨b, off, none⟩) zs.length cap)) (h0 : J [] W) :
    CallsIn F n Tryz.prog 130 #[.func (.yield l) #[] #[], .pointer (some ⟨Bs, o, none⟩)] W fun e W' => (∃ v, e = .returned v) ∧ J zs W' := by
  refine callsIn_of_wp Tryz.func130 rfl h7 ?_ hro
  simp only [Tryz.ntmps130, List.size_toArray, List.length_cons, List.length_nil, Nat.reduceAdd, Nat.reduceSub, Array.replicate_succ, Array.replicate_zero, List.push_toArray, List.append_toArray, List.nil_append, List.cons_append]
  gi_wp2
  gi_loopw [7] (fun i wr => ∃ k : Nat, k ≤ zs.length ∧ i = .int .i64 k ∧ J (cl_upto zs k) wr)
    (fun i _ => zs.length - (cl_intOf i).toNat)
  case atStart => exact ⟨0, Nat.zero_le _, rfl, h0⟩
  case round =>
    obtain ⟨k, hk, rfl, hJs⟩ := hrel
    by_cases hlt : k < zs.length
    · have hcx : wr.cell? ⟨b, off + k, none⟩ = some (.int .i64 (zs[k]?.getD 0)) := ((hJ _ _ hJs).cell (p := ⟨b, off + k, none⟩) hb).trans (hc k hlt)
      obtain ⟨fn, tmps, assign, body, hy, hR⟩ := hY _ (zs[k]?.getD 0) wr hJs (by rw [cl_upto_length]; exact hlt)
      have hup := cl_upto_succ zs k
      obtain ⟨z, hz⟩ : ∃ z, zs[k]?.getD 0 = z := ⟨_, rfl⟩
      rw [hz] at hcx hy hR hup
      clear hz
      gi_wp2
      refine hR.mono ?_
      rintro e W3 ⟨rfl, hJ3⟩
      gi_wp2
      go_roundw
      case rel => exact ⟨k + 1, by omega, by simp, by rw [hup]; exact hJ3⟩
      case measure => simp [cl_intOf]; omega
    · obtain rfl : k = zs.length := by omega
      gi_wp2
      go_end0
      exact ⟨⟨_, rfl⟩, by rw [cl_upto_all] at hJs; exact hJs⟩

set_option maxRecDepth 100000 in
set_option maxHeartbeats 4000000 in
theorem cl_appendSeq (F : Fence) (n : Nat) (h11 : F.fn 144) (hro : F.round = none) (hn : 2 ≤ n) (h7 : F.fn 130) (w : World) (Bs o b off cap : Nat) (zs : List Int) (hlen : zs.length ≤ 1000000)
    (hBs : w.cell? ⟨Bs, o, none⟩ = some (.slice (some ⟨b, off, none⟩) zs.length cap)) (hb : b < w.heap.size) (hc : ∀ j, j < zs.length → w.cell? ⟨b, off + j, none⟩ = some (.int .i64 (zs[j]?.getD 0))) :
    CallsIn F n Tryz.prog 144 #[.slice none 0 0, .func (.func 130) #[] #[.pointer (some ⟨Bs, o, none⟩)]] w fun e w' => ∃ v : Value, e = .returned v ∧ w'.ownsRow w.heap.size 3 1 v zs.length (zs.map encZ) ∧ Below w.heap.size w w' := by
  have h1 : 1 ≤ n := by omega
  have L := cl_lays
  have eg : ∀ args w, (callFunc 130 args).run Tryz.prog w = .ok (.enter 130 args) w := Tryz.call130
  have hBlt : Bs < w.heap.size := World.block_lt_of_cell? w ⟨Bs, o, none⟩ hBs
  have mixed := L.mixed; have t0 := L.t0; have a0 := L.a0; have z0 := L.z0; have v0 := L.v0; have t24 := L.t24; have a24 := L.a24; have z24 := L.z24; have v24 := L.v24; have t26 := L.t26; have a26 := L.a26; have z26 := L.z26; have v26 := L.v26; have t28 := L.t28; have a28 := L.a28; have z28 := L.z28; have v28 := L.v28
  have hne : cl_ren.t 24 ≠ cl_ren.t 26 := fun e => by have h := L.t24; rw [e, L.t26] at h; cases h
  have u0 := run_underlying L.t0; have u24 := run_underlying L.t24; have u26 := run_underlying L.t26; have u28 := run_underlying L.t28
  obtain ⟨_, _, FG⟩ := L.f11
  refine callsIn_of_wp_marks FG rfl h11 ?_ hro
  simp only [SlBodyZ.n11_ntmps cl_ren, List.size_toArray, List.length_cons, List.length_nil, Nat.reduceAdd, Nat.reduceSub, Array.replicate_succ, Array.replicate_zero, List.push_toArray, List.append_toArray, List.nil_append, List.cons_append]
  gi_wp2
  refine wpIn_rangeFunc ?_
  intro fn hfn
  rw [hro]
  obtain ⟨lb, hlb⟩ : ∃ lb : Array Value, #[Value.pointer (some ⟨Bs, o, none⟩)] = lb := ⟨_, rfl⟩
  rw [hlb]
  obtain ⟨W0, hW0⟩ : ∃ W0, w.alloc (.cells #[.slice none 0 0] (cl_ren.t 24)) = W0 := ⟨_, rfl⟩
  have hs0 : W0.heap.size = w.heap.size + 1 := by rw [← hW0]; simp
  have hv0 : W0.heap[w.heap.size]? = some (.cells #[.slice none 0 0] (cl_ren.t 24) (0, 0)) := by rw [← hW0]; exact World.alloc_heap_new w _
  have hb0 : Below w.heap.size w W0 := by rw [← hW0]; exact (Below.refl _ w).alloc (Nat.le_refl _) _
  rw [hW0]
  obtain ⟨W1, hW1⟩ : ∃ W1, (W0.alloc (.deferred (some []))).alloc (.loop (AnyZI.apRec cl_ren fn (.func (.func 130) #[] lb) w.heap.size W0.heap.size .ready none)) = W1 := ⟨_, rfl⟩
  have hold : ∀ k, k < W0.heap.size → W1.heap[k]? = W0.heap[k]? := fun k hk => by
    rw [← hW1]; exact (Below.heap_alloc _ _ k (by simp; omega)).trans (Below.heap_alloc _ _ k hk)
  have hb1 : Below w.heap.size w W1 := by rw [← hW1]; exact (hb0.alloc hb0.size _).alloc (by have := hb0.size; simp; omega) _
  have hs1 : W1.heap.size = W0.heap.size + 2 := by rw [← hW1]; simp
  have hM : AnyZI.ApAt cl_ren w fn (.func (.func 130) #[] lb) w.heap.size (W0.heap.size + 1) W0.heap.size [] W1 :=
    ⟨⟨_, (hold w.heap.size (by omega)).trans hv0, ⟨rfl, .inl ⟨rfl, rfl⟩⟩, by simp⟩,
     by rw [← hW1]; have := World.alloc_heap_new (W0.alloc (.deferred (some []))) (.loop (AnyZI.apRec cl_ren fn (.func (.func 130) #[] lb) w.heap.size W0.heap.size .ready none)); rwa [World.size_alloc] at this,
     by rw [← hW1]; exact (Below.heap_alloc _ _ _ (by simp)).trans (World.alloc_heap_new W0 _), hb1⟩
  refine ⟨W0.heap.size + 1, [{ target := .collected W0.heap.size, args := #[] }], W1, { target := .fn (.func 130) lb, args := #[.func (.yield (W0.heap.size + 1)) #[] #[]] }, W1, 130,
    #[.func (.yield (W0.heap.size + 1)) #[] #[]] ++ lb, W1, ?_, ?_, ?_, ?_, fun _ => h1, ?_⟩
  · rw [← hW1]; exact run_enterLoop_outer _ _ _ _ _
  · simp [resolve, go_sem]
  · intro f' hf'; simp [Target.leads] at hf'; subst hf'; exact h7
  · simp [invoke, go_sem, eg]
  · subst hlb
    refine (cl_values F (n - 1) h7 hro (by omega) (W0.heap.size + 1) Bs o b off cap zs (by omega) w hb hc (AnyZI.ApAt cl_ren w fn (.func (.func 130) #[] #[Value.pointer (some ⟨Bs, o, none⟩)]) w.heap.size (W0.heap.size + 1) W0.heap.size) (fun ss W h => h.below)
      (fun pre x W hJ hl => ?_) W1 ((hb1.cell (p := ⟨Bs, o, none⟩) hBlt).trans hBs) hM).mono ?_
    · obtain ⟨fn', tmps, assign, body, hy, hR⟩ := AnyZI.apYield { L with } F (n - 1 - 1) w fn hfn _ w.heap.size (W0.heap.size + 1) W0.heap.size (by omega) (by omega) (by omega) (Nat.le_refl _) (by omega) zs.length (by unfold maxLen; omega) (by omega) pre x W hJ hl
      exact ⟨fn', tmps, assign, body, hy, hR.mono fun e W' h => ⟨h.1, h.2.1⟩⟩
    rintro e W2 ⟨⟨v0, rfl⟩, h2⟩
    obtain ⟨v, hv, hrow, hnil⟩ := h2.box
    have hend := run_endLoop (P := Tryz.prog) h2.L (by simp [AnyZI.apRec])
    obtain ⟨W3, hW3⟩ : ∃ W3, W2.putObj (W0.heap.size + 1) (.loop { AnyZI.apRec cl_ren fn (.func (.func 130) #[] #[Value.pointer (some ⟨Bs, o, none⟩)]) w.heap.size W0.heap.size .ready none with state := .exhausted }) = W3 := ⟨_, rfl⟩
    rw [hW3] at hend
    have hg3 : W2.grownBy W3 (some (W0.heap.size + 1)) := by rw [← hW3]; exact grownBy_putObj_a _ _ _
    have hv3 : W3.heap[w.heap.size]? = some (.cells #[v] (cl_ren.t 24) (0, 0)) := by rw [← hW3]; exact (World.putObj_heap_other (by omega)).trans hv
    have hK3 : W3.heap[W0.heap.size]? = some (.deferred (some [])) := by rw [← hW3]; exact (World.putObj_heap_other (by omega)).trans h2.K
    have hrow3 := hrow.kept hg3 (ownsRow_ne_a hrow h2.L (fun cur e => by first | cases e | exact hne (Obj.cells.inj e).2.1))
    have hb3 : Below w.heap.size w W3 := h2.below.grown hg3 h2.below.size (fun k e => by cases e; omega)
    obtain ⟨hc3, hf3⟩ := cell_of_box_a hv3
    clear hW3
    refine ⟨none, W3, hend, ?_⟩
    gi_wp2
    rw [← hs0]
    refine ⟨by simp, .inl ⟨_, _, rfl, run_takeDeferred hK3, ?_⟩⟩
    exact ⟨_, results_tmp rfl _ _ _, v, rfl, hrow3.kept (grownBy_putObj_a _ _ _) (ownsRow_ne_a hrow3 hK3 (fun cur e => by first | cases e | exact hne (Obj.cells.inj e).2.1)), hb3.grown (grownBy_putObj_a _ _ _) hb3.size (fun k e => by cases e; omega)⟩

end Go.Proofs.YtcdihmhmoddppaaGreat

namespace Go.Proofs.YtcdihmhmoddppaaGreat
open Go.RowKit Go.Maps Go.Sort Go.Shelf

set_option maxRecDepth 100000 in
set_option maxHeartbeats 4000000 in
theorem cl_collect (F : Fence) (n : Nat) (h8 : F.fn 128) (h11 : F.fn 144) (hro : F.round = none) (hn : 3 ≤ n) (h7 : F.fn 130) (w : World) (Bs o b off cap : Nat) (zs : List Int) (hlen : zs.length ≤ 1000000)
    (hBs : w.cell? ⟨Bs, o, none⟩ = some (.slice (some ⟨b, off, none⟩) zs.length cap)) (hb : b < w.heap.size) (hc : ∀ j, j < zs.length → w.cell? ⟨b, off + j, none⟩ = some (.int .i64 (zs[j]?.getD 0))) :
    CallsIn F n Tryz.prog 128 #[.func (.func 130) #[] #[.pointer (some ⟨Bs, o, none⟩)]] w fun e w' => ∃ v : Value, e = .returned v ∧ w'.ownsRow w.heap.size 3 1 v zs.length (zs.map encZ) ∧ Below w.heap.size w w' := by
  have h1 : 1 ≤ n := by omega
  have e11 : ∀ args w, (callFunc 144 args).run Tryz.prog w = .ok (.enter 144 args) w := Tryz.call144
  refine callsIn_of_wp Tryz.func128 rfl h8 ?_ hro
  simp only [Tryz.ntmps128, List.size_toArray, List.length_cons, List.length_nil, Nat.reduceAdd, Nat.reduceSub, Array.replicate_succ, Array.replicate_zero, List.push_toArray, List.append_toArray, List.nil_append, List.cons_append]
  gi_wp2_with (gi_at_fn 144; refine (cl_appendSeq F (n - 1) h11 hro (by omega) h7 _ Bs o b off cap zs hlen hBs hb hc).mono ?_; rintro e w' ⟨v, rfl, hrow, hb⟩)
  go_ret
  exact ⟨v, rfl, hrow, hb⟩

theorem collect_call (H : Heap) (l : List Int) (h0 : l ≠ []) (hl : l.length ≤ 1000000) :
    CallD Tryz.prog H 128 [.fn 130 [.ipt 1 [.list 1 (l.map I)] 0 0]] fun d' H' => ∃ b, H b = none ∧ d' = .ref b 0 l.length 1 ∧ H' = H.set b (3, l.map I) := by
  refine ⟨⟨_, Tryz.func128, rfl, rfl⟩, fun w args ho hr => ?_⟩
  obtain ⟨hs, hv⟩ := hr
  obtain ⟨v, hv0, hrep⟩ := hv 0 _ rfl
  have hpos : 0 < l.length := by cases l with | nil => exact absurd rfl h0 | cons a l => simp
  have key : ∃ Bs o b off cap : Nat, v = .func (.func 130) #[] #[.pointer (some ⟨Bs, o, none⟩)] ∧ w.cell? ⟨Bs, o, none⟩ = some (.slice (some ⟨b, off, none⟩) l.length cap) ∧ b < w.heap.size ∧ ∀ j, j < l.length → w.cell? ⟨b, off + j, none⟩ = some (.int .i64 (l[j]?.getD 0)) := by
    cases hrep with
    | @fn _ _ vs vals gs g2 g3 =>
      have e0 := g2 0 _ rfl
      have r0 := g3 0 _ rfl
      have hvs : vs = #[vals 0] := by
        apply Array.ext_getElem?
        intro j
        cases j with
        | zero => rw [e0]; rfl
        | succ j => rw [Array.getElem?_eq_none (by rw [gs]; simp), Array.getElem?_eq_none (by simp)]
      subst hvs
      generalize hp : vals 0 = p at r0
      cases r0 with
      | @ipt _ _ Bs o _ _ vals2 k1 k2 k3 =>
        obtain ⟨k4, k5⟩ := k2 0 0 _ rfl
        have r1 := k3 0 0 _ rfl
        generalize hq : vals2 0 0 = q at r1
        rw [hq] at k5
        have hlm : l.length = (l.map I).length := by simp
        cases r1 with
        | @list _ _ a c vals3 m1 m2 m3 m4 m5 =>
          have hcell : ∀ i (hi : i < l.length), cellAt (l.map I) i 0 = some (I l[i]) := fun i hi => cellAt_map1 (fun _ => rfl) hi
          obtain ⟨b, off, ha, hHb, hwb⟩ := m4 0 0 _ (hcell 0 hpos)
          refine ⟨Bs, o + 0 * 1 + 0, b, off, c, rfl, ?_, World.block_lt_of_cell? w _ hwb, fun j hj => ?_⟩
          · rw [k5, ha]; simp
          · obtain ⟨b', off', ha', _, hwb'⟩ := m4 j 0 _ (hcell j hj)
            rw [ha] at ha'
            cases ha'
            rw [rep_int (m5 j 0 _ (hcell j hj))] at hwb'
            simpa [hj] using hwb'
  obtain ⟨Bs, o, b, off, cap, rfl, k1, k2, k3⟩ := key
  obtain rfl : args = #[.func (.func 130) #[] #[.pointer (some ⟨Bs, o, none⟩)]] := by
    apply Array.ext_getElem?
    intro j
    cases j with
    | zero => rw [hv0]; rfl
    | succ j => rw [Array.getElem?_eq_none (by rw [hs]; simp), Array.getElem?_eq_none (by simp)]
  refine (callsIn_wide.1 (cl_collect Fence.wide 3 trivial trivial rfl (by omega) trivial w Bs o b off cap l hl k1 k2 k3)).mono ?_
  rintro e w' ⟨v, rfl, hrow, hb⟩
  obtain ⟨-, h⟩ := hrow
  rcases h with ⟨_, h⟩ | ⟨g, cap', cur, rfl, g1, g2, g3, g4, g5, g6⟩
  · omega
  have hne : ∀ c x, H c = some x → c ≠ g := fun c x hx he => by have := ho.lt hx; omega
  have hnone : H g = none := by
    cases hx : H g with
    | none => rfl
    | some x => exact absurd rfl (hne g x hx)
  have hcur : ∀ j (hj : j < l.length), cur[j]? = some (.int .i64 l[j]) := fun j hj => by
    have h1 : (cur.toList.take (l.length * 1))[j]? = some (encZ l[j]) := by rw [g6]; simp [hj]
    rw [Nat.mul_one, List.getElem?_take_of_lt hj] at h1
    simpa [encZ] using h1
  have hext : Ext w H w' (H.set g (3, l.map I)) := by
    refine ⟨hb.os, hb.tape, hb.output, hb.size, fun c hc hx => ⟨?_, hb.block c hc⟩, fun c cs T hx => ⟨cs, by rw [hb.block c (lt_of_block hx)]; exact hx, rfl⟩⟩
    simp only [Heap.set]
    rw [if_neg (by omega)]
    exact hx
  refine ⟨_, _, _, rfl, ⟨g, hnone, rfl, rfl⟩, .ref g2 (by rw [g5]; omega) g3 g4, ⟨fun c T cells hx => ?_, ho.inv.ext hext⟩, hext⟩
  simp only [Heap.set] at hx
  split at hx
  · rename_i hcg
    subst hcg
    cases hx
    refine ⟨cur, g2, by rw [g5]; simp; omega, fun j x hj => ?_⟩
    have hjl : j < l.length := by have := (List.getElem?_eq_some_iff.1 hj).1; simpa using this
    have hxe : x = I l[j] := by simpa [hjl] using hj.symm
    subst hxe
    exact ⟨rfl, _, hcur j hjl, .int _ _⟩
  · obtain ⟨cs, e1, e2, e3⟩ := ho.at' c T cells hx
    refine ⟨cs, by rw [hb.block c (ho.lt hx)]; exact e1, e2, fun j x hj => ?_⟩
    obtain ⟨q1, v, q2, q3⟩ := e3 j x hj
    exact ⟨q1, v, q2, q3.ext hext⟩

end Go.Proofs.YtcdihmhmoddppaaGreat

namespace Go.Proofs.YtcdihmhmoddppaaGreat
open Go.RowKit Go.ChangeShapes Go.WideShapes Go.ChangeAt
set_option linter.unusedVariables false
set_option linter.unusedSimpArgs false

theorem Tryz.ownK : ownKnob Tryz.prog.godebug = none := by kernel_rfl
theorem Tryz.laidOutK : laidOutB Tryz.prog = true := by kernel_rfl

/-- An argument that is one cell. -/
theorem arg_cell {α : Type} {P : Program} {t : TypeId} {f : α → D} {Q : α → Prop} (ho : Opens P t 1 f Q) (hf : ∀ a, cellsOf (f a) = [f a]) {H : Type} {enc : TypeId × Value → H} {W : World} {v : Value} {d : DataW H} {p : List MemPlace} (hv : v.cells = #[v])
    (h : DataW.Trod enc P W 0 (fun _ => true) true t v d p) (hw : (d.weights P t).all (· ≤ reachBytes) = true) : ∃ a, Rep W noHeap v (f a) ∧ Q a := by
  obtain ⟨fuel, hf'⟩ := h
  obtain ⟨a, _, hr, hq⟩ := ho H enc W fuel _ d p hf' hw
  rw [hv, hf] at hr
  obtain ⟨u, hu, hrep⟩ := hr.2 0 (f a) rfl
  simp at hu
  subst hu
  exact ⟨a, hrep, hq⟩

/-- An argument that is a struct. -/
theorem arg_agg {α : Type} {P : Program} {t : TypeId} {k : Nat} {f : α → D} {Q : α → Prop} (ho : Opens P t k f Q) (hf : ∀ a, f a = .agg (cellsOf (f a))) {H : Type} {enc : TypeId × Value → H} {W : World} {cs : Array Value} {d : DataW H} {p : List MemPlace}
    (h : DataW.Trod enc P W 0 (fun _ => true) true t (.agg cs) d p) (hw : (d.weights P t).all (· ≤ reachBytes) = true) : ∃ a, Rep W noHeap (.agg cs) (f a) ∧ Q a := by
  obtain ⟨fuel, hf'⟩ := h
  obtain ⟨a, _, hr, hq⟩ := ho H enc W fuel _ d p hf' hw
  refine ⟨a, ?_, hq⟩
  rw [hf a]
  have : (Value.agg cs).cells.toList.toArray = cs := by simp [Value.cells]
  rw [this] at hr
  exact hr.agg

theorem slice_cells (a : Option Addr) (n c : Nat) : (Value.slice a n c).cells = #[.slice a n c] := rfl
theorem int_cells (k : IntKind) (n : Int) : (Value.int k n).cells = #[.int k n] := rfl

/-- The arguments, one after the other. -/
inductive ArgsAre (W : World) : List Value → List D → Prop
  | nil : ArgsAre W [] []
  | cons {v : Value} {d : D} {vs : List Value} {ds : List D} (h : Rep W noHeap v d) (r : ArgsAre W vs ds) : ArgsAre W (v :: vs) (d :: ds)

theorem ArgsAre.reps {W : World} : ∀ {vs : List Value} {ds : List D}, ArgsAre W vs ds → RepsA W noHeap vs.toArray ds
  | _, _, .nil => ⟨rfl, fun j x h => by simp at h⟩
  | _, _, .cons h r => by
    have ih := r.reps
    refine ⟨by simpa using ih.1, fun j x hx => ?_⟩
    cases j with
    | zero => simp at hx; subst hx; exact ⟨_, by simp, h⟩
    | succ j =>
      obtain ⟨u, hu, hr⟩ := ih.2 j x (by simpa using hx)
      exact ⟨u, by simpa using hu, hr⟩

theorem weights_head {H : Type} {P : Program} {t : TypeId} {ts : List TypeId} {d : DataW H} {ds : List (DataW H)} (h : (DataW.weightsEach P (t :: ts) (d :: ds)).all (· ≤ reachBytes) = true) : (d.weights P t).all (· ≤ reachBytes) = true ∧ (DataW.weightsEach P ts ds).all (· ≤ reachBytes) = true := by
  simpa only [DataW.weightsEach, List.all_append, Bool.and_eq_true] using h

theorem Tryz.opensInt : Opens Tryz.prog 3 1 I fitsInt := opens_int Tryz.underlying3
theorem Tryz.opensInts : Opens Tryz.prog 37 1 intsD (fun l => (∀ a ∈ l, fitsInt a) ∧ l.length * Tryz.prog.bytesOf 3 ≤ reachBytes) := opens_slice Tryz.underlying37 (by kernel_rfl) (by decide) (fun _ => rfl) (opens_int Tryz.underlying3)
theorem Tryz.opensRing : Opens Tryz.prog 23 4 rgD (fun r => fitsInt r.p ∧ fitsInt r.n ∧ fitsInt r.order ∧ fitsInt r.over) := opens_ring Tryz.underlying23 (by kernel_rfl) Tryz.underlying3 (by kernel_rfl) ⟨rfl, rfl⟩ ⟨rfl, rfl⟩ ⟨rfl, rfl⟩ ⟨rfl, rfl⟩

theorem len_le {n b : Nat} (h : n * b ≤ reachBytes) (hb : 8 ≤ b) : n ≤ 17592186044416 := by
  have h1 : n * 8 ≤ n * b := Nat.mul_le_mul_left _ hb
  unfold reachBytes at h
  omega

theorem Tryz.bytes_int : 8 ≤ Tryz.prog.bytesOf 3 := of_decide_eq_true (by kernel_rfl)
theorem Tryz.bytes_ints : 8 ≤ Tryz.prog.bytesOf 37 := of_decide_eq_true (by kernel_rfl)

theorem inv_plain (w : World) (H : Heap) : TabsOk w H := fun g cs h => by cases h

/-- What a pure law that says true comes to. -/
theorem law_calls {P : Program} {f : FuncId} {ds : List D} (hp : Pure P f ds (.bool true)) {W : World} (hi : TabsOk W noHeap) {args : Array Value} (ha : ArgsAre W args.toList ds) : Calls P f args W fun e W' => e = .returned (.bool true) ∧ Below W.heap.size W W' := by
  have hr := ha.reps
  rw [Array.toArray_toList] at hr
  refine ((hp noHeap).calls W args (hok_none W hi) hr).mono fun e W' ⟨v, he, hv, _, hx⟩ => ⟨?_, ext_below hx⟩
  rw [he, rep_bool hv]

end Go.Proofs.YtcdihmhmoddppaaGreat

namespace Go.Proofs.YtcdihmhmoddppaaGreat
open Go.RowKit Go.ChangeShapes Go.WideShapes Go.ChangeAt
set_option linter.unusedVariables false
set_option linter.unusedSimpArgs false

theorem opens_two {α β γ : Type} {P : Program} {t t0 t1 : TypeId} {f0 f1 : Field} {f : γ → D} {g0 : α → D} {g1 : β → D} {Q0 : α → Prop} {Q1 : β → Prop} (mk : α → β → γ) (hu : P.underlying t = some (.struct #[f0, f1])) (hc : P.cellsOf t = 2)
    (hc0 : P.cellsOf t0 = 1) (hc1 : P.cellsOf t1 = 1) (h0 : f0.type = t0 ∧ f0.offset = 0) (h1 : f1.type = t1 ∧ f1.offset = 1) (hf : ∀ a b, cellsOf (f (mk a b)) = [g0 a, g1 b]) (hg0 : ∀ a, cellsOf (g0 a) = [g0 a]) (hg1 : ∀ a, cellsOf (g1 a) = [g1 a])
    (ho0 : Opens P t0 1 g0 Q0) (ho1 : Opens P t1 1 g1 Q1) : Opens P t 2 f (fun c => ∃ a b, c = mk a b ∧ Q0 a ∧ Q1 b) := by
  intro H enc W fuel cs d ps h hw
  cases fuel with
  | zero => simp [DataW.trod] at h
  | succ fuel =>
    unfold DataW.trod at h
    rw [hu] at h
    split at h <;> try (simp at *; done)
    rename_i cs _ _ fs h1'
    cases h1'
    split at h
    · rename_i hlen
      rw [hc] at hlen
      match cs, hlen with
      | [c0, c1], _ =>
        simp only [List.mapM_cons, List.mapM_nil, h0.1, h0.2, h1.1, h1.2, hc0, hc1, List.drop, List.take] at h
        cases e0 : DataW.trod enc P W 0 (fun _ => true) true fuel t0 [c0] with
        | none => simp [e0] at h
        | some y0 =>
          cases e1 : DataW.trod enc P W 0 (fun _ => true) true fuel t1 [c1] with
          | none => simp [e0, e1] at h
          | some y1 =>
            simp [e0, e1] at h
            obtain ⟨rfl, _⟩ := h
            obtain ⟨d0, p0⟩ := y0
            obtain ⟨d1, p1⟩ := y1
            simp only [DataW.weights, hu, List.map_cons, List.map_nil, DataW.weightsEach, h0.1, h1.1, List.append_nil, List.all_append, Bool.and_eq_true] at hw
            obtain ⟨a, ha1, ha2, ha3⟩ := ho0 H enc W fuel [c0] d0 p0 e0 hw.1
            obtain ⟨b, hb1, hb2, hb3⟩ := ho1 H enc W fuel [c1] d1 p1 e1 hw.2
            rw [hg0] at ha2
            rw [hg1] at hb2
            refine ⟨mk a b, by rw [hf]; rfl, ?_, a, b, rfl, ha3, hb3⟩
            rw [hf]
            refine ⟨rfl, fun j x hx => ?_⟩
            match j, hx with
            | 0, hx =>
              cases hx
              obtain ⟨v, hv, hr⟩ := ha2.2 0 (g0 a) rfl
              simp at hv
              subst hv
              exact ⟨_, rfl, hr⟩
            | 1, hx =>
              cases hx
              obtain ⟨v, hv, hr⟩ := hb2.2 0 (g1 b) rfl
              simp at hv
              subst hv
              exact ⟨_, rfl, hr⟩
            | j + 2, hx => simp at hx
    · cases h

/-- What is known of a term that is handed in. -/
def TmIn (P : Program) (ti : TypeId) (t : Tm) : Prop := ∃ a b, t = ⟨a, b⟩ ∧ fitsInt a ∧ ((∀ x ∈ b, fitsInt x) ∧ b.length * P.bytesOf ti ≤ reachBytes)

theorem Tryz.opensTerm : Opens Tryz.prog 50 2 tmD (TmIn Tryz.prog 3) := opens_two (fun c e => (⟨c, e⟩ : Tm)) Tryz.underlying50 (by kernel_rfl) (by kernel_rfl) (by kernel_rfl) ⟨rfl, rfl⟩ ⟨rfl, rfl⟩ (fun _ _ => rfl) (fun _ => rfl) (fun _ => rfl) Tryz.opensInt Tryz.opensInts

theorem Tryz.opensPoly : Opens Tryz.prog 31 1 plD (fun l => (∀ a ∈ l, TmIn Tryz.prog 3 a) ∧ l.length * Tryz.prog.bytesOf 50 ≤ reachBytes) := opens_slice Tryz.underlying31 (by kernel_rfl) (by decide) (fun _ => rfl) Tryz.opensTerm

theorem Tryz.opensTerms : Opens Tryz.prog 30 1 plD (fun l => (∀ a ∈ l, TmIn Tryz.prog 3 a) ∧ l.length * Tryz.prog.bytesOf 50 ≤ reachBytes) := opens_slice Tryz.underlying30 (by kernel_rfl) (by decide) (fun _ => rfl) Tryz.opensTerm

theorem Tryz.opensPolys : Opens Tryz.prog 32 1 vcD (fun l => (∀ f ∈ l, (∀ a ∈ f, TmIn Tryz.prog 3 a) ∧ f.length * Tryz.prog.bytesOf 50 ≤ reachBytes) ∧ l.length * Tryz.prog.bytesOf 31 ≤ reachBytes) := opens_slice Tryz.underlying32 (by kernel_rfl) (by decide) (fun _ => rfl) Tryz.opensPoly

theorem Tryz.opensVec : Opens Tryz.prog 33 1 vcD (fun l => (∀ f ∈ l, (∀ a ∈ f, TmIn Tryz.prog 3 a) ∧ f.length * Tryz.prog.bytesOf 50 ≤ reachBytes) ∧ l.length * Tryz.prog.bytesOf 31 ≤ reachBytes) := opens_slice Tryz.underlying33 (by kernel_rfl) (by decide) (fun _ => rfl) Tryz.opensPoly

theorem Tryz.opensVecs : Opens Tryz.prog 24 1 vcsD (fun l => (∀ v ∈ l, (∀ f ∈ v, (∀ a ∈ f, TmIn Tryz.prog 3 a) ∧ f.length * Tryz.prog.bytesOf 50 ≤ reachBytes) ∧ v.length * Tryz.prog.bytesOf 31 ≤ reachBytes) ∧ l.length * Tryz.prog.bytesOf 33 ≤ reachBytes) := opens_slice Tryz.underlying24 (by kernel_rfl) (by decide) (fun _ => rfl) Tryz.opensVec

theorem Tryz.bytes_term : 8 ≤ Tryz.prog.bytesOf 50 := of_decide_eq_true (by kernel_rfl)
theorem Tryz.bytes_poly : 8 ≤ Tryz.prog.bytesOf 31 := of_decide_eq_true (by kernel_rfl)
theorem Tryz.bytes_vec : 8 ≤ Tryz.prog.bytesOf 33 := of_decide_eq_true (by kernel_rfl)

end Go.Proofs.YtcdihmhmoddppaaGreat

namespace Go.Proofs.YtcdihmhmoddppaaGreat
open Go.RowKit
set_option linter.unusedVariables false

theorem plLe {f : Pl} (b : (∀ a ∈ f, TmIn Tryz.prog 3 a) ∧ f.length * Tryz.prog.bytesOf 50 ≤ reachBytes) : f.length ≤ 4611686018427387904 := by have := len_le b.2 Tryz.bytes_term; omega

theorem vcLe {v : Vc} (b : (∀ f ∈ v, (∀ a ∈ f, TmIn Tryz.prog 3 a) ∧ f.length * Tryz.prog.bytesOf 50 ≤ reachBytes) ∧ v.length * Tryz.prog.bytesOf 31 ≤ reachBytes) :
    v.length ≤ 4611686018427387904 ∧ ∀ f ∈ v, f.length ≤ 4611686018427387904 := ⟨by have := len_le b.2 Tryz.bytes_poly; omega, fun f hf => plLe (b.1 f hf)⟩

theorem vcsLe {l : List Vc} (b : (∀ v ∈ l, (∀ f ∈ v, (∀ a ∈ f, TmIn Tryz.prog 3 a) ∧ f.length * Tryz.prog.bytesOf 50 ≤ reachBytes) ∧ v.length * Tryz.prog.bytesOf 31 ≤ reachBytes) ∧ l.length * Tryz.prog.bytesOf 33 ≤ reachBytes) :
    l.length ≤ 4611686018427387904 ∧ ∀ v ∈ l, v.length ≤ 4611686018427387904 ∧ ∀ f ∈ v, f.length ≤ 4611686018427387904 := ⟨by have := len_le b.2 Tryz.bytes_vec; omega, fun v hv => vcLe (b.1 v hv)⟩

end Go.Proofs.YtcdihmhmoddppaaGreat

namespace Go.Proofs.YtcdihmhmoddppaaGreat
open Go.RowKit
set_option linter.unusedVariables false
set_option linter.unusedSimpArgs false

theorem within_pure (n lo hi : Int) : Pure Tryz.prog 106 [I n, I lo, I hi] (.bool (decide (lo ≤ n) && decide (n ≤ hi))) := by
  intro H
  refine PureH.of_body Tryz.func106 rfl (by decide) (Nat.le_of_ble_eq_true rfl) fun w0 => ?_
  (repeat (first | refine RO.S ?_ | refine RO.Y ?_ | refine RO.no rfl (by decide) rfl ?_ | refine RO.nil ?_ | refine DW.region ?_ | refine DW.seq ?_ | refine DW.block ?_ | refine DW.skip ?_ | refine DW.exit ?_ | refine DW.condT rfl ?_ | refine DW.condF rfl ?_))
  generalize decide (lo ≤ n) = b
  cases b <;> ((repeat (first | refine RO.S ?_ | refine RO.Y ?_ | refine RO.no rfl (by decide) rfl ?_ | refine RO.nil ?_ | refine DW.region ?_ | refine DW.seq ?_ | refine DW.block ?_ | refine DW.skip ?_ | refine DW.exit ?_ | refine DW.condT rfl ?_ | refine DW.condF rfl ?_))) <;> exact DW.ret ⟨.inl rfl, _, rfl, Over.refl _, .same _⟩

theorem between_pure (n lo hi : Int) : Pure Tryz.prog 40 [I n, I lo, I hi] (.bool (decide (lo ≤ n) && decide (n ≤ hi))) := by
  intro H
  refine PureH.of_body Tryz.func40 rfl (by decide) (Nat.le_of_ble_eq_true rfl) fun w0 => ?_
  (repeat (first | refine RO.S ?_ | refine RO.Y ?_ | refine RO.no rfl (by decide) rfl ?_ | refine RO.nil ?_ | refine DW.region ?_ | refine DW.seq ?_ | refine DW.block ?_ | refine DW.skip ?_ | refine DW.exit ?_ | refine DW.condT rfl ?_ | refine DW.condF rfl ?_))
  generalize decide (lo ≤ n) = b
  cases b <;> ((repeat (first | refine RO.S ?_ | refine RO.Y ?_ | refine RO.no rfl (by decide) rfl ?_ | refine RO.nil ?_ | refine DW.region ?_ | refine DW.seq ?_ | refine DW.block ?_ | refine DW.skip ?_ | refine DW.exit ?_ | refine DW.condT rfl ?_ | refine DW.condF rfl ?_))) <;> exact DW.ret ⟨.inl rfl, _, rfl, Over.refl _, .same _⟩

/-- Where the first one is that is so; -1: nowhere. -/
def idxD {α : Type} (g : α → Bool) (l : List α) : Int :=
  match l.findIdx? g with
  | some i => i
  | none => -1

theorem idxD_at {α : Type} {g : α → Bool} {l : List α} {k : Nat} (hk : k < l.length) (h1 : ∀ (j : Nat) (hj : j < l.length), j < k → g l[j] = false) (h2 : g l[k] = true) : idxD g l = k := by
  have : l.findIdx? g = some k := by
    rw [List.findIdx?_eq_some_iff_getElem]
    exact ⟨hk, h2, fun j hj => by rw [h1 j (by omega) hj]; simp⟩
  simp [idxD, this]

theorem idxD_none {α : Type} {g : α → Bool} {l : List α} (h : ∀ (j : Nat) (hj : j < l.length), g l[j] = false) : idxD g l = -1 := by
  have : l.findIdx? g = none := by
    rw [List.findIdx?_eq_none_iff]
    intro x hx
    obtain ⟨j, hj, rfl⟩ := List.mem_iff_getElem.1 hx
    exact h j hj
  simp [idxD, this]

theorem indexFunc_int {H : Heap} {f : FuncId} {caps : List D} (l : List Int) (g : Int → Bool) (hl : l.length ≤ 4611686018427387904) (hg : ∀ x, x ∈ l → PureH Tryz.prog H f (I x :: caps) (.bool (g x))) :
    PureH Tryz.prog H 70 [intsD l, .fn f caps] (I (idxD g l)) := by
  refine PureH.of_body Tryz.func70 rfl (by decide) (Nat.le_of_ble_eq_true rfl) fun w0 => ?_
  (repeat (first | refine RO.S ?_ | refine RO.Y ?_ | refine RO.no rfl (by decide) rfl ?_ | refine RO.nil ?_ | refine DW.region ?_ | refine DW.seq ?_ | refine DW.block ?_ | refine DW.skip ?_ | refine DW.exit ?_ | refine DW.condT rfl ?_ | refine DW.condF rfl ?_))
  refine DW.loopI (fun k : Nat => k ≤ l.length ∧ ∀ (j : Nat) (hj : j < l.length), j < k → g l[j] = false) (fun k => [(0, intsD l), (1, .fn f caps), (7, I l.length), (8, I k)]) (fun _ => H) (fun k => l.length - k) 0 ⟨Nat.zero_le _, fun j hj h => by omega⟩ rfl ⟨rfl, rfl, rfl, rfl, trivial⟩ fun k ⟨hk, hk2⟩ => ?_
  (repeat (first | refine RO.S ?_ | refine RO.Y ?_ | refine RO.no rfl (by decide) rfl ?_ | refine RO.nil ?_ | refine DW.region ?_ | refine DW.seq ?_ | refine DW.block ?_ | refine DW.skip ?_ | refine DW.exit ?_ | refine DW.condT rfl ?_ | refine DW.condF rfl ?_))
  refine DW.cond rfl (fun hb => ?_) (fun hb => ?_)
  · have hlt : k < l.length := by have := of_decide_eq_true hb; omega
    (repeat (first | refine RO.S ?_ | refine RO.Y ?_ | refine RO.no rfl (by decide) rfl ?_ | refine RO.nil ?_ | refine DW.region ?_ | refine DW.seq ?_ | refine DW.block ?_ | refine DW.skip ?_ | refine DW.exit ?_ | refine DW.condT rfl ?_ | refine DW.condF rfl ?_))
    refine RO.sta (sta_call rfl rfl (hg _ (List.getElem_mem hlt))) rfl ?_
    (repeat (first | refine RO.S ?_ | refine RO.Y ?_ | refine RO.no rfl (by decide) rfl ?_ | refine RO.nil ?_ | refine DW.region ?_ | refine DW.seq ?_ | refine DW.block ?_ | refine DW.skip ?_ | refine DW.exit ?_ | refine DW.condT rfl ?_ | refine DW.condF rfl ?_))
    refine DW.cond rfl (fun hb => ?_) (fun hb => ?_)
    · (repeat (first | refine RO.S ?_ | refine RO.Y ?_ | refine RO.no rfl (by decide) rfl ?_ | refine RO.nil ?_ | refine DW.region ?_ | refine DW.seq ?_ | refine DW.block ?_ | refine DW.skip ?_ | refine DW.exit ?_ | refine DW.condT rfl ?_ | refine DW.condF rfl ?_))
      rw [idxD_at hlt hk2 hb]
      exact DW.ret ⟨.inl rfl, _, rfl, Over.refl _, .same _⟩
    · (repeat (first | refine RO.S ?_ | refine RO.Y ?_ | refine RO.no rfl (by decide) rfl ?_ | refine RO.nil ?_ | refine DW.region ?_ | refine DW.seq ?_ | refine DW.block ?_ | refine DW.skip ?_ | refine DW.exit ?_ | refine DW.condT rfl ?_ | refine DW.condF rfl ?_))
      refine ⟨k + 1, ⟨by omega, fun j hj hjk => ?_⟩, by dsimp only; omega, rfl, rfl, rfl, rfl, rfl, trivial⟩
      by_cases h : j = k
      · subst h; exact hb
      · exact hk2 j hj (by omega)
  · (repeat (first | refine RO.S ?_ | refine RO.Y ?_ | refine RO.no rfl (by decide) rfl ?_ | refine RO.nil ?_ | refine DW.region ?_ | refine DW.seq ?_ | refine DW.block ?_ | refine DW.skip ?_ | refine DW.exit ?_ | refine DW.condT rfl ?_ | refine DW.condF rfl ?_))
    have hn : ¬ k < l.length := by have := of_decide_eq_false hb; omega
    rw [idxD_none fun j hj => hk2 j hj (by omega)]
    exact DW.ret ⟨.inl rfl, _, rfl, Over.refl _, .same _⟩

theorem containsFunc_int {H : Heap} {f : FuncId} {caps : List D} (l : List Int) (g : Int → Bool) (hl : l.length ≤ 4611686018427387904) (hg : ∀ x, x ∈ l → PureH Tryz.prog H f (I x :: caps) (.bool (g x))) :
    PureH Tryz.prog H 35 [intsD l, .fn f caps] (.bool (l.any g)) := by
  refine PureH.of_body Tryz.func35 rfl (by decide) (Nat.le_of_ble_eq_true rfl) fun w0 => ?_
  (repeat (first | refine RO.S ?_ | refine RO.Y ?_ | refine RO.no rfl (by decide) rfl ?_ | refine RO.nil ?_ | refine DW.region ?_ | refine DW.seq ?_ | refine DW.block ?_ | refine DW.skip ?_ | refine DW.exit ?_ | refine DW.condT rfl ?_ | refine DW.condF rfl ?_))
  refine RO.sta (sta_call rfl rfl (indexFunc_int l g hl hg)) rfl ?_
  (repeat (first | refine RO.S ?_ | refine RO.Y ?_ | refine RO.no rfl (by decide) rfl ?_ | refine RO.nil ?_ | refine DW.region ?_ | refine DW.seq ?_ | refine DW.block ?_ | refine DW.skip ?_ | refine DW.exit ?_ | refine DW.condT rfl ?_ | refine DW.condF rfl ?_))
  have h : decide (0 ≤ idxD g l) = l.any g := by
    unfold idxD
    cases hx : l.findIdx? g with
    | none =>
      rw [List.findIdx?_eq_none_iff] at hx
      have : l.any g = false := by rw [List.any_eq_false]; intro x hm; simp [hx x hm]
      rw [this]; rfl
    | some i =>
      rw [List.findIdx?_eq_some_iff_getElem] at hx
      obtain ⟨h1, h2, _⟩ := hx
      have : l.any g = true := List.any_eq_true.2 ⟨_, List.getElem_mem h1, h2⟩
      rw [this]
      show decide (0 ≤ (i : Int)) = true
      exact decide_eq_true (by omega)
  rw [← h]
  exact DW.ret ⟨.inl rfl, _, rfl, Over.refl _, .same _⟩

/-- Is a number one modulo p? -/
def inP (p n : Int) : Bool := decide (0 ≤ n) && decide (n ≤ p - 1)

/-- Has a number a divisor? -/
def hasDiv (p : Int) : Bool := (List.range (p.toNat - 2)).any fun i => p % ((i : Int) + 2) == 0

/-- What is wrong with a prime. -/
def ckP (p : Int) : Int := if decide (2 ≤ p) && decide (p ≤ 101) then (if hasDiv p then 4 else 0) else 3

theorem hasDiv_of {p d : Int} (hd : 2 ≤ d) (hp : d < p) (h : p % d = 0) : hasDiv p = true := by
  unfold hasDiv
  rw [List.any_eq_true]
  refine ⟨(d - 2).toNat, by rw [List.mem_range]; omega, ?_⟩
  have : (((d - 2).toNat : Nat) : Int) + 2 = d := by omega
  rw [this, h]
  rfl

theorem hasDiv_not {p : Int} (h : ∀ d, 2 ≤ d → d < p → p % d ≠ 0) : hasDiv p = false := by
  unfold hasDiv
  rw [List.any_eq_false]
  intro i hi
  rw [List.mem_range] at hi
  have := h (i + 2) (by omega) (by omega)
  simpa using this

theorem div_small {p d : Int} (h2 : 2 ≤ d) (hp : d < p) (h : p % d = 0) : ∃ c, 2 ≤ c ∧ c * c ≤ p ∧ p % c = 0 := by
  have hm : d * (p / d) = p := by have := Int.mul_ediv_add_emod p d; omega
  have hq : 2 ≤ p / d := by
    by_cases h' : p / d < 2
    · have : p / d ≤ 1 := by omega
      have : d * (p / d) ≤ d * 1 := Int.mul_le_mul_of_nonneg_left this (by omega)
      omega
    · omega
  by_cases hdd : d * d ≤ p
  · exact ⟨d, h2, hdd, h⟩
  · refine ⟨p / d, hq, ?_, ?_⟩
    · have hle : p / d ≤ d := by
        by_cases h' : d < p / d
        · have : d * d ≤ d * (p / d) := Int.mul_le_mul_of_nonneg_left (by omega) (by omega)
          omega
        · omega
      calc p / d * (p / d) ≤ d * (p / d) := Int.mul_le_mul_of_nonneg_right hle (by omega)
        _ = p := hm
    · have : p = (p / d) * d := by rw [Int.mul_comm]; exact hm.symm
      rw [this]
      have hne : p / d ≠ 0 := by omega
      rw [Int.mul_ediv_cancel _ (by omega), Int.mul_emod_right]

theorem check_pure (p : Int) : Pure Tryz.prog 69 [I p] (I (ckP p)) := by
  intro H
  refine PureH.of_body Tryz.func69 rfl (by decide) (Nat.le_of_ble_eq_true rfl) fun w0 => ?_
  (repeat (first | refine RO.S ?_ | refine RO.Y ?_ | refine RO.no rfl (by decide) rfl ?_ | refine RO.nil ?_ | refine DW.region ?_ | refine DW.seq ?_ | refine DW.block ?_ | refine DW.skip ?_ | refine DW.exit ?_ | refine DW.condT rfl ?_ | refine DW.condF rfl ?_))
  refine RO.sta (sta_call rfl rfl (within_pure _ _ _ _)) rfl ?_
  (repeat (first | refine RO.S ?_ | refine RO.Y ?_ | refine RO.no rfl (by decide) rfl ?_ | refine RO.nil ?_ | refine DW.region ?_ | refine DW.seq ?_ | refine DW.block ?_ | refine DW.skip ?_ | refine DW.exit ?_ | refine DW.condT rfl ?_ | refine DW.condF rfl ?_))
  cases hb : (decide (2 ≤ p) && decide (p ≤ 101))
  · have hc : ckP p = 3 := by unfold ckP; rw [hb]; rfl
    rw [hc]
    (repeat (first | refine RO.S ?_ | refine RO.Y ?_ | refine RO.no rfl (by decide) rfl ?_ | refine RO.nil ?_ | refine DW.region ?_ | refine DW.seq ?_ | refine DW.block ?_ | refine DW.skip ?_ | refine DW.exit ?_ | refine DW.condT rfl ?_ | refine DW.condF rfl ?_))
    exact DW.ret ⟨.inl rfl, _, rfl, Over.refl _, .same _⟩
  · have h2 : 2 ≤ p ∧ p ≤ 101 := by simpa using hb
    (repeat (first | refine RO.S ?_ | refine RO.Y ?_ | refine RO.no rfl (by decide) rfl ?_ | refine RO.nil ?_ | refine DW.region ?_ | refine DW.seq ?_ | refine DW.block ?_ | refine DW.skip ?_ | refine DW.exit ?_ | refine DW.condT rfl ?_ | refine DW.condF rfl ?_))
    refine DW.loopI (fun d : Int => 2 ≤ d ∧ d ≤ 102 ∧ ∀ c, 2 ≤ c → c < d → p % c ≠ 0) (fun d => [(0, I p), (3, I d)]) (fun _ => H) (fun d => (102 - d).toNat) 2 ⟨by omega, by omega, fun c h1 h2 => by omega⟩ rfl ⟨rfl, rfl, trivial⟩ fun d ⟨hd, hd3, hd2⟩ => ?_
    have hdd : 0 ≤ d * d := Int.mul_nonneg (by omega) (by omega)
    have hdd2 : d * d ≤ 102 * 102 := Int.mul_le_mul hd3 hd3 (by omega) (by omega)
    have hdd3 : d ≤ d * d := by
      have : d * 1 ≤ d * d := Int.mul_le_mul_of_nonneg_left (by omega) (by omega)
      omega
    (repeat (first | refine RO.S ?_ | refine RO.Y ?_ | refine RO.no rfl (by decide) rfl ?_ | refine RO.nil ?_ | refine DW.region ?_ | refine DW.seq ?_ | refine DW.block ?_ | refine DW.skip ?_ | refine DW.exit ?_ | refine DW.condT rfl ?_ | refine DW.condF rfl ?_))
    refine DW.cond rfl (fun hb => ?_) (fun hb => ?_)
    · have hlt : d * d ≤ p := of_decide_eq_true hb
      have hdp : d < p := by
        have : d * 2 ≤ d * d := Int.mul_le_mul_of_nonneg_left (by omega) (by omega)
        omega
      (repeat (first | refine RO.S ?_ | refine RO.Y ?_ | refine RO.no rfl (by decide) rfl ?_ | refine RO.nil ?_ | refine DW.region ?_ | refine DW.seq ?_ | refine DW.block ?_ | refine DW.skip ?_ | refine DW.exit ?_ | refine DW.condT rfl ?_ | refine DW.condF rfl ?_))
      (repeat (first | refine RO.S ?_ | refine RO.Y ?_ | refine RO.no rfl (by decide) rfl ?_ | refine RO.nil ?_ | refine DW.region ?_ | refine DW.seq ?_ | refine DW.block ?_ | refine DW.skip ?_ | refine DW.exit ?_ | refine DW.condT rfl ?_ | refine DW.condF rfl ?_))
      refine DW.cond rfl (fun hb => ?_) (fun hb => ?_)
      · have hm : p % d = 0 := by simpa using hb
        have hc : ckP p = 4 := by unfold ckP; rw [if_pos (by simpa using h2), if_pos (hasDiv_of hd hdp hm)]
        rw [hc]
        (repeat (first | refine RO.S ?_ | refine RO.Y ?_ | refine RO.no rfl (by decide) rfl ?_ | refine RO.nil ?_ | refine DW.region ?_ | refine DW.seq ?_ | refine DW.block ?_ | refine DW.skip ?_ | refine DW.exit ?_ | refine DW.condT rfl ?_ | refine DW.condF rfl ?_))
        exact DW.ret ⟨.inl rfl, _, rfl, Over.refl _, .same _⟩
      · have hm : p % d ≠ 0 := by simpa using hb
        (repeat (first | refine RO.S ?_ | refine RO.Y ?_ | refine RO.no rfl (by decide) rfl ?_ | refine RO.nil ?_ | refine DW.region ?_ | refine DW.seq ?_ | refine DW.block ?_ | refine DW.skip ?_ | refine DW.exit ?_ | refine DW.condT rfl ?_ | refine DW.condF rfl ?_))
        refine ⟨d + 1, ⟨by omega, by omega, fun c h1 h2 => ?_⟩, by dsimp only; omega, rfl, rfl, rfl, trivial⟩
        by_cases h : c = d
        · rw [h]; exact hm
        · exact hd2 c h1 (by omega)
    · have hge : ¬ d * d ≤ p := of_decide_eq_false hb
      have hc : ckP p = 0 := by
        unfold ckP
        rw [if_pos (by simpa using h2)]
        have : hasDiv p = false := hasDiv_not fun c h1 h2 h3 => by
          obtain ⟨b, hb1, hb2, hb3⟩ := div_small h1 h2 h3
          have hbd : b < d := by
            by_cases h' : b < d
            · exact h'
            · have : d * d ≤ b * b := Int.mul_le_mul (by omega) (by omega) (by omega) (by omega)
              omega
          exact hd2 b hb1 hbd hb3
        rw [this]; rfl
      rw [hc]
      (repeat (first | refine RO.S ?_ | refine RO.Y ?_ | refine RO.no rfl (by decide) rfl ?_ | refine RO.nil ?_ | refine DW.region ?_ | refine DW.seq ?_ | refine DW.block ?_ | refine DW.skip ?_ | refine DW.exit ?_ | refine DW.condT rfl ?_ | refine DW.condF rfl ?_))
      exact DW.ret ⟨.inl rfl, _, rfl, Over.refl _, .same _⟩

theorem checkPrime_pure (p : Int) : Pure Tryz.prog 54 [I p] (I (ckP p)) := by
  intro H
  refine PureH.of_body Tryz.func54 rfl (by decide) (Nat.le_of_ble_eq_true rfl) fun w0 => ?_
  (repeat (first | refine RO.S ?_ | refine RO.Y ?_ | refine RO.no rfl (by decide) rfl ?_ | refine RO.nil ?_ | refine DW.region ?_ | refine DW.seq ?_ | refine DW.block ?_ | refine DW.skip ?_ | refine DW.exit ?_ | refine DW.condT rfl ?_ | refine DW.condF rfl ?_))
  refine RO.sta (sta_call rfl rfl (between_pure _ _ _ _)) rfl ?_
  (repeat (first | refine RO.S ?_ | refine RO.Y ?_ | refine RO.no rfl (by decide) rfl ?_ | refine RO.nil ?_ | refine DW.region ?_ | refine DW.seq ?_ | refine DW.block ?_ | refine DW.skip ?_ | refine DW.exit ?_ | refine DW.condT rfl ?_ | refine DW.condF rfl ?_))
  cases hb : (decide (2 ≤ p) && decide (p ≤ 101))
  · have hc : ckP p = 3 := by unfold ckP; rw [hb]; rfl
    rw [hc]
    (repeat (first | refine RO.S ?_ | refine RO.Y ?_ | refine RO.no rfl (by decide) rfl ?_ | refine RO.nil ?_ | refine DW.region ?_ | refine DW.seq ?_ | refine DW.block ?_ | refine DW.skip ?_ | refine DW.exit ?_ | refine DW.condT rfl ?_ | refine DW.condF rfl ?_))
    exact DW.ret ⟨.inl rfl, _, rfl, Over.refl _, .same _⟩
  · have h2 : 2 ≤ p ∧ p ≤ 101 := by simpa using hb
    (repeat (first | refine RO.S ?_ | refine RO.Y ?_ | refine RO.no rfl (by decide) rfl ?_ | refine RO.nil ?_ | refine DW.region ?_ | refine DW.seq ?_ | refine DW.block ?_ | refine DW.skip ?_ | refine DW.exit ?_ | refine DW.condT rfl ?_ | refine DW.condF rfl ?_))
    refine DW.loopI (fun d : Int => 2 ≤ d ∧ d ≤ p ∧ ∀ c, 2 ≤ c → c < d → p % c ≠ 0) (fun d => [(0, I p), (3, I d)]) (fun _ => H) (fun d => (p - d).toNat) 2 ⟨by omega, by omega, fun c h1 h2 => by omega⟩ rfl ⟨rfl, rfl, trivial⟩ fun d ⟨hd, hd3, hd2⟩ => ?_
    (repeat (first | refine RO.S ?_ | refine RO.Y ?_ | refine RO.no rfl (by decide) rfl ?_ | refine RO.nil ?_ | refine DW.region ?_ | refine DW.seq ?_ | refine DW.block ?_ | refine DW.skip ?_ | refine DW.exit ?_ | refine DW.condT rfl ?_ | refine DW.condF rfl ?_))
    refine DW.cond rfl (fun hb => ?_) (fun hb => ?_)
    · have hdp : d < p := of_decide_eq_true hb
      (repeat (first | refine RO.S ?_ | refine RO.Y ?_ | refine RO.no rfl (by decide) rfl ?_ | refine RO.nil ?_ | refine DW.region ?_ | refine DW.seq ?_ | refine DW.block ?_ | refine DW.skip ?_ | refine DW.exit ?_ | refine DW.condT rfl ?_ | refine DW.condF rfl ?_))
      (repeat (first | refine RO.S ?_ | refine RO.Y ?_ | refine RO.no rfl (by decide) rfl ?_ | refine RO.nil ?_ | refine DW.region ?_ | refine DW.seq ?_ | refine DW.block ?_ | refine DW.skip ?_ | refine DW.exit ?_ | refine DW.condT rfl ?_ | refine DW.condF rfl ?_))
      refine DW.cond rfl (fun hb => ?_) (fun hb => ?_)
      · have hm : p % d = 0 := by simpa using hb
        have hc : ckP p = 4 := by unfold ckP; rw [if_pos (by simpa using h2), if_pos (hasDiv_of hd hdp hm)]
        rw [hc]
        (repeat (first | refine RO.S ?_ | refine RO.Y ?_ | refine RO.no rfl (by decide) rfl ?_ | refine RO.nil ?_ | refine DW.region ?_ | refine DW.seq ?_ | refine DW.block ?_ | refine DW.skip ?_ | refine DW.exit ?_ | refine DW.condT rfl ?_ | refine DW.condF rfl ?_))
        exact DW.ret ⟨.inl rfl, _, rfl, Over.refl _, .same _⟩
      · have hm : p % d ≠ 0 := by simpa using hb
        (repeat (first | refine RO.S ?_ | refine RO.Y ?_ | refine RO.no rfl (by decide) rfl ?_ | refine RO.nil ?_ | refine DW.region ?_ | refine DW.seq ?_ | refine DW.block ?_ | refine DW.skip ?_ | refine DW.exit ?_ | refine DW.condT rfl ?_ | refine DW.condF rfl ?_))
        refine ⟨d + 1, ⟨by omega, by omega, fun c h1 h2 => ?_⟩, by dsimp only; omega, rfl, rfl, rfl, trivial⟩
        by_cases h : c = d
        · rw [h]; exact hm
        · exact hd2 c h1 (by omega)
    · have hge : ¬ d < p := of_decide_eq_false hb
      have hc : ckP p = 0 := by
        unfold ckP
        rw [if_pos (by simpa using h2)]
        have : hasDiv p = false := hasDiv_not fun c h1 h2 => hd2 c h1 (by omega)
        rw [this]; rfl
      rw [hc]
      (repeat (first | refine RO.S ?_ | refine RO.Y ?_ | refine RO.no rfl (by decide) rfl ?_ | refine RO.nil ?_ | refine DW.region ?_ | refine DW.seq ?_ | refine DW.block ?_ | refine DW.skip ?_ | refine DW.exit ?_ | refine DW.condT rfl ?_ | refine DW.condF rfl ?_))
      exact DW.ret ⟨.inl rfl, _, rfl, Over.refl _, .same _⟩

end Go.Proofs.YtcdihmhmoddppaaGreat

namespace Go.Proofs.YtcdihmhmoddppaaGreat
open Go.RowKit
set_option linter.unusedVariables false
set_option linter.unusedSimpArgs false

/-- The least number that times a is 1; 0: there is none. -/
def invOk (p a b : Int) : Bool := a * b % p == 1 % p

def invGo (p a : Int) : Nat → Int → Int
  | 0, _ => 0
  | n + 1, b => if invOk p a b then b else invGo p a n (b + 1)

def invT (p a : Int) : Int := invGo p a (p.toNat - 1) 1

theorem inverseOf_pure (p a : Int) (hp : 2 ≤ p) (hp2 : p ≤ 101) (ha : 0 ≤ a) (ha2 : a < p) : Pure Tryz.prog 58 [I p, I a] (I (invT p a)) := by
  intro H
  refine PureH.of_body Tryz.func58 rfl (by decide) (Nat.le_of_ble_eq_true rfl) fun w0 => ?_
  (repeat (first | refine RO.S ?_ | refine RO.Y ?_ | refine RO.no rfl (by decide) rfl ?_ | refine RO.nil ?_ | refine DW.region ?_ | refine DW.seq ?_ | refine DW.block ?_ | refine DW.skip ?_ | refine DW.exit ?_ | refine DW.condT rfl ?_ | refine DW.condF rfl ?_))
  refine DW.loopI (fun b : Int => 1 ≤ b ∧ b ≤ p ∧ invGo p a (p - b).toNat b = invT p a) (fun b => [(0, I p), (1, I a), (5, I b)]) (fun _ => H) (fun b => (p - b).toNat) 1 ⟨by omega, by omega, by unfold invT; congr 1; omega⟩ rfl ⟨rfl, rfl, rfl, trivial⟩ fun b ⟨hb1, hb2, hb3⟩ => ?_
  (repeat (first | refine RO.S ?_ | refine RO.Y ?_ | refine RO.no rfl (by decide) rfl ?_ | refine RO.nil ?_ | refine DW.region ?_ | refine DW.seq ?_ | refine DW.block ?_ | refine DW.skip ?_ | refine DW.exit ?_ | refine DW.condT rfl ?_ | refine DW.condF rfl ?_))
  refine DW.cond rfl (fun hb => ?_) (fun hb => ?_)
  · have hlt : b < p := of_decide_eq_true hb
    have hm : 0 ≤ a * b := Int.mul_nonneg ha (by omega)
    have hm2 : a * b ≤ 101 * 101 := Int.mul_le_mul (by omega) (by omega) (by omega) (by omega)
    have hn : (p - b).toNat = (p - (b + 1)).toNat + 1 := by omega
    rw [hn] at hb3
    (repeat (first | refine RO.S ?_ | refine RO.Y ?_ | refine RO.no rfl (by decide) rfl ?_ | refine RO.nil ?_ | refine DW.region ?_ | refine DW.seq ?_ | refine DW.block ?_ | refine DW.skip ?_ | refine DW.exit ?_ | refine DW.condT rfl ?_ | refine DW.condF rfl ?_))
    refine DW.drawS 8 Tryz.mixed (by kernel_rfl) (by decide) ?_
    dsimp only [List.take, List.drop]
    (repeat (first | refine RS.S ?_ | refine RS.Y ?_ | refine RS.no rfl (by decide) rfl ?_ | refine RS.nil ?_))
    (repeat (first | refine RO.S ?_ | refine RO.Y ?_ | refine RO.no rfl (by decide) rfl ?_ | refine RO.nil ?_ | refine DW.region ?_ | refine DW.seq ?_ | refine DW.block ?_ | refine DW.skip ?_ | refine DW.exit ?_ | refine DW.condT rfl ?_ | refine DW.condF rfl ?_))
    refine DW.cond rfl (fun hb => ?_) (fun hb => ?_)
    · (repeat (first | refine RO.S ?_ | refine RO.Y ?_ | refine RO.no rfl (by decide) rfl ?_ | refine RO.nil ?_ | refine DW.region ?_ | refine DW.seq ?_ | refine DW.block ?_ | refine DW.skip ?_ | refine DW.exit ?_ | refine DW.condT rfl ?_ | refine DW.condF rfl ?_))
      have : invT p a = b := by rw [← hb3]; simp only [invGo]; rw [if_pos (show invOk p a b = true from hb)]
      rw [this]
      exact DW.ret ⟨.inl rfl, _, rfl, Over.refl _, .same _⟩
    · (repeat (first | refine RO.S ?_ | refine RO.Y ?_ | refine RO.no rfl (by decide) rfl ?_ | refine RO.nil ?_ | refine DW.region ?_ | refine DW.seq ?_ | refine DW.block ?_ | refine DW.skip ?_ | refine DW.exit ?_ | refine DW.condT rfl ?_ | refine DW.condF rfl ?_))
      refine ⟨b + 1, ⟨by omega, by omega, ?_⟩, by dsimp only; omega, rfl, rfl, rfl, rfl, trivial⟩
      rw [← hb3]
      simp only [invGo]
      rw [if_neg (by rw [show invOk p a b = false from hb]; simp)]
  · have hge : ¬ b < p := of_decide_eq_false hb
    have hn : (p - b).toNat = 0 := by omega
    rw [hn] at hb3
    (repeat (first | refine RO.S ?_ | refine RO.Y ?_ | refine RO.no rfl (by decide) rfl ?_ | refine RO.nil ?_ | refine DW.region ?_ | refine DW.seq ?_ | refine DW.block ?_ | refine DW.skip ?_ | refine DW.exit ?_ | refine DW.condT rfl ?_ | refine DW.condF rfl ?_))
    rw [← hb3]
    exact DW.ret ⟨.inl rfl, _, rfl, Over.refl _, .same _⟩

/-- A power, by squares. -/
def turnGo (p : Int) : Nat → Int → Int → Int → Int
  | 0, _, _, out => out
  | f + 1, n, a, out => if n ≤ 0 then out else turnGo p f (n / 2) (a * a % p) (if n % 2 = 1 then out * a % p else out)

def turnP (p a : Int) : Int := turnGo p 7 (p - 2) a 1

theorem turn_pure (p a : Int) (hp : 2 ≤ p) (hp2 : p ≤ 101) (ha : 0 ≤ a) (ha2 : a < p) : Pure Tryz.prog 83 [I p, I a] (I (turnP p a)) := by
  intro H
  refine PureH.of_body Tryz.func83 rfl (by decide) (Nat.le_of_ble_eq_true rfl) fun w0 => ?_
  (repeat (first | refine RO.S ?_ | refine RO.Y ?_ | refine RO.no rfl (by decide) rfl ?_ | refine RO.nil ?_ | refine DW.region ?_ | refine DW.seq ?_ | refine DW.block ?_ | refine DW.skip ?_ | refine DW.exit ?_ | refine DW.condT rfl ?_ | refine DW.condF rfl ?_))
  refine DW.loopI (fun x : Nat × Int × Int × Int => (0 ≤ x.2.1 ∧ x.2.1 < 2 ^ x.1 ∧ x.2.1 ≤ 101) ∧ (0 ≤ x.2.2.1 ∧ x.2.2.1 < p) ∧ (0 ≤ x.2.2.2 ∧ x.2.2.2 < p) ∧ turnGo p x.1 x.2.1 x.2.2.1 x.2.2.2 = turnP p a) (fun x => [(0, I p), (1, I x.2.2.1), (5, I x.2.2.2), (6, I x.2.1)]) (fun _ => H) (fun x => x.1) (7, p - 2, a, 1)
    ⟨⟨by dsimp only; omega, by dsimp only; omega, by dsimp only; omega⟩, ⟨ha, ha2⟩, ⟨by dsimp only; omega, by dsimp only; omega⟩, rfl⟩ rfl ⟨rfl, rfl, rfl, rfl, trivial⟩ fun ⟨f, n, b, out⟩ ⟨⟨hn0, hn1, hn2⟩, ⟨hb0, hb1⟩, ⟨ho0, ho1⟩, hg⟩ => ?_
  dsimp only at hn0 hn1 hn2 hb0 hb1 ho0 ho1 hg
  dsimp only
  (repeat (first | refine RO.S ?_ | refine RO.Y ?_ | refine RO.no rfl (by decide) rfl ?_ | refine RO.nil ?_ | refine DW.region ?_ | refine DW.seq ?_ | refine DW.block ?_ | refine DW.skip ?_ | refine DW.exit ?_ | refine DW.condT rfl ?_ | refine DW.condF rfl ?_))
  refine DW.cond rfl (fun hb => ?_) (fun hb => ?_)
  · have hpos : 0 < n := of_decide_eq_true hb
    obtain ⟨f, rfl⟩ : ∃ g, f = g + 1 := by
      cases f with
      | zero => simp at hn1; omega
      | succ g => exact ⟨g, rfl⟩
    have hpw : (2 : Int) ^ (f + 1) = 2 ^ f * 2 := Int.pow_succ ..
    have hbb : 0 ≤ b * b := Int.mul_nonneg hb0 hb0
    have hbb2 : b * b ≤ 101 * 101 := Int.mul_le_mul (by omega) (by omega) (by omega) (by omega)
    have hob : 0 ≤ out * b := Int.mul_nonneg ho0 hb0
    have hob2 : out * b ≤ 101 * 101 := Int.mul_le_mul (by omega) (by omega) (by omega) (by omega)
    have hm1 := Int.emod_nonneg (b * b) (show p ≠ 0 by omega)
    have hm2 := Int.emod_lt_of_pos (b * b) (show 0 < p by omega)
    have hm3 := Int.emod_nonneg (out * b) (show p ≠ 0 by omega)
    have hm4 := Int.emod_lt_of_pos (out * b) (show 0 < p by omega)
    simp only [turnGo] at hg
    rw [if_neg (by omega)] at hg
    (repeat (first | refine RO.S ?_ | refine RO.Y ?_ | refine RO.no rfl (by decide) rfl ?_ | refine RO.nil ?_ | refine DW.region ?_ | refine DW.seq ?_ | refine DW.block ?_ | refine DW.skip ?_ | refine DW.exit ?_ | refine DW.condT rfl ?_ | refine DW.condF rfl ?_))
    refine RO.sta (s_and1 rfl rfl (by omega) (by omega)) rfl ?_
    (repeat (first | refine RO.S ?_ | refine RO.Y ?_ | refine RO.no rfl (by decide) rfl ?_ | refine RO.nil ?_ | refine DW.region ?_ | refine DW.seq ?_ | refine DW.block ?_ | refine DW.skip ?_ | refine DW.exit ?_ | refine DW.condT rfl ?_ | refine DW.condF rfl ?_))
    refine DW.cond rfl (fun hb => ?_) (fun hb => ?_)
    · have h1 : n % 2 = 1 := by simpa using hb
      rw [if_pos h1] at hg
      (repeat (first | refine RO.S ?_ | refine RO.Y ?_ | refine RO.no rfl (by decide) rfl ?_ | refine RO.nil ?_ | refine DW.region ?_ | refine DW.seq ?_ | refine DW.block ?_ | refine DW.skip ?_ | refine DW.exit ?_ | refine DW.condT rfl ?_ | refine DW.condF rfl ?_))
      refine RO.sta (s_shr1 rfl rfl (by omega)) rfl ?_
      (repeat (first | refine RO.S ?_ | refine RO.Y ?_ | refine RO.no rfl (by decide) rfl ?_ | refine RO.nil ?_ | refine DW.region ?_ | refine DW.seq ?_ | refine DW.block ?_ | refine DW.skip ?_ | refine DW.exit ?_ | refine DW.condT rfl ?_ | refine DW.condF rfl ?_))
      exact ⟨(f, n / 2, b * b % p, out * b % p), ⟨⟨by dsimp only; omega, by dsimp only; omega, by dsimp only; omega⟩, ⟨hm1, hm2⟩, ⟨hm3, hm4⟩, hg⟩, Nat.lt_succ_self _, rfl, rfl, rfl, rfl, rfl, trivial⟩
    · have h1 : ¬ n % 2 = 1 := by simpa using hb
      rw [if_neg h1] at hg
      (repeat (first | refine RO.S ?_ | refine RO.Y ?_ | refine RO.no rfl (by decide) rfl ?_ | refine RO.nil ?_ | refine DW.region ?_ | refine DW.seq ?_ | refine DW.block ?_ | refine DW.skip ?_ | refine DW.exit ?_ | refine DW.condT rfl ?_ | refine DW.condF rfl ?_))
      refine RO.sta (s_shr1 rfl rfl (by omega)) rfl ?_
      (repeat (first | refine RO.S ?_ | refine RO.Y ?_ | refine RO.no rfl (by decide) rfl ?_ | refine RO.nil ?_ | refine DW.region ?_ | refine DW.seq ?_ | refine DW.block ?_ | refine DW.skip ?_ | refine DW.exit ?_ | refine DW.condT rfl ?_ | refine DW.condF rfl ?_))
      exact ⟨(f, n / 2, b * b % p, out), ⟨⟨by dsimp only; omega, by dsimp only; omega, by dsimp only; omega⟩, ⟨hm1, hm2⟩, ⟨ho0, ho1⟩, hg⟩, Nat.lt_succ_self _, rfl, rfl, rfl, rfl, rfl, trivial⟩
  · have hneg : ¬ 0 < n := of_decide_eq_false hb
    have : turnP p a = out := by
      rw [← hg]
      cases f with
      | zero => rfl
      | succ f => simp only [turnGo]; rw [if_pos (by omega)]
    rw [this]
    (repeat (first | refine RO.S ?_ | refine RO.Y ?_ | refine RO.no rfl (by decide) rfl ?_ | refine RO.nil ?_ | refine DW.region ?_ | refine DW.seq ?_ | refine DW.block ?_ | refine DW.skip ?_ | refine DW.exit ?_ | refine DW.condT rfl ?_ | refine DW.condF rfl ?_))
    exact DW.ret ⟨.inl rfl, _, rfl, Over.refl _, .same _⟩

end Go.Proofs.YtcdihmhmoddppaaGreat

namespace Go.Proofs.YtcdihmhmoddppaaGreat
open Go.RowKit
set_option linter.unusedVariables false
set_option linter.unusedSimpArgs false

theorem ckP_ok {p : Int} (h : ckP p = 0) : 2 ≤ p ∧ p ≤ 101 := by
  unfold ckP at h
  by_cases hb : (decide (2 ≤ p) && decide (p ≤ 101)) = true
  · simpa using hb
  · rw [if_neg hb] at h; cases h

/-- What 'with' does. -/
def withR (p a b : Int) (r : Int × Int) : Int × Int := if ckP p = 0 then (if inP p a && inP p b then r else (0, 3)) else (0, ckP p)

def pairD (r : Int × Int) : D := .tup [I r.1, I r.2]

theorem inP_iff {p a : Int} : inP p a = true ↔ 0 ≤ a ∧ a < p := by
  unfold inP
  simp
  omega

/-- The inverse, and what is wrong. -/
def invR (p a : Int) : Int × Int := if a = 0 then (0, 5) else (turnP p a, 0)

end Go.Proofs.YtcdihmhmoddppaaGreat
