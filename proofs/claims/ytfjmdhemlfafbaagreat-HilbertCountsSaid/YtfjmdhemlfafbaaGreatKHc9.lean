/-
  Monomials: the plain law: what their calls answer, and the order. No condition.
-/
import Derived.Shelf.SlSortCmp.WholeK
import Derived.Test.YtfjmdhemlfafbaaGreatProg
import Derived.Test.YtfjmdhemlfafbaaGreatKHc7
set_option linter.unusedVariables false
set_option linter.unusedSimpArgs false

namespace Go.Proofs
open Go.Shelf
def Tryz.laysSort_ren : Go.Shelf.Ren := ⟨fun | 6 => 75 | 15 => 94 | 14 => 93 | 28 => 112 | 29 => 113 | 20 => 104 | 21 => 105 | 22 => 106 | 23 => 107 | 24 => 108 | 25 => 109 | 26 => 110 | 27 => 111 | 46 => 117 | 47 => 118 | 48 => 119 | 49 => 120 | 50 => 121 | 57 => 123 | n => n, fun | 22 => 63 | 24 => 68 | 25 => 106 | 3 => 3 | 39 => 119 | 0 => 0 | 53 => 137 | 55 => 139 | 4 => 4 | 46 => 130 | 45 => 129 | 50 => 134 | 5 => 5 | 9 => 9 | 66 => 141 | 70 => 145 | 76 => 147 | 77 => 148 | n => n, fun | n => n⟩
theorem Tryz.laysSort : Go.Proofs.SlLaysF0.n6 Tryz.prog Tryz.laysSort_ren := {
 mixed := by kernel_rfl
 f6 := ⟨Tryz.f75.name, by decide, Tryz.func75.trans (congrArg some (by kernel_rfl))⟩
 f14 := ⟨Tryz.f93.name, by decide, Tryz.func93.trans (congrArg some (by kernel_rfl))⟩
 f15 := Tryz.func94.trans (congrArg some (by kernel_rfl))
 f20 := ⟨Tryz.f104.name, by decide, Tryz.func104.trans (congrArg some (by kernel_rfl))⟩
 f21 := ⟨Tryz.f105.name, by decide, Tryz.func105.trans (congrArg some (by kernel_rfl))⟩
 f22 := ⟨Tryz.f106.name, by decide, Tryz.func106.trans (congrArg some (by kernel_rfl))⟩
 f23 := ⟨Tryz.f107.name, by decide, Tryz.func107.trans (congrArg some (by kernel_rfl))⟩
 f24 := ⟨Tryz.f108.name, by decide, Tryz.func108.trans (congrArg some (by kernel_rfl))⟩
 f25 := ⟨Tryz.f109.name, by decide, Tryz.func109.trans (congrArg some (by kernel_rfl))⟩
 f26 := ⟨Tryz.f110.name, by decide, Tryz.func110.trans (congrArg some (by kernel_rfl))⟩
 f27 := ⟨Tryz.f111.name, by decide, Tryz.func111.trans (congrArg some (by kernel_rfl))⟩
 f28 := Tryz.func112.trans (congrArg some (by kernel_rfl))
 f29 := Tryz.func113.trans (congrArg some (by kernel_rfl))
 f46 := ⟨Tryz.f117.name, by decide, Tryz.func117.trans (congrArg some (by kernel_rfl))⟩
 f47 := Tryz.func118.trans (congrArg some (by kernel_rfl))
 f48 := Tryz.func119.trans (congrArg some (by kernel_rfl))
 f49 := ⟨Tryz.f120.name, by decide, Tryz.func120.trans (congrArg some (by kernel_rfl))⟩
 f50 := ⟨Tryz.f121.name, by decide, Tryz.func121.trans (congrArg some (by kernel_rfl))⟩
 f57 := ⟨Tryz.f123.name, by decide, Tryz.func123.trans (congrArg some (by kernel_rfl))⟩
 t0 := Tryz.underlying0
 a0 := Tryz.isAgg0
 z0 := Tryz.sizeOf0
 v0 := Tryz.zeroValue0
 t3 := Tryz.underlying3
 a3 := Tryz.isAgg3
 z3 := Tryz.sizeOf3
 v3 := Tryz.zeroValue3
 t4 := Tryz.underlying4
 a4 := Tryz.isAgg4
 z4 := Tryz.sizeOf4
 v4 := Tryz.zeroValue4
 t5 := Tryz.underlying5
 a5 := Tryz.isAgg5
 z5 := Tryz.sizeOf5
 v5 := Tryz.zeroValue5
 t9 := Tryz.underlying9
 a9 := Tryz.isAgg9
 z9 := Tryz.sizeOf9
 v9 := Tryz.zeroValue9
 t22 := Tryz.underlying63
 a22 := Tryz.isAgg63
 z22 := Tryz.sizeOf63
 v22 := Tryz.zeroValue63
 t25 := Tryz.underlying106
 a25 := Tryz.isAgg106
 z25 := Tryz.sizeOf106
 v25 := Tryz.zeroValue106
 t39 := Tryz.underlying119
 a39 := Tryz.isAgg119
 z39 := Tryz.sizeOf119
 v39 := Tryz.zeroValue119
 t45 := Tryz.underlying129
 a45 := Tryz.isAgg129
 z45 := Tryz.sizeOf129
 v45 := Tryz.zeroValue129
 t46 := Tryz.underlying130
 a46 := Tryz.isAgg130
 z46 := Tryz.sizeOf130
 v46 := Tryz.zeroValue130
 t50 := Tryz.underlying134
 a50 := Tryz.isAgg134
 z50 := Tryz.sizeOf134
 v50 := Tryz.zeroValue134
 t53 := Tryz.underlying137
 a53 := Tryz.isAgg137
 z53 := Tryz.sizeOf137
 v53 := Tryz.zeroValue137
 t55 := Tryz.underlying139
 a55 := Tryz.isAgg139
 z55 := Tryz.sizeOf139
 v55 := Tryz.zeroValue139
 t66 := Tryz.underlying141
 a66 := Tryz.isAgg141
 z66 := Tryz.sizeOf141
 v66 := Tryz.zeroValue141
 t70 := Tryz.underlying145
 a70 := Tryz.isAgg145
 z70 := Tryz.sizeOf145
 v70 := Tryz.zeroValue145
 t76 := Tryz.underlying147
 a76 := Tryz.isAgg147
 z76 := Tryz.sizeOf147
 v76 := Tryz.zeroValue147
 t77 := Tryz.underlying148
 a77 := Tryz.isAgg148
 z77 := Tryz.sizeOf148
 v77 := Tryz.zeroValue148 }
end Go.Proofs

namespace Go.Proofs.YtfjmdhemlfafbaaGreat
section
open Go.RowKit Go.ChangeShapes Go.WideShapes Go.ChangeAt

theorem Tryz.ownK : ownKnob Tryz.prog.godebug = none := by kernel_rfl
theorem Tryz.laidOutK : laidOutB Tryz.prog = true := by kernel_rfl

theorem arg_cell {α : Type} {P : Program} {t : TypeId} {f : α → D} {Q : α → Prop} (ho : Opens P t 1 f Q) (hf : ∀ a, cellsOf (f a) = [f a]) {H : Type} {enc : TypeId × Value → H} {W : World} {v : Value} {d : DataW H} {p : List MemPlace} (hv : v.cells = #[v])
  (h : DataW.Trod enc P W 0 (fun _ => true) true t v d p) (hw : (d.weights P t).all (· ≤ reachBytes) = true) : ∃ a, Rep W noHeap v (f a) ∧ Q a := by
 obtain ⟨fuel, hf'⟩ := h
 obtain ⟨a, _, hr, hq⟩ := ho H enc W fuel _ d p hf' hw
 rw [hv, hf] at hr
 obtain ⟨u, hu, hrep⟩ := hr.2 0 (f a) rfl
 simp at hu
 subst hu
 exact ⟨a, hrep, hq⟩

theorem arg_agg {α : Type} {P : Program} {t : TypeId} {k : Nat} {f : α → D} {Q : α → Prop} (ho : Opens P t k f Q) (hf : ∀ a, f a = .agg (cellsOf (f a))) {H : Type} {enc : TypeId × Value → H} {W : World} {cs : Array Value} {d : DataW H} {p : List MemPlace}
  (h : DataW.Trod enc P W 0 (fun _ => true) true t (.agg cs) d p) (hw : (d.weights P t).all (· ≤ reachBytes) = true) : ∃ a, Rep W noHeap (.agg cs) (f a) ∧ Q a := by
 obtain ⟨fuel, hf'⟩ := h
 obtain ⟨a, _, hr, hq⟩ := ho H enc W fuel _ d p hf' hw
 refine ⟨a, ?_, hq⟩
 rw [hf a]
 have : (Value.agg cs).cells.toList.toArray = cs := by simp [Value.cells]
 rw [this] at hr
 exact hr.agg

theorem slice_cells (a : Option Addr) (n c : Nat) : (Value.slice a n c).cells = #[.slice a n c] := rfl
theorem int_cells (k : IntKind) (n : Int) : (Value.int k n).cells = #[.int k n] := rfl

inductive ArgsAre (W : World) : List Value → List D → Prop
 | nil : ArgsAre W [] []
 | cons {v : Value} {d : D} {vs : List Value} {ds : List D} (h : Rep W noHeap v d) (r : ArgsAre W vs ds) : ArgsAre W (v :: vs) (d :: ds)

theorem ArgsAre.reps {W : World} : ∀ {vs : List Value} {ds : List D}, ArgsAre W vs ds → RepsA W noHeap vs.toArray ds
 | _, _, .nil => ⟨rfl, fun j x h => by simp at h⟩
 | _, _, .cons h r => by
  have ih := r.reps
  refine ⟨by simpa using ih.1, fun j x hx => ?_⟩
  cases j with
  | zero => simp at hx; subst hx; exact ⟨_, by simp, h⟩
  | succ j =>
   obtain ⟨u, hu, hr⟩ := ih.2 j x (by simpa using hx)
   exact ⟨u, by simpa using hu, hr⟩

theorem weights_head {H : Type} {P : Program} {t : TypeId} {ts : List TypeId} {d : DataW H} {ds : List (DataW H)} (h : (DataW.weightsEach P (t :: ts) (d :: ds)).all (· ≤ reachBytes) = true) : (d.weights P t).all (· ≤ reachBytes) = true ∧ (DataW.weightsEach P ts ds).all (· ≤ reachBytes) = true := by
 simpa only [DataW.weightsEach, List.all_append, Bool.and_eq_true] using h

theorem Tryz.opensInt : Opens Tryz.prog 3 1 I fitsInt := opens_int Tryz.underlying3
theorem Tryz.opensInts : Opens Tryz.prog 24 1 intsD (fun l => (∀ a ∈ l, fitsInt a) ∧ l.length * Tryz.prog.bytesOf 3 ≤ reachBytes) := opens_slice Tryz.underlying24 (by kernel_rfl) (by decide) (fun _ => rfl) (opens_int Tryz.underlying3)
theorem Tryz.opensRows : Opens Tryz.prog 32 1 intssD (fun l => (∀ a ∈ l, (∀ x ∈ a, fitsInt x) ∧ a.length * Tryz.prog.bytesOf 3 ≤ reachBytes) ∧ l.length * Tryz.prog.bytesOf 24 ≤ reachBytes) := opens_slice Tryz.underlying32 (by kernel_rfl) (by decide) (fun _ => rfl) Tryz.opensInts
theorem Tryz.opensRing : Opens Tryz.prog 23 4 rgD (fun r => fitsInt r.p ∧ fitsInt r.n ∧ fitsInt r.order ∧ fitsInt r.over) := opens_ring Tryz.underlying23 (by kernel_rfl) Tryz.underlying3 (by kernel_rfl) ⟨rfl, rfl⟩ ⟨rfl, rfl⟩ ⟨rfl, rfl⟩ ⟨rfl, rfl⟩

theorem len_le {n b : Nat} (h : n * b ≤ reachBytes) (hb : 8 ≤ b) : n ≤ 17592186044416 := by
 have h1 : n * 8 ≤ n * b := Nat.mul_le_mul_left _ hb
 unfold reachBytes at h
 omega

theorem Tryz.bytes_int : 8 ≤ Tryz.prog.bytesOf 3 := of_decide_eq_true (by kernel_rfl)
theorem Tryz.bytes_ints : 8 ≤ Tryz.prog.bytesOf 24 := of_decide_eq_true (by kernel_rfl)

theorem inv_plain (w : World) (H : Heap) : TabsOk w H := fun g cs h => by cases h

theorem law_calls {P : Program} {f : FuncId} {ds : List D} (hp : Pure P f ds (.bool true)) {W : World} (hi : TabsOk W noHeap) {args : Array Value} (ha : ArgsAre W args.toList ds) : Calls P f args W fun e W' => e = .returned (.bool true) ∧ Below W.heap.size W W' := by
 have hr := ha.reps
 rw [Array.toArray_toList] at hr
 refine ((hp noHeap).calls W args (hok_none W hi) hr).mono fun e W' ⟨v, he, hv, _, hx⟩ => ⟨?_, ext_below hx⟩
 rw [he, rep_bool hv]
end
section
open Go.RowKit Go.ChangeShapes Go.WideShapes Go.ChangeAt

theorem opens_two {α β γ : Type} {P : Program} {t t0 t1 : TypeId} {f0 f1 : Field} {f : γ → D} {g0 : α → D} {g1 : β → D} {Q0 : α → Prop} {Q1 : β → Prop} (mk : α → β → γ) (hu : P.underlying t = some (.struct #[f0, f1])) (hc : P.cellsOf t = 2)
  (hc0 : P.cellsOf t0 = 1) (hc1 : P.cellsOf t1 = 1) (h0 : f0.type = t0 ∧ f0.offset = 0) (h1 : f1.type = t1 ∧ f1.offset = 1) (hf : ∀ a b, cellsOf (f (mk a b)) = [g0 a, g1 b]) (hg0 : ∀ a, cellsOf (g0 a) = [g0 a]) (hg1 : ∀ a, cellsOf (g1 a) = [g1 a])
  (ho0 : Opens P t0 1 g0 Q0) (ho1 : Opens P t1 1 g1 Q1) : Opens P t 2 f (fun c => ∃ a b, c = mk a b ∧ Q0 a ∧ Q1 b) := by
 intro H enc W fuel cs d ps h hw
 cases fuel with
 | zero => simp [DataW.trod] at h
 | succ fuel =>
  unfold DataW.trod at h
  rw [hu] at h
  split at h <;> try (simp at *; done)
  rename_i cs _ _ fs h1'
  cases h1'
  split at h
  ·rename_i hlen
   rw [hc] at hlen
   match cs, hlen with
   | [c0, c1], _ =>
    simp only [List.mapM_cons, List.mapM_nil, h0.1, h0.2, h1.1, h1.2, hc0, hc1, List.drop, List.take] at h
    cases e0 : DataW.trod enc P W 0 (fun _ => true) true fuel t0 [c0] with
    | none => simp [e0] at h
    | some y0 =>
     cases e1 : DataW.trod enc P W 0 (fun _ => true) true fuel t1 [c1] with
     | none => simp [e0, e1] at h
     | some y1 =>
      simp [e0, e1] at h
      obtain ⟨rfl, _⟩ := h
      obtain ⟨d0, p0⟩ := y0
      obtain ⟨d1, p1⟩ := y1
      simp only [DataW.weights, hu, List.map_cons, List.map_nil, DataW.weightsEach, h0.1, h1.1, List.append_nil, List.all_append, Bool.and_eq_true] at hw
      obtain ⟨a, ha1, ha2, ha3⟩ := ho0 H enc W fuel [c0] d0 p0 e0 hw.1
      obtain ⟨b, hb1, hb2, hb3⟩ := ho1 H enc W fuel [c1] d1 p1 e1 hw.2
      rw [hg0] at ha2
      rw [hg1] at hb2
      refine ⟨mk a b, by rw [hf]; rfl, ?_, a, b, rfl, ha3, hb3⟩
      rw [hf]
      refine ⟨rfl, fun j x hx => ?_⟩
      match j, hx with
      | 0, hx =>
       cases hx
       obtain ⟨v, hv, hr⟩ := ha2.2 0 (g0 a) rfl
       simp at hv
       subst hv
       exact ⟨_, rfl, hr⟩
      | 1, hx =>
       cases hx
       obtain ⟨v, hv, hr⟩ := hb2.2 0 (g1 b) rfl
       simp at hv
       subst hv
       exact ⟨_, rfl, hr⟩
      | j + 2, hx => simp at hx
  ·cases h

def TmIn (P : Program) (ti : TypeId) (t : Tm) : Prop := ∃ a b, t = ⟨a, b⟩ ∧ fitsInt a ∧ ((∀ x ∈ b, fitsInt x) ∧ b.length * P.bytesOf ti ≤ reachBytes)

theorem Tryz.opensTerm : Opens Tryz.prog 55 2 tmD (TmIn Tryz.prog 3) := opens_two (fun c e => (⟨c, e⟩ : Tm)) Tryz.underlying55 (by kernel_rfl) (by kernel_rfl) (by kernel_rfl) ⟨rfl, rfl⟩ ⟨rfl, rfl⟩ (fun _ _ => rfl) (fun _ => rfl) (fun _ => rfl) Tryz.opensInt Tryz.opensInts

theorem Tryz.opensPoly : Opens Tryz.prog 57 1 plD (fun l => (∀ a ∈ l, TmIn Tryz.prog 3 a) ∧ l.length * Tryz.prog.bytesOf 55 ≤ reachBytes) := opens_slice Tryz.underlying57 (by kernel_rfl) (by decide) (fun _ => rfl) Tryz.opensTerm

theorem Tryz.opensVec : Opens Tryz.prog 50 1 vcD (fun l => (∀ f ∈ l, (∀ a ∈ f, TmIn Tryz.prog 3 a) ∧ f.length * Tryz.prog.bytesOf 55 ≤ reachBytes) ∧ l.length * Tryz.prog.bytesOf 57 ≤ reachBytes) := opens_slice Tryz.underlying50 (by kernel_rfl) (by decide) (fun _ => rfl) Tryz.opensPoly

theorem Tryz.opensVecs : Opens Tryz.prog 25 1 vcsD (fun l => (∀ v ∈ l, (∀ f ∈ v, (∀ a ∈ f, TmIn Tryz.prog 3 a) ∧ f.length * Tryz.prog.bytesOf 55 ≤ reachBytes) ∧ v.length * Tryz.prog.bytesOf 57 ≤ reachBytes) ∧ l.length * Tryz.prog.bytesOf 50 ≤ reachBytes) := opens_slice Tryz.underlying25 (by kernel_rfl) (by decide) (fun _ => rfl) Tryz.opensVec

theorem Tryz.bytes_term : 8 ≤ Tryz.prog.bytesOf 55 := of_decide_eq_true (by kernel_rfl)
theorem Tryz.bytes_poly : 8 ≤ Tryz.prog.bytesOf 57 := of_decide_eq_true (by kernel_rfl)
theorem Tryz.bytes_vec : 8 ≤ Tryz.prog.bytesOf 50 := of_decide_eq_true (by kernel_rfl)
end
section
open Go.RowKit

theorem plLe {f : Pl} (b : (∀ a ∈ f, TmIn Tryz.prog 3 a) ∧ f.length * Tryz.prog.bytesOf 55 ≤ reachBytes) : f.length ≤ 4611686018427387904 := by have := len_le b.2 Tryz.bytes_term; omega

theorem vcLe {v : Vc} (b : (∀ f ∈ v, (∀ a ∈ f, TmIn Tryz.prog 3 a) ∧ f.length * Tryz.prog.bytesOf 55 ≤ reachBytes) ∧ v.length * Tryz.prog.bytesOf 57 ≤ reachBytes) :
  v.length ≤ 4611686018427387904 ∧ ∀ f ∈ v, f.length ≤ 4611686018427387904 := ⟨by have := len_le b.2 Tryz.bytes_poly; omega, fun f hf => plLe (b.1 f hf)⟩

theorem vcsLe {l : List Vc} (b : (∀ v ∈ l, (∀ f ∈ v, (∀ a ∈ f, TmIn Tryz.prog 3 a) ∧ f.length * Tryz.prog.bytesOf 55 ≤ reachBytes) ∧ v.length * Tryz.prog.bytesOf 57 ≤ reachBytes) ∧ l.length * Tryz.prog.bytesOf 50 ≤ reachBytes) :
  l.length ≤ 4611686018427387904 ∧ ∀ v ∈ l, v.length ≤ 4611686018427387904 ∧ ∀ f ∈ v, f.length ≤ 4611686018427387904 := ⟨by have := len_le b.2 Tryz.bytes_vec; omega, fun v hv => vcLe (b.1 v hv)⟩
end
section
open Go.RowKit

theorem within_pure (n lo hi : Int) : Pure Tryz.prog 97 [I n, I lo, I hi] (.bool (decide (lo ≤ n) && decide (n ≤ hi))) := by
 intro H
 refine PureH.of_body Tryz.func97 rfl (by decide) (Nat.le_of_ble_eq_true rfl) fun w0 => ?_
 (repeat(first|refine zC ?_|refine zD ?_|refine zE rfl (by decide) rfl ?_|refine zF ?_|refine zG ?_|refine zH ?_|refine zI ?_|refine zJ ?_|refine zK ?_|refine zL rfl ?_|refine zM rfl ?_))
 generalize decide (lo ≤ n) = b
 cases b <;> ((repeat(first|refine zC ?_|refine zD ?_|refine zE rfl (by decide) rfl ?_|refine zF ?_|refine zG ?_|refine zH ?_|refine zI ?_|refine zJ ?_|refine zK ?_|refine zL rfl ?_|refine zM rfl ?_))) <;> exact DW.ret ⟨.inl rfl, _, rfl, Over.refl _, .same _⟩

theorem between_pure (n lo hi : Int) : Pure Tryz.prog 19 [I n, I lo, I hi] (.bool (decide (lo ≤ n) && decide (n ≤ hi))) := by
 intro H
 refine PureH.of_body Tryz.func19 rfl (by decide) (Nat.le_of_ble_eq_true rfl) fun w0 => ?_
 (repeat(first|refine zC ?_|refine zD ?_|refine zE rfl (by decide) rfl ?_|refine zF ?_|refine zG ?_|refine zH ?_|refine zI ?_|refine zJ ?_|refine zK ?_|refine zL rfl ?_|refine zM rfl ?_))
 generalize decide (lo ≤ n) = b
 cases b <;> ((repeat(first|refine zC ?_|refine zD ?_|refine zE rfl (by decide) rfl ?_|refine zF ?_|refine zG ?_|refine zH ?_|refine zI ?_|refine zJ ?_|refine zK ?_|refine zL rfl ?_|refine zM rfl ?_))) <;> exact DW.ret ⟨.inl rfl, _, rfl, Over.refl _, .same _⟩

def idxD {α : Type} (g : α → Bool) (l : List α) : Int :=
 match l.findIdx? g with
 | some i => i
 | none => -1

theorem idxD_at {α : Type} {g : α → Bool} {l : List α} {k : Nat} (hk : k < l.length) (h1 : ∀ (j : Nat) (hj : j < l.length), j < k → g l[j] = false) (h2 : g l[k] = true) : idxD g l = k := by
 have : l.findIdx? g = some k := by
  rw [List.findIdx?_eq_some_iff_getElem]
  exact ⟨hk, h2, fun j hj => by rw [h1 j (by omega) hj]; simp⟩
 simp [idxD, this]

theorem idxD_none {α : Type} {g : α → Bool} {l : List α} (h : ∀ (j : Nat) (hj : j < l.length), g l[j] = false) : idxD g l = -1 := by
 have : l.findIdx? g = none := by
  rw [List.findIdx?_eq_none_iff]
  intro x hx
  obtain ⟨j, hj, rfl⟩ := List.mem_iff_getElem.1 hx
  exact h j hj
 simp [idxD, this]

theorem indexFunc_int {H : Heap} {f : FuncId} {caps : List D} (l : List Int) (g : Int → Bool) (hl : l.length ≤ 4611686018427387904) (hg : ∀ x, x ∈ l → PureH Tryz.prog H f (I x :: caps) (.bool (g x))) :
  PureH Tryz.prog H 41 [intsD l, .fn f caps] (I (idxD g l)) := by
 refine PureH.of_body Tryz.func41 rfl (by decide) (Nat.le_of_ble_eq_true rfl) fun w0 => ?_
 (repeat(first|refine zC ?_|refine zD ?_|refine zE rfl (by decide) rfl ?_|refine zF ?_|refine zG ?_|refine zH ?_|refine zI ?_|refine zJ ?_|refine zK ?_|refine zL rfl ?_|refine zM rfl ?_))
 refine DW.loopI (fun k : Nat => k ≤ l.length ∧ ∀ (j : Nat) (hj : j < l.length), j < k → g l[j] = false) (fun k => [(0, intsD l), (1, .fn f caps), (7, I l.length), (8, I k)]) (fun _ => H) (fun k => l.length - k) 0 ⟨Nat.zero_le _, fun j hj h => by omega⟩ rfl ⟨rfl, rfl, rfl, rfl, trivial⟩ fun k ⟨hk, hk2⟩ => ?_
 (repeat(first|refine zC ?_|refine zD ?_|refine zE rfl (by decide) rfl ?_|refine zF ?_|refine zG ?_|refine zH ?_|refine zI ?_|refine zJ ?_|refine zK ?_|refine zL rfl ?_|refine zM rfl ?_))
 refine DW.cond rfl (fun hb => ?_) (fun hb => ?_)
 ·have hlt : k < l.length := by have := of_decide_eq_true hb; omega
  (repeat(first|refine zC ?_|refine zD ?_|refine zE rfl (by decide) rfl ?_|refine zF ?_|refine zG ?_|refine zH ?_|refine zI ?_|refine zJ ?_|refine zK ?_|refine zL rfl ?_|refine zM rfl ?_))
  refine RO.sta (sta_call rfl rfl (hg _ (List.getElem_mem hlt))) rfl ?_
  (repeat(first|refine zC ?_|refine zD ?_|refine zE rfl (by decide) rfl ?_|refine zF ?_|refine zG ?_|refine zH ?_|refine zI ?_|refine zJ ?_|refine zK ?_|refine zL rfl ?_|refine zM rfl ?_))
  refine DW.cond rfl (fun hb => ?_) (fun hb => ?_)
  ·(repeat(first|refine zC ?_|refine zD ?_|refine zE rfl (by decide) rfl ?_|refine zF ?_|refine zG ?_|refine zH ?_|refine zI ?_|refine zJ ?_|refine zK ?_|refine zL rfl ?_|refine zM rfl ?_))
   rw [idxD_at hlt hk2 hb]
   exact DW.ret ⟨.inl rfl, _, rfl, Over.refl _, .same _⟩
  ·(repeat(first|refine zC ?_|refine zD ?_|refine zE rfl (by decide) rfl ?_|refine zF ?_|refine zG ?_|refine zH ?_|refine zI ?_|refine zJ ?_|refine zK ?_|refine zL rfl ?_|refine zM rfl ?_))
   refine ⟨k + 1, ⟨by omega, fun j hj hjk => ?_⟩, by dsimp only; omega, rfl, rfl, rfl, rfl, rfl, trivial⟩
   by_cases h : j = k
   ·subst h; exact hb
   ·exact hk2 j hj (by omega)
 ·(repeat(first|refine zC ?_|refine zD ?_|refine zE rfl (by decide) rfl ?_|refine zF ?_|refine zG ?_|refine zH ?_|refine zI ?_|refine zJ ?_|refine zK ?_|refine zL rfl ?_|refine zM rfl ?_))
  have hn : ¬ k < l.length := by have := of_decide_eq_false hb; omega
  rw [idxD_none fun j hj => hk2 j hj (by omega)]
  exact DW.ret ⟨.inl rfl, _, rfl, Over.refl _, .same _⟩

theorem containsFunc_int {H : Heap} {f : FuncId} {caps : List D} (l : List Int) (g : Int → Bool) (hl : l.length ≤ 4611686018427387904) (hg : ∀ x, x ∈ l → PureH Tryz.prog H f (I x :: caps) (.bool (g x))) :
  PureH Tryz.prog H 22 [intsD l, .fn f caps] (.bool (l.any g)) := by
 refine PureH.of_body Tryz.func22 rfl (by decide) (Nat.le_of_ble_eq_true rfl) fun w0 => ?_
 (repeat(first|refine zC ?_|refine zD ?_|refine zE rfl (by decide) rfl ?_|refine zF ?_|refine zG ?_|refine zH ?_|refine zI ?_|refine zJ ?_|refine zK ?_|refine zL rfl ?_|refine zM rfl ?_))
 refine RO.sta (sta_call rfl rfl (indexFunc_int l g hl hg)) rfl ?_
 (repeat(first|refine zC ?_|refine zD ?_|refine zE rfl (by decide) rfl ?_|refine zF ?_|refine zG ?_|refine zH ?_|refine zI ?_|refine zJ ?_|refine zK ?_|refine zL rfl ?_|refine zM rfl ?_))
 have h : decide (0 ≤ idxD g l) = l.any g := by
  unfold idxD
  cases hx : l.findIdx? g with
  | none =>
   rw [List.findIdx?_eq_none_iff] at hx
   have : l.any g = false := by rw [List.any_eq_false]; intro x hm; simp [hx x hm]
   rw [this]; rfl
  | some i =>
   rw [List.findIdx?_eq_some_iff_getElem] at hx
   obtain ⟨h1, h2, _⟩ := hx
   have : l.any g = true := List.any_eq_true.2 ⟨_, List.getElem_mem h1, h2⟩
   rw [this]
   show decide (0 ≤ (i : Int)) = true
   exact decide_eq_true (by omega)
 rw [← h]
 exact DW.ret ⟨.inl rfl, _, rfl, Over.refl _, .same _⟩

def inP (p n : Int) : Bool := decide (0 ≤ n) && decide (n ≤ p - 1)

def hasDiv (p : Int) : Bool := (List.range (p.toNat - 2)).any fun i => p % ((i : Int) + 2) == 0

def ckP (p : Int) : Int := if decide (2 ≤ p) && decide (p ≤ 101) then (if hasDiv p then 4 else 0) else 3

theorem hasDiv_of {p d : Int} (hd : 2 ≤ d) (hp : d < p) (h : p % d = 0) : hasDiv p = true := by
 unfold hasDiv
 rw [List.any_eq_true]
 refine ⟨(d - 2).toNat, by rw [List.mem_range]; omega, ?_⟩
 have : (((d - 2).toNat : Nat) : Int) + 2 = d := by omega
 rw [this, h]
 rfl

theorem hasDiv_not {p : Int} (h : ∀ d, 2 ≤ d → d < p → p % d ≠ 0) : hasDiv p = false := by
 unfold hasDiv
 rw [List.any_eq_false]
 intro i hi
 rw [List.mem_range] at hi
 have := h (i + 2) (by omega) (by omega)
 simpa using this

theorem div_small {p d : Int} (h2 : 2 ≤ d) (hp : d < p) (h : p % d = 0) : ∃ c, 2 ≤ c ∧ c * c ≤ p ∧ p % c = 0 := by
 have hm : d * (p / d) = p := by have := Int.mul_ediv_add_emod p d; omega
 have hq : 2 ≤ p / d := by
  by_cases h' : p / d < 2
  ·have : p / d ≤ 1 := by omega
   have : d * (p / d) ≤ d * 1 := Int.mul_le_mul_of_nonneg_left this (by omega)
   omega
  ·omega
 by_cases hdd : d * d ≤ p
 ·exact ⟨d, h2, hdd, h⟩
 ·refine ⟨p / d, hq, ?_, ?_⟩
  ·have hle : p / d ≤ d := by
    by_cases h' : d < p / d
    ·have : d * d ≤ d * (p / d) := Int.mul_le_mul_of_nonneg_left (by omega) (by omega)
     omega
    ·omega
   calc p / d * (p / d) ≤ d * (p / d) := Int.mul_le_mul_of_nonneg_right hle (by omega)
    _ = p := hm
  ·have : p = (p / d) * d := by rw [Int.mul_comm]; exact hm.symm
   rw [this]
   have hne : p / d ≠ 0 := by omega
   rw [Int.mul_ediv_cancel _ (by omega), Int.mul_emod_right]

theorem check_pure (p : Int) : Pure Tryz.prog 80 [I p] (I (ckP p)) := by
 intro H
 refine PureH.of_body Tryz.func80 rfl (by decide) (Nat.le_of_ble_eq_true rfl) fun w0 => ?_
 (repeat(first|refine zC ?_|refine zD ?_|refine zE rfl (by decide) rfl ?_|refine zF ?_|refine zG ?_|refine zH ?_|refine zI ?_|refine zJ ?_|refine zK ?_|refine zL rfl ?_|refine zM rfl ?_))
 refine RO.sta (sta_call rfl rfl (within_pure _ _ _ _)) rfl ?_
 (repeat(first|refine zC ?_|refine zD ?_|refine zE rfl (by decide) rfl ?_|refine zF ?_|refine zG ?_|refine zH ?_|refine zI ?_|refine zJ ?_|refine zK ?_|refine zL rfl ?_|refine zM rfl ?_))
 cases hb : (decide (2 ≤ p) && decide (p ≤ 101))
 ·have hc : ckP p = 3 := by unfold ckP; rw [hb]; rfl
  rw [hc]
  (repeat(first|refine zC ?_|refine zD ?_|refine zE rfl (by decide) rfl ?_|refine zF ?_|refine zG ?_|refine zH ?_|refine zI ?_|refine zJ ?_|refine zK ?_|refine zL rfl ?_|refine zM rfl ?_))
  exact DW.ret ⟨.inl rfl, _, rfl, Over.refl _, .same _⟩
 ·have h2 : 2 ≤ p ∧ p ≤ 101 := by simpa using hb
  (repeat(first|refine zC ?_|refine zD ?_|refine zE rfl (by decide) rfl ?_|refine zF ?_|refine zG ?_|refine zH ?_|refine zI ?_|refine zJ ?_|refine zK ?_|refine zL rfl ?_|refine zM rfl ?_))
  refine DW.loopI (fun d : Int => 2 ≤ d ∧ d ≤ 102 ∧ ∀ c, 2 ≤ c → c < d → p % c ≠ 0) (fun d => [(0, I p), (3, I d)]) (fun _ => H) (fun d => (102 - d).toNat) 2 ⟨by omega, by omega, fun c h1 h2 => by omega⟩ rfl ⟨rfl, rfl, trivial⟩ fun d ⟨hd, hd3, hd2⟩ => ?_
  have hdd : 0 ≤ d * d := Int.mul_nonneg (by omega) (by omega)
  have hdd2 : d * d ≤ 102 * 102 := Int.mul_le_mul hd3 hd3 (by omega) (by omega)
  have hdd3 : d ≤ d * d := by
   have : d * 1 ≤ d * d := Int.mul_le_mul_of_nonneg_left (by omega) (by omega)
   omega
  (repeat(first|refine zC ?_|refine zD ?_|refine zE rfl (by decide) rfl ?_|refine zF ?_|refine zG ?_|refine zH ?_|refine zI ?_|refine zJ ?_|refine zK ?_|refine zL rfl ?_|refine zM rfl ?_))
  refine DW.cond rfl (fun hb => ?_) (fun hb => ?_)
  ·have hlt : d * d ≤ p := of_decide_eq_true hb
   have hdp : d < p := by
    have : d * 2 ≤ d * d := Int.mul_le_mul_of_nonneg_left (by omega) (by omega)
    omega
   (repeat(first|refine zC ?_|refine zD ?_|refine zE rfl (by decide) rfl ?_|refine zF ?_|refine zG ?_|refine zH ?_|refine zI ?_|refine zJ ?_|refine zK ?_|refine zL rfl ?_|refine zM rfl ?_))
   (repeat(first|refine zC ?_|refine zD ?_|refine zE rfl (by decide) rfl ?_|refine zF ?_|refine zG ?_|refine zH ?_|refine zI ?_|refine zJ ?_|refine zK ?_|refine zL rfl ?_|refine zM rfl ?_))
   refine DW.cond rfl (fun hb => ?_) (fun hb => ?_)
   ·have hm : p % d = 0 := by simpa using hb
    have hc : ckP p = 4 := by unfold ckP; rw [if_pos (by simpa using h2), if_pos (hasDiv_of hd hdp hm)]
    rw [hc]
    (repeat(first|refine zC ?_|refine zD ?_|refine zE rfl (by decide) rfl ?_|refine zF ?_|refine zG ?_|refine zH ?_|refine zI ?_|refine zJ ?_|refine zK ?_|refine zL rfl ?_|refine zM rfl ?_))
    exact DW.ret ⟨.inl rfl, _, rfl, Over.refl _, .same _⟩
   ·have hm : p % d ≠ 0 := by simpa using hb
    (repeat(first|refine zC ?_|refine zD ?_|refine zE rfl (by decide) rfl ?_|refine zF ?_|refine zG ?_|refine zH ?_|refine zI ?_|refine zJ ?_|refine zK ?_|refine zL rfl ?_|refine zM rfl ?_))
    refine ⟨d + 1, ⟨by omega, by omega, fun c h1 h2 => ?_⟩, by dsimp only; omega, rfl, rfl, rfl, trivial⟩
    by_cases h : c = d
    ·rw [h]; exact hm
    ·exact hd2 c h1 (by omega)
  ·have hge : ¬ d * d ≤ p := of_decide_eq_false hb
   have hc : ckP p = 0 := by
    unfold ckP
    rw [if_pos (by simpa using h2)]
    have : hasDiv p = false := hasDiv_not fun c h1 h2 h3 => by
     obtain ⟨b, hb1, hb2, hb3⟩ := div_small h1 h2 h3
     have hbd : b < d := by
      by_cases h' : b < d
      ·exact h'
      ·have : d * d ≤ b * b := Int.mul_le_mul (by omega) (by omega) (by omega) (by omega)
       omega
     exact hd2 b hb1 hbd hb3
    rw [this]; rfl
   rw [hc]
   (repeat(first|refine zC ?_|refine zD ?_|refine zE rfl (by decide) rfl ?_|refine zF ?_|refine zG ?_|refine zH ?_|refine zI ?_|refine zJ ?_|refine zK ?_|refine zL rfl ?_|refine zM rfl ?_))
   exact DW.ret ⟨.inl rfl, _, rfl, Over.refl _, .same _⟩

theorem checkPrime_pure (p : Int) : Pure Tryz.prog 78 [I p] (I (ckP p)) := by
 intro H
 refine PureH.of_body Tryz.func78 rfl (by decide) (Nat.le_of_ble_eq_true rfl) fun w0 => ?_
 (repeat(first|refine zC ?_|refine zD ?_|refine zE rfl (by decide) rfl ?_|refine zF ?_|refine zG ?_|refine zH ?_|refine zI ?_|refine zJ ?_|refine zK ?_|refine zL rfl ?_|refine zM rfl ?_))
 refine RO.sta (sta_call rfl rfl (between_pure _ _ _ _)) rfl ?_
 (repeat(first|refine zC ?_|refine zD ?_|refine zE rfl (by decide) rfl ?_|refine zF ?_|refine zG ?_|refine zH ?_|refine zI ?_|refine zJ ?_|refine zK ?_|refine zL rfl ?_|refine zM rfl ?_))
 cases hb : (decide (2 ≤ p) && decide (p ≤ 101))
 ·have hc : ckP p = 3 := by unfold ckP; rw [hb]; rfl
  rw [hc]
  (repeat(first|refine zC ?_|refine zD ?_|refine zE rfl (by decide) rfl ?_|refine zF ?_|refine zG ?_|refine zH ?_|refine zI ?_|refine zJ ?_|refine zK ?_|refine zL rfl ?_|refine zM rfl ?_))
  exact DW.ret ⟨.inl rfl, _, rfl, Over.refl _, .same _⟩
 ·have h2 : 2 ≤ p ∧ p ≤ 101 := by simpa using hb
  (repeat(first|refine zC ?_|refine zD ?_|refine zE rfl (by decide) rfl ?_|refine zF ?_|refine zG ?_|refine zH ?_|refine zI ?_|refine zJ ?_|refine zK ?_|refine zL rfl ?_|refine zM rfl ?_))
  refine DW.loopI (fun d : Int => 2 ≤ d ∧ d ≤ p ∧ ∀ c, 2 ≤ c → c < d → p % c ≠ 0) (fun d => [(0, I p), (3, I d)]) (fun _ => H) (fun d => (p - d).toNat) 2 ⟨by omega, by omega, fun c h1 h2 => by omega⟩ rfl ⟨rfl, rfl, trivial⟩ fun d ⟨hd, hd3, hd2⟩ => ?_
  (repeat(first|refine zC ?_|refine zD ?_|refine zE rfl (by decide) rfl ?_|refine zF ?_|refine zG ?_|refine zH ?_|refine zI ?_|refine zJ ?_|refine zK ?_|refine zL rfl ?_|refine zM rfl ?_))
  refine DW.cond rfl (fun hb => ?_) (fun hb => ?_)
  ·have hdp : d < p := of_decide_eq_true hb
   (repeat(first|refine zC ?_|refine zD ?_|refine zE rfl (by decide) rfl ?_|refine zF ?_|refine zG ?_|refine zH ?_|refine zI ?_|refine zJ ?_|refine zK ?_|refine zL rfl ?_|refine zM rfl ?_))
   (repeat(first|refine zC ?_|refine zD ?_|refine zE rfl (by decide) rfl ?_|refine zF ?_|refine zG ?_|refine zH ?_|refine zI ?_|refine zJ ?_|refine zK ?_|refine zL rfl ?_|refine zM rfl ?_))
   refine DW.cond rfl (fun hb => ?_) (fun hb => ?_)
   ·have hm : p % d = 0 := by simpa using hb
    have hc : ckP p = 4 := by unfold ckP; rw [if_pos (by simpa using h2), if_pos (hasDiv_of hd hdp hm)]
    rw [hc]
    (repeat(first|refine zC ?_|refine zD ?_|refine zE rfl (by decide) rfl ?_|refine zF ?_|refine zG ?_|refine zH ?_|refine zI ?_|refine zJ ?_|refine zK ?_|refine zL rfl ?_|refine zM rfl ?_))
    exact DW.ret ⟨.inl rfl, _, rfl, Over.refl _, .same _⟩
   ·have hm : p % d ≠ 0 := by simpa using hb
    (repeat(first|refine zC ?_|refine zD ?_|refine zE rfl (by decide) rfl ?_|refine zF ?_|refine zG ?_|refine zH ?_|refine zI ?_|refine zJ ?_|refine zK ?_|refine zL rfl ?_|refine zM rfl ?_))
    refine ⟨d + 1, ⟨by omega, by omega, fun c h1 h2 => ?_⟩, by dsimp only; omega, rfl, rfl, rfl, trivial⟩
    by_cases h : c = d
    ·rw [h]; exact hm
    ·exact hd2 c h1 (by omega)
  ·have hge : ¬ d < p := of_decide_eq_false hb
   have hc : ckP p = 0 := by
    unfold ckP
    rw [if_pos (by simpa using h2)]
    have : hasDiv p = false := hasDiv_not fun c h1 h2 => hd2 c h1 (by omega)
    rw [this]; rfl
   rw [hc]
   (repeat(first|refine zC ?_|refine zD ?_|refine zE rfl (by decide) rfl ?_|refine zF ?_|refine zG ?_|refine zH ?_|refine zI ?_|refine zJ ?_|refine zK ?_|refine zL rfl ?_|refine zM rfl ?_))
   exact DW.ret ⟨.inl rfl, _, rfl, Over.refl _, .same _⟩
end
section
open Go.RowKit

def invOk (p a b : Int) : Bool := a * b % p == 1 % p

def invGo (p a : Int) : Nat → Int → Int
 | 0, _ => 0
 | n + 1, b => if invOk p a b then b else invGo p a n (b + 1)

def invT (p a : Int) : Int := invGo p a (p.toNat - 1) 1

theorem inverseOf_pure (p a : Int) (hp : 2 ≤ p) (hp2 : p ≤ 101) (ha : 0 ≤ a) (ha2 : a < p) : Pure Tryz.prog 44 [I p, I a] (I (invT p a)) := by
 intro H
 refine PureH.of_body Tryz.func44 rfl (by decide) (Nat.le_of_ble_eq_true rfl) fun w0 => ?_
 (repeat(first|refine zC ?_|refine zD ?_|refine zE rfl (by decide) rfl ?_|refine zF ?_|refine zG ?_|refine zH ?_|refine zI ?_|refine zJ ?_|refine zK ?_|refine zL rfl ?_|refine zM rfl ?_))
 refine DW.loopI (fun b : Int => 1 ≤ b ∧ b ≤ p ∧ invGo p a (p - b).toNat b = invT p a) (fun b => [(0, I p), (1, I a), (5, I b)]) (fun _ => H) (fun b => (p - b).toNat) 1 ⟨by omega, by omega, by unfold invT; congr 1; omega⟩ rfl ⟨rfl, rfl, rfl, trivial⟩ fun b ⟨hb1, hb2, hb3⟩ => ?_
 (repeat(first|refine zC ?_|refine zD ?_|refine zE rfl (by decide) rfl ?_|refine zF ?_|refine zG ?_|refine zH ?_|refine zI ?_|refine zJ ?_|refine zK ?_|refine zL rfl ?_|refine zM rfl ?_))
 refine DW.cond rfl (fun hb => ?_) (fun hb => ?_)
 ·have hlt : b < p := of_decide_eq_true hb
  have hm : 0 ≤ a * b := Int.mul_nonneg ha (by omega)
  have hm2 : a * b ≤ 101 * 101 := Int.mul_le_mul (by omega) (by omega) (by omega) (by omega)
  have hn : (p - b).toNat = (p - (b + 1)).toNat + 1 := by omega
  rw [hn] at hb3
  (repeat(first|refine zC ?_|refine zD ?_|refine zE rfl (by decide) rfl ?_|refine zF ?_|refine zG ?_|refine zH ?_|refine zI ?_|refine zJ ?_|refine zK ?_|refine zL rfl ?_|refine zM rfl ?_))
  refine DW.drawS 8 Tryz.mixed (by kernel_rfl) (by decide) ?_
  dsimp only [List.take, List.drop]
  (repeat(first|refine zP ?_|refine zQ ?_|refine zR rfl (by decide) rfl ?_|refine zS ?_))
  (repeat(first|refine zC ?_|refine zD ?_|refine zE rfl (by decide) rfl ?_|refine zF ?_|refine zG ?_|refine zH ?_|refine zI ?_|refine zJ ?_|refine zK ?_|refine zL rfl ?_|refine zM rfl ?_))
  refine DW.cond rfl (fun hb => ?_) (fun hb => ?_)
  ·(repeat(first|refine zC ?_|refine zD ?_|refine zE rfl (by decide) rfl ?_|refine zF ?_|refine zG ?_|refine zH ?_|refine zI ?_|refine zJ ?_|refine zK ?_|refine zL rfl ?_|refine zM rfl ?_))
   have : invT p a = b := by rw [← hb3]; simp only [invGo]; rw [if_pos (show invOk p a b = true from hb)]
   rw [this]
   exact DW.ret ⟨.inl rfl, _, rfl, Over.refl _, .same _⟩
  ·(repeat(first|refine zC ?_|refine zD ?_|refine zE rfl (by decide) rfl ?_|refine zF ?_|refine zG ?_|refine zH ?_|refine zI ?_|refine zJ ?_|refine zK ?_|refine zL rfl ?_|refine zM rfl ?_))
   refine ⟨b + 1, ⟨by omega, by omega, ?_⟩, by dsimp only; omega, rfl, rfl, rfl, rfl, trivial⟩
   rw [← hb3]
   simp only [invGo]
   rw [if_neg (by rw [show invOk p a b = false from hb]; simp)]
 ·have hge : ¬ b < p := of_decide_eq_false hb
  have hn : (p - b).toNat = 0 := by omega
  rw [hn] at hb3
  (repeat(first|refine zC ?_|refine zD ?_|refine zE rfl (by decide) rfl ?_|refine zF ?_|refine zG ?_|refine zH ?_|refine zI ?_|refine zJ ?_|refine zK ?_|refine zL rfl ?_|refine zM rfl ?_))
  rw [← hb3]
  exact DW.ret ⟨.inl rfl, _, rfl, Over.refl _, .same _⟩

def turnGo (p : Int) : Nat → Int → Int → Int → Int
 | 0, _, _, out => out
 | f + 1, n, a, out => if n ≤ 0 then out else turnGo p f (n / 2) (a * a % p) (if n % 2 = 1 then out * a % p else out)

def turnP (p a : Int) : Int := turnGo p 7 (p - 2) a 1

theorem turn_pure (p a : Int) (hp : 2 ≤ p) (hp2 : p ≤ 101) (ha : 0 ≤ a) (ha2 : a < p) : Pure Tryz.prog 73 [I p, I a] (I (turnP p a)) := by
 intro H
 refine PureH.of_body Tryz.func73 rfl (by decide) (Nat.le_of_ble_eq_true rfl) fun w0 => ?_
 (repeat(first|refine zC ?_|refine zD ?_|refine zE rfl (by decide) rfl ?_|refine zF ?_|refine zG ?_|refine zH ?_|refine zI ?_|refine zJ ?_|refine zK ?_|refine zL rfl ?_|refine zM rfl ?_))
 refine DW.loopI (fun x : Nat × Int × Int × Int => (0 ≤ x.2.1 ∧ x.2.1 < 2 ^ x.1 ∧ x.2.1 ≤ 101) ∧ (0 ≤ x.2.2.1 ∧ x.2.2.1 < p) ∧ (0 ≤ x.2.2.2 ∧ x.2.2.2 < p) ∧ turnGo p x.1 x.2.1 x.2.2.1 x.2.2.2 = turnP p a) (fun x => [(0, I p), (1, I x.2.2.1), (5, I x.2.2.2), (6, I x.2.1)]) (fun _ => H) (fun x => x.1) (7, p - 2, a, 1)
  ⟨⟨by dsimp only; omega, by dsimp only; omega, by dsimp only; omega⟩, ⟨ha, ha2⟩, ⟨by dsimp only; omega, by dsimp only; omega⟩, rfl⟩ rfl ⟨rfl, rfl, rfl, rfl, trivial⟩ fun ⟨f, n, b, out⟩ ⟨⟨hn0, hn1, hn2⟩, ⟨hb0, hb1⟩, ⟨ho0, ho1⟩, hg⟩ => ?_
 dsimp only at hn0 hn1 hn2 hb0 hb1 ho0 ho1 hg
 dsimp only
 (repeat(first|refine zC ?_|refine zD ?_|refine zE rfl (by decide) rfl ?_|refine zF ?_|refine zG ?_|refine zH ?_|refine zI ?_|refine zJ ?_|refine zK ?_|refine zL rfl ?_|refine zM rfl ?_))
 refine DW.cond rfl (fun hb => ?_) (fun hb => ?_)
 ·have hpos : 0 < n := of_decide_eq_true hb
  obtain ⟨f, rfl⟩ : ∃ g, f = g + 1 := by
   cases f with
   | zero => simp at hn1; omega
   | succ g => exact ⟨g, rfl⟩
  have hpw : (2 : Int) ^ (f + 1) = 2 ^ f * 2 := Int.pow_succ ..
  have hbb : 0 ≤ b * b := Int.mul_nonneg hb0 hb0
  have hbb2 : b * b ≤ 101 * 101 := Int.mul_le_mul (by omega) (by omega) (by omega) (by omega)
  have hob : 0 ≤ out * b := Int.mul_nonneg ho0 hb0
  have hob2 : out * b ≤ 101 * 101 := Int.mul_le_mul (by omega) (by omega) (by omega) (by omega)
  have hm1 := Int.emod_nonneg (b * b) (show p ≠ 0 by omega)
  have hm2 := Int.emod_lt_of_pos (b * b) (show 0 < p by omega)
  have hm3 := Int.emod_nonneg (out * b) (show p ≠ 0 by omega)
  have hm4 := Int.emod_lt_of_pos (out * b) (show 0 < p by omega)
  simp only [turnGo] at hg
  rw [if_neg (by omega)] at hg
  (repeat(first|refine zC ?_|refine zD ?_|refine zE rfl (by decide) rfl ?_|refine zF ?_|refine zG ?_|refine zH ?_|refine zI ?_|refine zJ ?_|refine zK ?_|refine zL rfl ?_|refine zM rfl ?_))
  refine RO.sta (s_and1 rfl rfl (by omega) (by omega)) rfl ?_
  (repeat(first|refine zC ?_|refine zD ?_|refine zE rfl (by decide) rfl ?_|refine zF ?_|refine zG ?_|refine zH ?_|refine zI ?_|refine zJ ?_|refine zK ?_|refine zL rfl ?_|refine zM rfl ?_))
  refine DW.cond rfl (fun hb => ?_) (fun hb => ?_)
  ·have h1 : n % 2 = 1 := by simpa using hb
   rw [if_pos h1] at hg
   (repeat(first|refine zC ?_|refine zD ?_|refine zE rfl (by decide) rfl ?_|refine zF ?_|refine zG ?_|refine zH ?_|refine zI ?_|refine zJ ?_|refine zK ?_|refine zL rfl ?_|refine zM rfl ?_))
   refine RO.sta (s_shr1 rfl rfl (by omega)) rfl ?_
   (repeat(first|refine zC ?_|refine zD ?_|refine zE rfl (by decide) rfl ?_|refine zF ?_|refine zG ?_|refine zH ?_|refine zI ?_|refine zJ ?_|refine zK ?_|refine zL rfl ?_|refine zM rfl ?_))
   exact ⟨(f, n / 2, b * b % p, out * b % p), ⟨⟨by dsimp only; omega, by dsimp only; omega, by dsimp only; omega⟩, ⟨hm1, hm2⟩, ⟨hm3, hm4⟩, hg⟩, Nat.lt_succ_self _, rfl, rfl, rfl, rfl, rfl, trivial⟩
  ·have h1 : ¬ n % 2 = 1 := by simpa using hb
   rw [if_neg h1] at hg
   (repeat(first|refine zC ?_|refine zD ?_|refine zE rfl (by decide) rfl ?_|refine zF ?_|refine zG ?_|refine zH ?_|refine zI ?_|refine zJ ?_|refine zK ?_|refine zL rfl ?_|refine zM rfl ?_))
   refine RO.sta (s_shr1 rfl rfl (by omega)) rfl ?_
   (repeat(first|refine zC ?_|refine zD ?_|refine zE rfl (by decide) rfl ?_|refine zF ?_|refine zG ?_|refine zH ?_|refine zI ?_|refine zJ ?_|refine zK ?_|refine zL rfl ?_|refine zM rfl ?_))
   exact ⟨(f, n / 2, b * b % p, out), ⟨⟨by dsimp only; omega, by dsimp only; omega, by dsimp only; omega⟩, ⟨hm1, hm2⟩, ⟨ho0, ho1⟩, hg⟩, Nat.lt_succ_self _, rfl, rfl, rfl, rfl, rfl, trivial⟩
 ·have hneg : ¬ 0 < n := of_decide_eq_false hb
  have : turnP p a = out := by
   rw [← hg]
   cases f with
   | zero => rfl
   | succ f => simp only [turnGo]; rw [if_pos (by omega)]
  rw [this]
  (repeat(first|refine zC ?_|refine zD ?_|refine zE rfl (by decide) rfl ?_|refine zF ?_|refine zG ?_|refine zH ?_|refine zI ?_|refine zJ ?_|refine zK ?_|refine zL rfl ?_|refine zM rfl ?_))
  exact DW.ret ⟨.inl rfl, _, rfl, Over.refl _, .same _⟩
end
section
open Go.RowKit

theorem ckP_ok {p : Int} (h : ckP p = 0) : 2 ≤ p ∧ p ≤ 101 := by
 unfold ckP at h
 by_cases hb : (decide (2 ≤ p) && decide (p ≤ 101)) = true
 ·simpa using hb
 ·rw [if_neg hb] at h; cases h

def pairD (r : Int × Int) : D := .tup [I r.1, I r.2]

theorem inP_iff {p a : Int} : inP p a = true ↔ 0 ≤ a ∧ a < p := by
 unfold inP
 simp
 omega
end
section
open Go.RowKit

def ringCk (r : Rg) : Int :=
 if ckP r.p = 0 then (if decide (1 ≤ r.n) && decide (r.n ≤ 3) then (if (decide (1 ≤ r.order) && decide (r.order ≤ 2)) && (decide (1 ≤ r.over) && decide (r.over ≤ 2)) then 0 else 6) else 3) else ckP r.p

theorem ringCk_ok {r : Rg} (h : ringCk r = 0) : ckP r.p = 0 ∧ (1 ≤ r.n ∧ r.n ≤ 3) ∧ (1 ≤ r.order ∧ r.order ≤ 2) ∧ (1 ≤ r.over ∧ r.over ≤ 2) := by
 unfold ringCk at h
 split at h
 ·split at h
  ·split at h
   ·rename_i h1 h2 h3
    simp only [Bool.and_eq_true, decide_eq_true_eq] at h2 h3
    exact ⟨h1, h2, h3⟩
   ·cases h
  ·cases h
 ·contradiction

def inE (k : Int) : Bool := decide (0 ≤ k) && decide (k ≤ 200)

theorem inE_iff {k : Int} : inE k = true ↔ 0 ≤ k ∧ k ≤ 200 := by simp [inE]

def monoCk (r : Rg) (e : List Int) : Int := if (e.length : Int) = r.n then (if e.all inE && decide (e.sum ≤ 200) then 0 else 3) else 1

structure MOk (e : List Int) : Prop where
 len : e.length ≤ 3
 mem : ∀ x ∈ e, 0 ≤ x ∧ x ≤ 1000000

theorem MOk.at {e : List Int} (h : MOk e) {i : Nat} (hi : i < e.length) : 0 ≤ e[i] ∧ e[i] ≤ 1000000 := h.mem _ (List.getElem_mem hi)

theorem sum_take_succ (e : List Int) {k : Nat} (hk : k < e.length) : (e.take (k + 1)).sum = (e.take k).sum + e[k] := by
 rw [List.take_succ_eq_append_getElem hk, List.sum_append]
 simp

theorem sum_bounds {m : Int} (hm : 0 ≤ m) : ∀ (e : List Int), (∀ x ∈ e, 0 ≤ x ∧ x ≤ m) → 0 ≤ e.sum ∧ e.sum ≤ m * e.length
 | [], _ => by simp
 | x :: e, h => by
  obtain ⟨h1, h2⟩ := sum_bounds hm e (fun y hy => h y (by simp [hy]))
  have hx := h x (by simp)
  simp only [List.sum_cons, List.length_cons]
  have : m * ((e.length + 1 : Nat) : Int) = m * e.length + m := by rw [Int.natCast_add, Int.mul_add]; simp
  omega

theorem MOk.take {e : List Int} (h : MOk e) (k : Nat) : MOk (e.take k) := ⟨by rw [List.length_take]; have := h.len; omega, fun x hx => h.mem x (List.mem_of_mem_take hx)⟩

theorem MOk.sum {e : List Int} (h : MOk e) : 0 ≤ e.sum ∧ e.sum ≤ 3000000 := by
 obtain ⟨h1, h2⟩ := sum_bounds (by omega) e h.mem
 have := h.len
 omega

theorem MOk.of {r : Rg} {e : List Int} (hr : r.n ≤ 3) (h : monoCk r e = 0) : MOk e ∧ (e.length : Int) = r.n ∧ e.all inE = true ∧ e.sum ≤ 200 := by
 unfold monoCk at h
 split at h
 ·rename_i hl
  split at h
  ·rename_i h2
   simp only [Bool.and_eq_true, decide_eq_true_eq] at h2
   refine ⟨⟨by omega, fun x hx => ?_⟩, hl, h2.1, h2.2⟩
   have := inE_iff.1 (List.all_eq_true.1 h2.1 x hx)
   omega
  ·cases h
 ·cases h

def zipE (g : Int → Int → Int) (a b : List Int) : List Int := List.zipWith g a b

theorem zipE_len {g : Int → Int → Int} {a b : List Int} (h : a.length = b.length) : (zipE g a b).length = a.length := by simp [zipE, h]

theorem zipE_get {g : Int → Int → Int} {a b : List Int} {i : Nat} (hi : i < (zipE g a b).length) : (zipE g a b)[i] = g (a[i]'(by simp [zipE] at hi; omega)) (b[i]'(by simp [zipE] at hi; omega)) := by
 simp [zipE]

theorem zipE_mok {g : Int → Int → Int} {a b : List Int} (h : a.length = b.length) (ha : a.length ≤ 3) (hg : ∀ (i : Nat) (h1 : i < a.length) (h2 : i < b.length), 0 ≤ g a[i] b[i] ∧ g a[i] b[i] ≤ 1000000) : MOk (zipE g a b) := by
 refine ⟨by rw [zipE_len h]; exact ha, fun x hx => ?_⟩
 obtain ⟨i, hi, rfl⟩ := List.mem_iff_getElem.1 hx
 rw [zipE_get]
 exact hg _ _ _

def goesM : List Int → List Int → Bool
 | x :: a, y :: b => if y > x then false else goesM a b
 | _, _ => true

def lexC : List Int → List Int → Int
 | x :: a, y :: b => if x < y then -1 else if y < x then 1 else lexC a b
 | _, _ => 0

def sgn (n : Int) : Int := max (-1) (min 1 n)

def cmpM (o : Int) (a b : List Int) : Int := if a.sum = b.sum then (if o = 2 then lexC a b else lexC b.reverse a.reverse) else sgn (a.sum - b.sum)

theorem lexC_range : ∀ (a b : List Int), lexC a b = 0 ∨ lexC a b = 1 ∨ lexC a b = -1
 | [], _ => .inl rfl
 | x :: a, [] => .inl rfl
 | x :: a, y :: b => by
  simp only [lexC]
  split
  ·exact .inr (.inr rfl)
  ·split
   ·exact .inr (.inl rfl)
   ·exact lexC_range a b

theorem lexC_anti : ∀ (a b : List Int), lexC a b = -lexC b a
 | [], [] => rfl
 | [], _ :: _ => rfl
 | x :: a, [] => rfl
 | x :: a, y :: b => by
  simp only [lexC]
  have ih := lexC_anti a b
  split <;> split <;> (try split) <;> omega

theorem lexC_zero : ∀ {a b : List Int}, a.length = b.length → lexC a b = 0 → a = b
 | [], [], _, _ => rfl
 | [], _ :: _, h, _ => by simp at h
 | x :: a, [], h, _ => by simp at h
 | x :: a, y :: b, h, h0 => by
  simp only [lexC] at h0
  split at h0
  ·cases h0
  ·split at h0
   ·cases h0
   ·have : x = y := by omega
    rw [this, lexC_zero (by simpa using h) h0]

theorem lexC_self : ∀ (a : List Int), lexC a a = 0
 | [] => rfl
 | x :: a => by simp [lexC, lexC_self a]

theorem lexC_trans : ∀ {a b c : List Int}, a.length = b.length → b.length = c.length → 0 ≤ lexC a b → 0 ≤ lexC b c → 0 ≤ lexC a c ∧ (0 < lexC a b ∨ 0 < lexC b c → 0 < lexC a c)
 | [], [], [], _, _, _, _ => ⟨Int.le_refl _, fun h => by rcases h with h | h <;> cases h⟩
 | x :: a, y :: b, z :: c, h1, h2, h3, h4 => by
  have ih := @lexC_trans a b c (by simpa using h1) (by simpa using h2)
  simp only [lexC] at *
  split at h3
  ·omega
  ·split at h4
   ·omega
   ·split at h3
    ·split at h4 <;> (rw [if_neg (by omega), if_pos (by omega)]; exact ⟨by omega, fun _ => by omega⟩)
    ·split at h4
     ·rw [if_neg (by omega), if_pos (by omega)]; exact ⟨by omega, fun _ => by omega⟩
     ·rw [if_neg (by omega), if_neg (by omega)]
      have := ih h3 h4
      refine ⟨this.1, fun h => this.2 ?_⟩
      rename_i g1 g2 g3 g4
      rwa [if_neg g1, if_neg g3, if_neg g2, if_neg g4] at h

theorem lexC_add : ∀ {a b c : List Int}, a.length = b.length → b.length = c.length → lexC (zipE (· + ·) a c) (zipE (· + ·) b c) = lexC a b
 | [], [], [], _, _ => rfl
 | x :: a, y :: b, z :: c, h1, h2 => by
  have ih := @lexC_add a b c (by simpa using h1) (by simpa using h2)
  simp only [zipE, List.zipWith_cons_cons, lexC] at *
  split <;> split <;> (try split) <;> (try split) <;> (try omega)

theorem lexC_take_rev {a b : List Int} {k : Nat} (h1 : k < a.length) (h2 : k < b.length) :
  lexC (b.take (k + 1)).reverse (a.take (k + 1)).reverse = if b[k] < a[k] then -1 else if a[k] < b[k] then 1 else lexC (b.take k).reverse (a.take k).reverse := by
 rw [List.take_succ_eq_append_getElem h1, List.take_succ_eq_append_getElem h2, List.reverse_append, List.reverse_append]
 rfl

theorem lexC_drop {a b : List Int} {k : Nat} (h1 : k < a.length) (h2 : k < b.length) :
  lexC (a.drop k) (b.drop k) = if a[k] < b[k] then -1 else if b[k] < a[k] then 1 else lexC (a.drop (k + 1)) (b.drop (k + 1)) := by
 rw [List.drop_eq_getElem_cons h1, List.drop_eq_getElem_cons h2]
 rfl

theorem goesM_drop {a b : List Int} {k : Nat} (h1 : k < a.length) (h2 : k < b.length) : goesM (a.drop k) (b.drop k) = if b[k] > a[k] then false else goesM (a.drop (k + 1)) (b.drop (k + 1)) := by
 rw [List.drop_eq_getElem_cons h1, List.drop_eq_getElem_cons h2]
 rfl

theorem sgn_range (n : Int) : sgn n = 0 ∨ sgn n = 1 ∨ sgn n = -1 := by unfold sgn; omega

theorem cmpM_anti (o : Int) (a b : List Int) : cmpM o a b = -cmpM o b a := by
 unfold cmpM
 by_cases h : a.sum = b.sum
 ·rw [if_pos h, if_pos h.symm]
  split
  ·exact lexC_anti a b
  ·exact lexC_anti _ _
 ·rw [if_neg h, if_neg (Ne.symm h)]
  unfold sgn
  omega

theorem cmpM_range (o : Int) (a b : List Int) : cmpM o a b = 0 ∨ cmpM o a b = 1 ∨ cmpM o a b = -1 := by
 unfold cmpM
 split
 ·split
  ·exact lexC_range _ _
  ·exact lexC_range _ _
 ·exact sgn_range _

theorem cmpM_self (o : Int) (a : List Int) : cmpM o a a = 0 := by
 unfold cmpM
 rw [if_pos rfl]
 split <;> exact lexC_self _

theorem cmpM_zero {o : Int} {a b : List Int} (h : a.length = b.length) (h0 : cmpM o a b = 0) : a = b := by
 unfold cmpM at h0
 split at h0
 ·split at h0
  ·exact lexC_zero h h0
  ·have := lexC_zero (by simp [h]) h0
   exact (List.reverse_inj.1 this).symm
 ·unfold sgn at h0; omega

theorem cmpM_trans {o : Int} {a b c : List Int} (h1 : a.length = b.length) (h2 : b.length = c.length) (h3 : 0 ≤ cmpM o a b) (h4 : 0 ≤ cmpM o b c) : 0 ≤ cmpM o a c ∧ (0 < cmpM o a b ∨ 0 < cmpM o b c → 0 < cmpM o a c) := by
 unfold cmpM at *
 by_cases hab : a.sum = b.sum
 ·by_cases hbc : b.sum = c.sum
  ·rw [if_pos hab] at *
   rw [if_pos hbc] at *
   rw [if_pos (hab.trans hbc)]
   split
   ·rename_i ho
    simp only [ho, if_true] at *
    exact lexC_trans h1 h2 h3 h4
   ·rename_i ho
    simp only [ho, if_false] at *
    have := @lexC_trans c.reverse b.reverse a.reverse (by simp [h2]) (by simp [h1]) h4 h3
    exact ⟨this.1, fun h => this.2 h.symm⟩
  ·rw [if_neg hbc] at h4 ⊢
   rw [if_neg (by omega)]
   unfold sgn at *
   exact ⟨by omega, fun _ => by omega⟩
 ·rw [if_neg hab] at h3 ⊢
  by_cases hbc : b.sum = c.sum
  ·rw [if_neg (by omega)]
   unfold sgn at *
   exact ⟨by omega, fun _ => by omega⟩
  ·rw [if_neg hbc] at h4 ⊢
   unfold sgn at h3 h4
   rw [if_neg (by omega)]
   unfold sgn
   exact ⟨by omega, fun _ => by omega⟩

theorem zipE_sum : ∀ {a b : List Int}, a.length = b.length → (zipE (· + ·) a b).sum = a.sum + b.sum
 | [], [], _ => rfl
 | x :: a, y :: b, h => by
  have ih := @zipE_sum a b (by simpa using h)
  simp only [zipE, List.zipWith_cons_cons, List.sum_cons] at *
  omega

theorem zipE_rev {g : Int → Int → Int} {a b : List Int} (h : a.length = b.length) : (zipE g a b).reverse = zipE g a.reverse b.reverse := by
 unfold zipE
 exact (List.reverse_zipWith h)

theorem cmpM_add {o : Int} {a b c : List Int} (h1 : a.length = b.length) (h2 : b.length = c.length) : cmpM o (zipE (· + ·) a c) (zipE (· + ·) b c) = cmpM o a b := by
 unfold cmpM
 rw [zipE_sum (h1.trans h2), zipE_sum h2]
 by_cases h : a.sum = b.sum
 ·rw [if_pos h, if_pos (by omega)]
  split
  ·exact lexC_add h1 h2
  ·rw [zipE_rev (h1.trans h2), zipE_rev h2]
   exact lexC_add (by simp [h1]) (by simp [h1, h2])
 ·rw [if_neg h, if_neg (by omega)]
  congr 1
  omega

theorem sum_nonneg {a : List Int} (h : ∀ x ∈ a, 0 ≤ x) : 0 ≤ a.sum := by
 induction a with
 | nil => simp
 | cons y a ih =>
  have := ih (fun z hz => h z (by simp [hz]))
  have hy := h y (by simp)
  simp only [List.sum_cons]
  omega

theorem ownSum (e : List Int) : e.all inE = true → ∀ k, 0 ≤ (e.take k).sum ∧ (e.take k).sum ≤ 200 * (e.take k).length := fun h k =>
 sum_bounds (by omega) _ fun x hx => inE_iff.1 (List.all_eq_true.1 h x (List.mem_of_mem_take hx))
end
end Go.Proofs.YtfjmdhemlfafbaaGreat
