/-
  What the rows' condition on package-level variables gives: the table of powers of ten stands where it must. No condition.
-/
import Derived.Test.YtblileclefbklaaDoorKPrc7
import Derived.Test.YtblileclefbklaaDoorKPrc6
import Derived.Laws.Strings
import Derived.Laws.BytesArg
import Derived.Shelf.Strings.Builder1
import Derived.Shelf.Strings.Builder2
import Derived.Shelf.Strings.OnBuilder
import Derived.Shelf.Strconv.Itoa0
import Derived.Shelf.Strconv.Itoa1
import Derived.Shelf.LaysM
import Derived.Shelf.Strconv.Itoa2
import Derived.Shelf.Strconv.Itoa3
import Derived.Test.YtblileclefbklaaDoorProg
import Derived.Test.YtblileclefbklaaDoorTie
import Derived.Test.YtblileclefbklaaDoorCards
import Derived.LaidMore
import Derived.OpenShut
import Derived.Lib.LaidTab
import Derived.Lib.ItoaNum

namespace Go.Proofs.YtblileclefbklaaDoor
open Go.RowKit
set_option linter.unusedVariables false
set_option linter.unusedSimpArgs false

/-- The row stands in block bL; each slice has a block of its own, that is none of those of D0. -/
structure RowsOk (D0 : Nat → Prop) (H : Heap) (bL : Nat) (T E : TypeId) (k : Nat) (ls : List (List D)) (ds : List D) : Prop where
  row : H bL = some (T, ds)
  len : ds.length = ls.length
  is : ∀ (j : Nat) (h : j < ds.length) (h2 : j < ls.length), Uni k ls[j] ∧ ((ds[j] = .nil ∧ ls[j] = []) ∨ ∃ b, ¬ D0 b ∧ b ≠ bL ∧ ds[j] = .ref b 0 ls[j].length k ∧ H b = some (E, ls[j].flatMap cellsOf))
  dist : ∀ (i j : Nat) (h1 : i < ds.length) (h2 : j < ds.length), i ≠ j → ∀ b, ds[i].blk = some b → ds[j].blk ≠ some b

theorem RowsOk.init {D0 : Nat → Prop} {H : Heap} {bL : Nat} {T E : TypeId} {k n : Nat} (h : H bL = some (T, List.replicate n .nil)) : RowsOk D0 H bL T E k (List.replicate n []) (List.replicate n .nil) :=
  ⟨h, by simp, fun j h1 h2 => by
    rw [List.getElem_replicate, List.getElem_replicate]
    exact ⟨Uni.nil k, .inl ⟨rfl, rfl⟩⟩, fun i j h1 h2 _ b hb => by rw [List.getElem_replicate] at hb; cases hb⟩

theorem RowsOk.over {D0 : Nat → Prop} {H H' : Heap} {bL : Nat} {T E : TypeId} {k : Nat} {ls : List (List D)} {ds : List D} (h : RowsOk D0 H bL T E k ls ds) (ho : Over H H') : RowsOk D0 H' bL T E k ls ds :=
  ⟨ho _ _ h.row, h.len, fun j h1 h2 => ⟨(h.is j h1 h2).1, (h.is j h1 h2).2.imp id fun ⟨b, c1, c2, c3, c4⟩ => ⟨b, c1, c2, c3, ho _ _ c4⟩⟩, h.dist⟩

theorem RowsOk.frame {D0 : Nat → Prop} {H H' : Heap} {bL : Nat} {T E : TypeId} {k : Nat} {ls : List (List D)} {ds : List D} (h : RowsOk D0 H bL T E k ls ds) (ho : ∀ c z, H c = some z → (c = bL ∨ ¬ D0 c) → H' c = some z) : RowsOk D0 H' bL T E k ls ds :=
  ⟨ho _ _ h.row (.inl rfl), h.len, fun j h1 h2 => ⟨(h.is j h1 h2).1, (h.is j h1 h2).2.imp id fun ⟨b, c1, c2, c3, c4⟩ => ⟨b, c1, c2, c3, ho _ _ c4 (.inr c1)⟩⟩, h.dist⟩

/-- A slice's own block. -/
theorem RowsOk.blk {D0 : Nat → Prop} {H : Heap} {bL : Nat} {T E : TypeId} {k : Nat} {ls : List (List D)} {ds : List D} (h : RowsOk D0 H bL T E k ls ds) {j b : Nat} (h1 : j < ds.length) (hb : ds[j].blk = some b) : ¬ D0 b ∧ b ≠ bL ∧ H b ≠ none := by
  have hlen := h.len
  rcases (h.is j h1 (by omega)).2 with ⟨c1, _⟩ | ⟨b', c1, c2, c3, c4⟩
  · rw [c1] at hb; cases hb
  · rw [c3] at hb; cases hb; exact ⟨c1, c2, by rw [c4]; simp⟩

theorem RowsOk.more {D0 : Nat → Prop} {H : Heap} {bL : Nat} {T E : TypeId} {k : Nat} {ls : List (List D)} {ds : List D} {b0 : Nat} (h : RowsOk D0 H bL T E k ls ds) (hn : H b0 = none) : RowsOk (fun c => D0 c ∨ c = b0) H bL T E k ls ds :=
  ⟨h.row, h.len, fun j h1 h2 => ⟨(h.is j h1 h2).1, (h.is j h1 h2).2.imp id fun ⟨b, c1, c2, c3, c4⟩ => ⟨b, (fun hh => hh.elim c1 fun e => by rw [e, hn] at c4; cases c4), c2, c3, c4⟩⟩, h.dist⟩

theorem RowsOk.less {D0 D1 : Nat → Prop} {H : Heap} {bL : Nat} {T E : TypeId} {k : Nat} {ls : List (List D)} {ds : List D} (h : RowsOk D1 H bL T E k ls ds) (hd : ∀ c, D0 c → D1 c) : RowsOk D0 H bL T E k ls ds :=
  ⟨h.row, h.len, fun j h1 h2 => ⟨(h.is j h1 h2).1, (h.is j h1 h2).2.imp id fun ⟨b, c1, c2, c3, c4⟩ => ⟨b, fun hh => c1 (hd b hh), c2, c3, c4⟩⟩, h.dist⟩

theorem Acc.cell {H0 H : Heap} {d : D} {k : Nat} {T : TypeId} {l : List D} (h : Acc H0 H d k T l) : cellsOf d = [d] ∧ d.isCell = true := by
  rcases h.is with ⟨rfl, _⟩ | ⟨b, _, rfl, _⟩ <;> exact ⟨rfl, rfl⟩

/-- What was there, but for a slice's own block. -/
def butBlk (H : Heap) (d : D) : Heap := fun c => if d.blk = some c then none else H c

theorem butBlk_over (H : Heap) (d : D) : Over (butBlk H d) H := fun c x h => by
  unfold butBlk at h
  split at h
  · cases h
  · exact h

theorem RowsOk.acc {D0 : Nat → Prop} {H : Heap} {bL : Nat} {T E : TypeId} {k : Nat} {ls : List (List D)} {ds : List D} (h : RowsOk D0 H bL T E k ls ds) {j : Nat} (h1 : j < ds.length) (h2 : j < ls.length) : Acc (butBlk H ds[j]) H ds[j] k E ls[j] := by
  obtain ⟨u, hi⟩ := h.is j h1 h2
  refine ⟨u, hi.imp id fun ⟨b, c1, c2, c3, c4⟩ => ⟨b, ?_, c3, c4⟩⟩
  unfold butBlk
  rw [c3]
  exact if_pos rfl

/-- A slice is put into the row. -/
theorem RowsOk.put {D0 : Nat → Prop} {H H' B : Heap} {bL : Nat} {T E : TypeId} {k : Nat} {ls : List (List D)} {ds : List D} (h : RowsOk D0 H bL T E k ls ds) (hD : ∀ c, D0 c → H c ≠ none) {a : Nat} (ha : a < ds.length) {d' : D} {l' : List D}
    (hacc : Acc B H' d' k E l') (hB : ∀ b, B b = none → H b = none ∨ ds[a].blk = some b) (hkeep : ∀ c z, H c = some z → ds[a].blk ≠ some c → H' c = some z) : RowsOk D0 (H'.set bL (T, ds.set a d')) bL T E k (ls.set a l') (ds.set a d') := by
  have hlen := h.len
  have hown : ∀ b, ds[a].blk = some b → ¬ D0 b ∧ b ≠ bL := fun b hb => by
    rcases (h.is a ha (by omega)).2 with ⟨c1, _⟩ | ⟨b', c1, c2, c3, _⟩
    · rw [c1] at hb; cases hb
    · rw [c3] at hb; cases hb; exact ⟨c1, c2⟩
  have hnew : ∀ b, d'.blk = some b → ¬ D0 b ∧ b ≠ bL ∧ ∀ (j : Nat) (hj : j < ds.length), j ≠ a → ds[j].blk ≠ some b := fun b hb => by
    have hBb : B b = none := by
      rcases hacc.is with ⟨c1, _⟩ | ⟨b', c1, c2, _⟩
      · rw [c1] at hb; cases hb
      · rw [c2] at hb; cases hb; exact c1
    rcases hB b hBb with hn | ho
    · refine ⟨fun hd => hD b hd hn, (fun he => by rw [he, h.row] at hn; cases hn), fun j hj _ hbl => ?_⟩
      rcases (h.is j hj (by omega)).2 with ⟨c1, _⟩ | ⟨b', c1, c2, c3, c4⟩
      · rw [c1] at hbl; cases hbl
      · rw [c3] at hbl; cases hbl; rw [c4] at hn; cases hn
    · exact ⟨(hown b ho).1, (hown b ho).2, fun j hj hja hbl => h.dist a j ha hj (fun e => hja e.symm) b ho hbl⟩
  refine ⟨Heap.set_self _ _ _, by simp [hlen], fun j h1 h2 => ?_, fun i j h1 h2 hij b hb => ?_⟩
  · have h1' : j < ds.length := by simpa using h1
    have h2' : j < ls.length := by simpa using h2
    rw [List.getElem_set, List.getElem_set]
    by_cases hja : a = j
    · subst hja
      rw [if_pos rfl, if_pos rfl]
      refine ⟨hacc.uni, hacc.is.imp id fun ⟨b, c1, c2, c3⟩ => ?_⟩
      have := hnew b (by rw [c2]; rfl)
      exact ⟨b, this.1, this.2.1, c2, by rw [Heap.set_other _ _ this.2.1]; exact c3⟩
    · rw [if_neg hja, if_neg hja]
      refine ⟨(h.is j h1' h2').1, (h.is j h1' h2').2.imp id fun ⟨b, c1, c2, c3, c4⟩ => ⟨b, c1, c2, c3, ?_⟩⟩
      rw [Heap.set_other _ _ c2]
      exact hkeep b _ c4 fun ho => h.dist a j ha h1' hja b ho (by rw [c3]; rfl)
  · have h1' : i < ds.length := by simpa using h1
    have h2' : j < ds.length := by simpa using h2
    rw [List.getElem_set] at hb
    rw [List.getElem_set]
    by_cases hia : a = i
    · subst hia
      rw [if_pos rfl] at hb
      rw [if_neg hij]
      exact (hnew b hb).2.2 j h2' (fun e => hij e.symm)
    · rw [if_neg hia] at hb
      by_cases hja : a = j
      · subst hja
        rw [if_pos rfl]
        exact fun hb' => (hnew b hb').2.2 i h1' (fun e => hia e.symm) hb
      · rw [if_neg hja]
        exact h.dist i j h1' h2' hij b hb

/-- The row and its slices are let go. -/
theorem RowsOk.frz {D0 : Nat → Prop} {H H1 : Heap} {bL : Nat} {T E : TypeId} {k n : Nat} {ls : List (List D)} {ds : List D} (h : RowsOk D0 H bL T E k ls ds) (hn : n = ls.length) (hL : H1 bL = none) (hb : ∀ b, ¬ D0 b → H1 b = none) : Frz H H1 (.ref bL 0 n 1) (.list 1 (ls.map (.list k))) := by
  have hu : ∀ l : List (List D), (l.map (D.list k)).flatMap cellsOf = l.map (D.list k) := fun l => flat_cells1 (fun _ => rfl) l
  refine Frz.row h.row hL (uni_map1 (fun _ => rfl) (fun _ => rfl) ls) (by simp [hn]) (by rw [hu, List.length_map]; exact h.len.symm) fun j x y hx hy => ?_
  rw [hu] at hy
  have hj : j < ds.length := (List.getElem?_eq_some_iff.1 hx).1
  have hj2 : j < ls.length := by rw [← h.len]; exact hj
  rw [List.getElem?_eq_getElem hj] at hx
  rw [List.getElem?_map, List.getElem?_eq_getElem hj2] at hy
  cases hx; cases hy
  obtain ⟨u, hi⟩ := h.is j hj hj2
  rcases hi with ⟨c1, c2⟩ | ⟨b, c1, c2, c3, c4⟩
  · rw [c1, c2]; exact .nil k
  · rw [c3]; exact Frz.list c4 (hb b c1) u rfl

/-- A heap of which no more is said than this. -/
theorem DW.asH {C : Ctx} {c : Code} {e : Env} {H : Heap} {Q : Post} (R : Heap → Prop) (hR : R H) (h : ∀ H2, R H2 → DW C c e H2 Q) : DW C c e H Q := h H hR
theorem RO.asH {C : Ctx} {ops rest : List Oper} {e : Env} {H : Heap} {K : Env → Heap → Prop} (R : Heap → Prop) (hR : R H) (h : ∀ H2, R H2 → RO C ops rest e H2 K) : RO C ops rest e H K := h H hR

end Go.Proofs.YtblileclefbklaaDoor

namespace Go.Proofs.YtblileclefbklaaDoor
open Go.RowKit
set_option linter.unusedVariables false
set_option linter.unusedSimpArgs false

abbrev strD (l : List UInt8) : D := .str ⟨l.toArray⟩

section
variable {P : Program} {H : Heap} {e : Env} {dst : Option Tmp} {ty : TypeId} {pos : String} {af : Array Edge} {gd : Option (Nat × Bool)}

theorem rep_str {w : World} {v : Value} {s : ByteArray} (h : Rep w H v (.str s)) : v = .string s := by cases h; rfl

theorem bytes_app (a b : List UInt8) : (⟨a.toArray⟩ : ByteArray) ++ ⟨b.toArray⟩ = ⟨(a ++ b).toArray⟩ := by
  apply ByteArray.ext
  simp

/-- A sum of strings. -/
theorem s_strAdd {x y : Operand} {tx t2 : TypeId} {a b : List UInt8} (hx : e.ev x = some (strD a)) (hy : e.ev y = some (strD b)) (hl : a.length + b.length ≤ 4611686018427387904) :
    Sta P H e ⟨dst, .binOp .add tx x y t2, ty, pos, af, gd⟩ (strD (a ++ b)) := .mk fun ρ w ha ho => by
  have h1 := rep_str (ha x _ hx)
  have h2 := rep_str (ha y _ hy)
  have hn : ¬ (((⟨a.toArray⟩ : ByteArray).size + (⟨b.toArray⟩ : ByteArray).size : Nat) : Int) > IntKind.i64.max := by
    have e1 : (⟨a.toArray⟩ : ByteArray).size = a.length := by simp [ByteArray.size]
    have e2 : (⟨b.toArray⟩ : ByteArray).size = b.length := by simp [ByteArray.size]
    have e3 : IntKind.i64.max = 9223372036854775807 := by decide
    rw [e1, e2, e3]
    omega
  simp only [OpTo, execOp, h1, h2, eqGuard, binOp, Op.stringOp, bind, pure, Sem.run, Sem.bind, ne_eq, not_true, if_false, Bool.not_eq_true, hn]
  exact ⟨by rw [bytes_app]; exact .str _, ho, .refl _ _⟩

/-- A comparison of strings. -/
theorem s_strEq {x y : Operand} {tx t2 : TypeId} {a b : List UInt8} (hx : e.ev x = some (strD a)) (hy : e.ev y = some (strD b)) :
    Sta P H e ⟨dst, .binOp .eql tx x y t2, ty, pos, af, gd⟩ (.bool (a == b)) := .mk fun ρ w ha ho => by
  have h1 := rep_str (ha x _ hx)
  have h2 := rep_str (ha y _ hy)
  simp only [OpTo, execOp, h1, h2, eqGuard, binOp, Op.stringOp, bind, pure, Sem.run, Sem.bind, ne_eq, not_true, if_false, Bool.not_eq_true, ByteArray.toList_mk]
  exact ⟨.bool _, ho, .refl _ _⟩

theorem s_strNe {x y : Operand} {tx t2 : TypeId} {a b : List UInt8} (hx : e.ev x = some (strD a)) (hy : e.ev y = some (strD b)) :
    Sta P H e ⟨dst, .binOp .neq tx x y t2, ty, pos, af, gd⟩ (.bool (!(a == b))) := .mk fun ρ w ha ho => by
  have h1 := rep_str (ha x _ hx)
  have h2 := rep_str (ha y _ hy)
  simp only [OpTo, execOp, h1, h2, eqGuard, binOp, Op.stringOp, bind, pure, Sem.run, Sem.bind, ne_eq, not_true, if_false, Bool.not_eq_true, ByteArray.toList_mk]
  exact ⟨.bool _, ho, .refl _ _⟩

/-- A part of a string. -/
theorem s_strCut {t : TypeId} {x lo hi : Operand} {l : List UInt8} {a b : Nat} (hu : P.underlying t = some .string) (hx : e.ev x = some (strD l)) (hlo : e.ev lo = some (I a)) (hhi : e.ev hi = some (I b)) (hab : a ≤ b) (hb : b ≤ l.length) :
    Sta P H e ⟨dst, .slice t x (some lo) (some hi) none, ty, pos, af, gd⟩ (strD ((l.take b).drop a)) := .mk fun ρ w ha ho => by
  have h1 := rep_str (ha x _ hx)
  have h2 := rep_int (ha lo _ hlo)
  have h3 := rep_int (ha hi _ hhi)
  have hs : (⟨l.toArray⟩ : ByteArray).size = l.length := by simp [ByteArray.size]
  have hr := run_slice_string (P := P) w t ⟨l.toArray⟩ .i64 .i64 (a : Int) (b : Int) hu (by omega) (by omega) (by rw [hs]; omega)
  have hr' : (Instr.sliceAt t (.string ⟨l.toArray⟩) (some (.int .i64 a)) (some (.int .i64 b)) none).run P w = .ok (.string ((⟨l.toArray⟩ : ByteArray).extract a b)) w := by
    simpa [Instr.sliceAt, run_underlying hu] using hr
  have hx2 : (⟨l.toArray⟩ : ByteArray).extract a b = ⟨((l.take b).drop a).toArray⟩ := by
    apply ByteArray.ext
    simp [ByteArray.data_extract]
    rw [List.drop_take]
  simp [OpTo, execOp, h1, h2, h3, hr']
  exact ⟨by rw [hx2]; exact .str _, ho, .refl _ _⟩

/-- A number as a byte. -/
theorem s_byte {t u : TypeId} {x : Operand} {n : Nat} (hu : P.underlying u = some (.int .u8)) (ht : P.underlying t = some (.int .i64)) (hx : e.ev x = some (I n)) (hn : n < 256) :
    Sta P H e ⟨dst, .convert t u x, ty, pos, af, gd⟩ (.int .u8 n) := .mk fun ρ w ha ho => by
  have h1 := rep_int (ha x _ hx)
  have hw : IntKind.u8.wrap (n : Int) = n := by
    simp [IntKind.wrap, IntKind.signed, IntKind.bits]
    omega
  simp [OpTo, execOp, h1, convert, run_underlying hu, run_underlying ht, Conv.intToInt, hw, Sem.run]
  exact ⟨.int _ _, ho, .refl _ _⟩

/-- A quotient. -/
theorem s_quo {x y : Operand} {tx t2 : TypeId} {a b : Int} (hx : e.ev x = some (I a)) (hy : e.ev y = some (I b)) (h0 : 0 ≤ a) (h1 : a ≤ 9223372036854775807) (hb : 0 < b) :
    Sta P H e ⟨dst, .binOp .quo tx x y t2, ty, pos, af, gd⟩ (I (a / b)) := .mk fun ρ w ha ho => by
  have h2 := rep_int (ha x _ hx)
  have h3 := rep_int (ha y _ hy)
  have hne : ¬ b = 0 := by omega
  have hr : 0 ≤ a / b ∧ a / b ≤ a := ⟨Int.ediv_nonneg h0 (by omega), Int.ediv_le_self b h0⟩
  simp only [OpTo, execOp, h2, h3, eqGuard, binOp, Op.intDiv, bind, pure, Sem.run, Sem.bind, ne_eq, not_true, if_false, hne, Bool.not_eq_true]
  rw [Int.tdiv_eq_ediv_of_nonneg h0, wrap_of_fits (by omega)]
  exact ⟨.int _ _, ho, .refl _ _⟩

/-- A text of one byte. -/
theorem s_textOne {t u E : TypeId} {x : Operand} {n : Nat} (ht : P.underlying t = some (.slice E)) (hE : P.underlying E = some (.int .u8)) (hu : P.underlying u = some .string) (hx : e.ev x = some (.list 1 [.int .u8 n])) :
    Sta P H e ⟨dst, .convert t u x, ty, pos, af, gd⟩ (strD [UInt8.ofNat n]) := .mk fun ρ w ha ho => by
  have h := ha x _ hx
  generalize hv : ρ x = v at h
  cases h with
  | list vals hc hm h1 h2 h3 =>
    rename_i ao c
    obtain ⟨b, off, rfl, hH, hw⟩ := h2 0 0 (.int .u8 n) rfl
    have hr := h3 0 0 (.int .u8 n) rfl
    rw [rep_int hr] at hw
    have hc1 := run_convert_bytes_arg (P := P) w t E ht hE b off 1 c [(n : Int)] rfl (fun i hi => by
      have : i = 0 := by omega
      subst this
      simpa using hw) u hu
    have hs : strOfNums [(n : Int)] = ⟨[UInt8.ofNat n].toArray⟩ := by simp [strOfNums]
    rw [hs] at hc1
    simp [OpTo, execOp, hv, hc1]
    exact ⟨.str _, ho, .refl _ _⟩

end

/-- Behind a call that leaves all that was there as it was. -/
theorem Ext.of_below {w w' : World} (H : Heap) (h : Below w.heap.size w w') : Ext w H w' H :=
  ⟨h.os, h.tape, h.output, h.size, fun b hb hH => ⟨hH, h.block b hb⟩, fun b cs T hc => ⟨cs, by rw [h.block b (lt_of_block hc)]; exact hc, rfl⟩⟩

/-- A call whose contract is on the world: it hands back this value and leaves all that was there as it was. -/
theorem pure_of_calls {P : Program} {f : FuncId} {ds : List D} {d : D} (hb : goBody P f) (h : ∀ (H : Heap) (w : World) (args : Array Value), HOK w H → RepsA w H args ds → Calls P f args w fun en w' => ∃ v, en = .returned v ∧ Rep w' H v d ∧ Below w.heap.size w w') : Pure P f ds d :=
  fun H => ⟨hb, fun w args ho hr => (h H w args ho hr).mono fun en w' ⟨v, h1, h2, h3⟩ => ⟨v, h1, h2, ho.ext (Ext.of_below H h3) (fun b x hx => h3.block b (ho.lt hx)), Ext.of_below H h3⟩⟩

end Go.Proofs.YtblileclefbklaaDoor

namespace Go.Proofs
open Go.Shelf
def Tryd.lays156_ren : Go.Shelf.Ren := ⟨fun | 156 => 40 | 165 => 62 | 166 => 63 | 169 => 64 | 240 => 77 | 241 => 78 | 276 => 85 | 277 => 86 | n => n, fun | 31 => 63 | 9 => 9 | 3 => 3 | 4 => 4 | 0 => 0 | 20 => 20 | 72 => 84 | 76 => 88 | 70 => 82 | 37 => 71 | 75 => 87 | 127 => 100 | 164 => 105 | 5 => 5 | 80 => 90 | n => n, fun | n => n⟩
theorem Tryd.lays156 : Go.Proofs.Lays.n156 Tryd.prog Tryd.lays156_ren := {
  mixed := by kernel_rfl
  f156 := Tryd.func40.trans (congrArg some (by kernel_rfl))
  f165 := Tryd.func62.trans (congrArg some (by kernel_rfl))
  f166 := Tryd.func63.trans (congrArg some (by kernel_rfl))
  f169 := Tryd.func64.trans (congrArg some (by kernel_rfl))
  f240 := Tryd.func77.trans (congrArg some (by kernel_rfl))
  f241 := Tryd.func78.trans (congrArg some (by kernel_rfl))
  f276 := Tryd.func85.trans (congrArg some (by kernel_rfl))
  f277 := Tryd.func86.trans (congrArg some (by kernel_rfl))
  t0 := Tryd.underlying0
  a0 := Tryd.isAgg0
  z0 := Tryd.sizeOf0
  v0 := Tryd.zeroValue0
  t3 := Tryd.underlying3
  a3 := Tryd.isAgg3
  z3 := Tryd.sizeOf3
  v3 := Tryd.zeroValue3
  t4 := Tryd.underlying4
  a4 := Tryd.isAgg4
  z4 := Tryd.sizeOf4
  v4 := Tryd.zeroValue4
  t9 := Tryd.underlying9
  a9 := Tryd.isAgg9
  z9 := Tryd.sizeOf9
  v9 := Tryd.zeroValue9
  t20 := Tryd.underlying20
  a20 := Tryd.isAgg20
  z20 := Tryd.sizeOf20
  v20 := Tryd.zeroValue20
  t31 := Tryd.underlying63
  a31 := Tryd.isAgg63
  z31 := Tryd.sizeOf63
  v31 := Tryd.zeroValue63
  t37 := Tryd.underlying71
  a37 := Tryd.isAgg71
  z37 := Tryd.sizeOf71
  v37 := Tryd.zeroValue71
  t70 := Tryd.underlying82
  a70 := Tryd.isAgg82
  z70 := Tryd.sizeOf82
  v70 := Tryd.zeroValue82
  t72 := Tryd.underlying84
  a72 := Tryd.isAgg84
  z72 := Tryd.sizeOf84
  v72 := Tryd.zeroValue84
  t75 := Tryd.underlying87
  a75 := Tryd.isAgg87
  z75 := Tryd.sizeOf87
  v75 := Tryd.zeroValue87
  t76 := Tryd.underlying88
  a76 := Tryd.isAgg88
  z76 := Tryd.sizeOf88
  v76 := Tryd.zeroValue88
  t127 := Tryd.underlying100
  a127 := Tryd.isAgg100
  z127 := Tryd.sizeOf100
  v127 := Tryd.zeroValue100
  t164 := Tryd.underlying105
  a164 := Tryd.isAgg105
  z164 := Tryd.sizeOf105
  v164 := Tryd.zeroValue105 }
theorem Tryd.Builder_Extra_156 : Builder.Extra Tryd.prog Tryd.lays156_ren := {
  sizeBuilder := by kernel_rfl
  liesBuilder := by kernel_rfl
  t5 := Tryd.underlying5
  a5 := Tryd.isAgg5
  z5 := Tryd.sizeOf5
  v5 := Tryd.zeroValue5
  infoByte := by kernel_rfl
  cellsByte := by kernel_rfl
  sizeByte := by kernel_rfl
  neB5 := by decide }
open Go.RowKit in
/-- No element: the empty string; the world is as it was. (Whatever the slice's address and capacity: a nil slice too.) (LAID: no walk: one application.) -/
theorem Tryd.strings_Join_none (a : Option Addr) (c : Nat) (sep : ByteArray) (w : World) :
    Calls Tryd.prog 40 #[.slice a 0 c, .string sep] w fun e w' => e = .returned (.string ⟨#[]⟩) ∧ w' = w := Any.strings_Join_none Tryd.lays156 Tryd.Builder_Extra_156 a c sep w
open Go.RowKit in
/-- strings.Join: "Join concatenates the elements of its first argument to create a single string. The separator string sep is placed between elements in the resulting string.": HOWEVER MANY ELEMENTS. Below the heap's end the world is as it was. (LAID: no walk: one application.) -/
theorem Tryd.strings_Join (bk o c : Nat) (xs : List ByteArray) (sep : ByteArray) (w : World) (hcells : ∀ (j : Nat) x, xs[j]? = some x → w.cell? ⟨bk, o + j, none⟩ = some (.string x)) (hbk : bk < w.heap.size) (hN : xs.length ≤ 140737488355328) (hcap : xs.length ≤ c) (hlen : (Lib.join (xs.map (·.data.toList)) sep.data.toList).length ≤ 140737488355328) :
    Calls Tryd.prog 40 #[.slice (some ⟨bk, o, none⟩) xs.length c, .string sep] w fun e w' => e = .returned (.string ⟨(Lib.join (xs.map (·.data.toList)) sep.data.toList).toArray⟩) ∧ Below w.heap.size w w' := Any.strings_Join Tryd.lays156 Tryd.Builder_Extra_156 bk o c xs sep w hcells hbk hN hcap hlen
def Tryd.laysM171_ren : Go.Shelf.Ren := ⟨fun | 171 => 61 | 243 => 76 | 246 => 84 | 283 => 88 | 284 => 89 | 285 => 90 | 286 => 91 | 129 => 93 | 317 => 92 | 318 => 94 | 319 => 95 | 320 => 96 | 337 => 97 | 338 => 98 | n => n, fun | 3 => 3 | 9 => 9 | 2 => 2 | 4 => 4 | 171 => 108 | 0 => 0 | 53 => 109 | 37 => 71 | 5 => 5 | 173 => 112 | 212 => 116 | 51 => 117 | 20 => 20 | 213 => 118 | 46 => 101 | 232 => 121 | 233 => 122 | n => n, fun | 17 => 1 | 18 => 2 | 19 => 3 | n => n⟩
theorem Tryd.laysM171 : Go.Proofs.LaysM.n171 Tryd.prog Tryd.laysM171_ren := {
  mixed := by kernel_rfl
  f129 := Tryd.func93.trans (congrArg some (by kernel_rfl))
  f171 := Tryd.func61.trans (congrArg some (by kernel_rfl))
  f243 := Tryd.func76.trans (congrArg some (by kernel_rfl))
  f246 := Tryd.func84.trans (congrArg some (by kernel_rfl))
  f283 := Tryd.func88.trans (congrArg some (by kernel_rfl))
  f284 := Tryd.func89.trans (congrArg some (by kernel_rfl))
  f285 := Tryd.func90.trans (congrArg some (by kernel_rfl))
  f286 := Tryd.func91.trans (congrArg some (by kernel_rfl))
  f317 := Tryd.func92.trans (congrArg some (by kernel_rfl))
  f318 := Tryd.func94.trans (congrArg some (by kernel_rfl))
  f319 := Tryd.func95.trans (congrArg some (by kernel_rfl))
  f320 := Tryd.func96.trans (congrArg some (by kernel_rfl))
  f337 := Tryd.func97.trans (congrArg some (by kernel_rfl))
  f338 := Tryd.func98.trans (congrArg some (by kernel_rfl))
  t0 := Tryd.underlying0
  a0 := Tryd.isAgg0
  z0 := Tryd.sizeOf0
  v0 := Tryd.zeroValue0
  t2 := Tryd.underlying2
  a2 := Tryd.isAgg2
  z2 := Tryd.sizeOf2
  v2 := Tryd.zeroValue2
  t3 := Tryd.underlying3
  a3 := Tryd.isAgg3
  z3 := Tryd.sizeOf3
  v3 := Tryd.zeroValue3
  t4 := Tryd.underlying4
  a4 := Tryd.isAgg4
  z4 := Tryd.sizeOf4
  v4 := Tryd.zeroValue4
  t5 := Tryd.underlying5
  a5 := Tryd.isAgg5
  z5 := Tryd.sizeOf5
  v5 := Tryd.zeroValue5
  t9 := Tryd.underlying9
  a9 := Tryd.isAgg9
  z9 := Tryd.sizeOf9
  v9 := Tryd.zeroValue9
  t20 := Tryd.underlying20
  a20 := Tryd.isAgg20
  z20 := Tryd.sizeOf20
  v20 := Tryd.zeroValue20
  t37 := Tryd.underlying71
  a37 := Tryd.isAgg71
  z37 := Tryd.sizeOf71
  v37 := Tryd.zeroValue71
  t46 := Tryd.underlying101
  a46 := Tryd.isAgg101
  z46 := Tryd.sizeOf101
  v46 := Tryd.zeroValue101
  t51 := Tryd.underlying117
  a51 := Tryd.isAgg117
  z51 := Tryd.sizeOf117
  v51 := Tryd.zeroValue117
  t53 := Tryd.underlying109
  a53 := Tryd.isAgg109
  z53 := Tryd.sizeOf109
  v53 := Tryd.zeroValue109
  t171 := Tryd.underlying108
  a171 := Tryd.isAgg108
  z171 := Tryd.sizeOf108
  v171 := Tryd.zeroValue108
  t173 := Tryd.underlying112
  a173 := Tryd.isAgg112
  z173 := Tryd.sizeOf112
  v173 := Tryd.zeroValue112
  t212 := Tryd.underlying116
  a212 := Tryd.isAgg116
  z212 := Tryd.sizeOf116
  v212 := Tryd.zeroValue116
  t213 := Tryd.underlying118
  a213 := Tryd.isAgg118
  z213 := Tryd.sizeOf118
  t232 := Tryd.underlying121
  a232 := Tryd.isAgg121
  z232 := Tryd.sizeOf121
  v232 := Tryd.zeroValue121
  t233 := Tryd.underlying122
  a233 := Tryd.isAgg122
  z233 := Tryd.sizeOf122
  v233 := Tryd.zeroValue122
  g17 := by kernel_rfl
  g18 := by kernel_rfl
  g19 := by kernel_rfl
  i0 := by kernel_rfl
  i2 := by kernel_rfl
  i3 := by kernel_rfl
  i4 := by kernel_rfl
  i5 := by kernel_rfl
  i9 := by kernel_rfl
  i20 := by kernel_rfl
  i37 := by kernel_rfl
  i46 := by kernel_rfl
  i51 := by kernel_rfl
  i53 := by kernel_rfl
  i171 := by kernel_rfl
  i173 := by kernel_rfl
  i212 := by kernel_rfl
  i232 := by kernel_rfl
  i233 := by kernel_rfl
  m17 := by kernel_rfl
  m18 := by kernel_rfl
  m19 := by kernel_rfl }
open Go.RowKit Go.Sort Go.Lib in
/-- strconv.Itoa: "Itoa is equivalent to FormatInt(int64(i), 10).": i's DECIMAL NUMERAL ('Lib.itoa': a '-' where i is negative, then the digits), FOR EVERY int. The world behind the call: the world before it, new blocks behind the heap (the library's 'var a [24]byte'), draws. (LAID: no walk: one application.) -/
theorem Tryd.strconv_Itoa (n : Int) (h0 : -9223372036854775808 ≤ n) (h1 : n ≤ 9223372036854775807) (w : World) (htab : Lib.TabIs Tryd.prog w "internal/strconv.uint64pow10" .u64 Lib.pow10Tab) :
    Calls Tryd.prog 61 #[.int .i64 n] w fun e w' => e = .returned (.string ⟨(Lib.itoa n).toArray⟩) ∧ ∃ k os, w' = grow (w.drewN k) os := Any.strconv_Itoa Tryd.laysM171 n h0 h1 w htab
def Tryd.lays171_ren : Go.Shelf.Ren := ⟨fun | 171 => 61 | 243 => 76 | 246 => 84 | 283 => 88 | 284 => 89 | 285 => 90 | 286 => 91 | 129 => 93 | 317 => 92 | 318 => 94 | 319 => 95 | 320 => 96 | 337 => 97 | 338 => 98 | n => n, fun | 3 => 3 | 9 => 9 | 2 => 2 | 4 => 4 | 171 => 108 | 0 => 0 | 53 => 109 | 37 => 71 | 5 => 5 | 173 => 112 | 212 => 116 | 51 => 117 | 20 => 20 | 213 => 118 | 46 => 101 | 232 => 121 | 233 => 122 | n => n, fun | 17 => 1 | 18 => 2 | 19 => 3 | n => n⟩
theorem Tryd.lays171 : Go.Proofs.Lays.n171 Tryd.prog Tryd.lays171_ren := {
  mixed := by kernel_rfl
  f129 := Tryd.func93.trans (congrArg some (by kernel_rfl))
  f171 := Tryd.func61.trans (congrArg some (by kernel_rfl))
  f243 := Tryd.func76.trans (congrArg some (by kernel_rfl))
  f246 := Tryd.func84.trans (congrArg some (by kernel_rfl))
  f283 := Tryd.func88.trans (congrArg some (by kernel_rfl))
  f284 := Tryd.func89.trans (congrArg some (by kernel_rfl))
  f285 := Tryd.func90.trans (congrArg some (by kernel_rfl))
  f286 := Tryd.func91.trans (congrArg some (by kernel_rfl))
  f317 := Tryd.func92.trans (congrArg some (by kernel_rfl))
  f318 := Tryd.func94.trans (congrArg some (by kernel_rfl))
  f319 := Tryd.func95.trans (congrArg some (by kernel_rfl))
  f320 := Tryd.func96.trans (congrArg some (by kernel_rfl))
  f337 := Tryd.func97.trans (congrArg some (by kernel_rfl))
  f338 := Tryd.func98.trans (congrArg some (by kernel_rfl))
  t0 := Tryd.underlying0
  a0 := Tryd.isAgg0
  z0 := Tryd.sizeOf0
  v0 := Tryd.zeroValue0
  t2 := Tryd.underlying2
  a2 := Tryd.isAgg2
  z2 := Tryd.sizeOf2
  v2 := Tryd.zeroValue2
  t3 := Tryd.underlying3
  a3 := Tryd.isAgg3
  z3 := Tryd.sizeOf3
  v3 := Tryd.zeroValue3
  t4 := Tryd.underlying4
  a4 := Tryd.isAgg4
  z4 := Tryd.sizeOf4
  v4 := Tryd.zeroValue4
  t5 := Tryd.underlying5
  a5 := Tryd.isAgg5
  z5 := Tryd.sizeOf5
  v5 := Tryd.zeroValue5
  t9 := Tryd.underlying9
  a9 := Tryd.isAgg9
  z9 := Tryd.sizeOf9
  v9 := Tryd.zeroValue9
  t20 := Tryd.underlying20
  a20 := Tryd.isAgg20
  z20 := Tryd.sizeOf20
  v20 := Tryd.zeroValue20
  t37 := Tryd.underlying71
  a37 := Tryd.isAgg71
  z37 := Tryd.sizeOf71
  v37 := Tryd.zeroValue71
  t46 := Tryd.underlying101
  a46 := Tryd.isAgg101
  z46 := Tryd.sizeOf101
  v46 := Tryd.zeroValue101
  t51 := Tryd.underlying117
  a51 := Tryd.isAgg117
  z51 := Tryd.sizeOf117
  v51 := Tryd.zeroValue117
  t53 := Tryd.underlying109
  a53 := Tryd.isAgg109
  z53 := Tryd.sizeOf109
  v53 := Tryd.zeroValue109
  t171 := Tryd.underlying108
  a171 := Tryd.isAgg108
  z171 := Tryd.sizeOf108
  v171 := Tryd.zeroValue108
  t173 := Tryd.underlying112
  a173 := Tryd.isAgg112
  z173 := Tryd.sizeOf112
  v173 := Tryd.zeroValue112
  t212 := Tryd.underlying116
  a212 := Tryd.isAgg116
  z212 := Tryd.sizeOf116
  v212 := Tryd.zeroValue116
  t213 := Tryd.underlying118
  a213 := Tryd.isAgg118
  z213 := Tryd.sizeOf118
  t232 := Tryd.underlying121
  a232 := Tryd.isAgg121
  z232 := Tryd.sizeOf121
  v232 := Tryd.zeroValue121
  t233 := Tryd.underlying122
  a233 := Tryd.isAgg122
  z233 := Tryd.sizeOf122
  v233 := Tryd.zeroValue122
  g17 := by kernel_rfl
  g18 := by kernel_rfl
  g19 := by kernel_rfl }
open Go.RowKit Go.Sort Go.Lib in
/-- THE ROAD WITHOUT THE TABLE: 0 <= i < 100: NO PREMISE ON THE WORLD, AND THE WORLD IS AS IT WAS: a row that keeps its argument in that range need list no table ('laid = []'). (LAID: no walk: one application.) -/
theorem Tryd.strconv_Itoa_small (i : Nat) (hi : i < 100) (w : World) :
    Calls Tryd.prog 61 #[.int .i64 i] w fun e w' => e = .returned (.string ⟨(Lib.decDigits i).toArray⟩) ∧ w' = w := Any.strconv_Itoa_small Tryd.lays171 i hi w
end Go.Proofs

namespace Go.Proofs.YtblileclefbklaaDoor
open Go.RowKit
set_option linter.unusedVariables false
set_option linter.unusedSimpArgs false

theorem Tryd.powNamed : Tryd.prog.globalNamed "internal/strconv.uint64pow10" = some 1 := by kernel_rfl

theorem tabIs_of {w : World} {H : Heap} (ho : HOK w H) : Lib.TabIs Tryd.prog w "internal/strconv.uint64pow10" .u64 Lib.pow10Tab := by
  obtain ⟨_, T, h⟩ := ho.inv 1 _ rfl
  unfold Lib.TabIs World.var?
  rw [Tryd.powNamed]
  simp only [Option.bind_some, h]
  rfl

/-- A number's text. -/
theorem Tryd.Itoa_pure {n : Int} (h0 : -9223372036854775808 ≤ n) (h1 : n ≤ 9223372036854775807) : Pure Tryd.prog 61 [I n] (strD (Lib.itoa n)) :=
  pure_of_calls ⟨_, Tryd.func61, rfl, rfl⟩ fun H w args ho hr => by
    obtain ⟨hs, hv⟩ := hr
    obtain ⟨v, hv0, hrep⟩ := hv 0 _ rfl
    have hv' := rep_int hrep
    subst hv'
    obtain rfl : args = #[.int .i64 n] := by
      apply Array.ext_getElem?
      intro j
      cases j with
      | zero => rw [hv0]; rfl
      | succ j => rw [Array.getElem?_eq_none (by rw [hs]; simp), Array.getElem?_eq_none (by simp)]
    refine (Tryd.strconv_Itoa n h0 h1 w (tabIs_of ho)).mono ?_
    rintro e w' ⟨rfl, k, os, rfl⟩
    exact ⟨_, rfl, .str _, ⟨rfl, rfl, rfl, by simp [Sort.grow], fun j hj => by simp [Sort.grow, Array.getElem?_append, hj, World.drewN]⟩⟩

/-- A list of texts, joined. -/
theorem Tryd.Join_pure (xs : List (List UInt8)) (sep : List UInt8) (hN : xs.length ≤ 140737488355328) (hlen : (Lib.join xs sep).length ≤ 140737488355328) :
    Pure Tryd.prog 40 [.list 1 (xs.map strD), strD sep] (strD (Lib.join xs sep)) :=
  pure_of_calls ⟨_, Tryd.func40, rfl, rfl⟩ fun H w args ho hr => by
    obtain ⟨hs, hv⟩ := hr
    obtain ⟨v0, hv0, hrep0⟩ := hv 0 _ rfl
    obtain ⟨v1, hv1, hrep1⟩ := hv 1 _ rfl
    have hv1' := rep_str hrep1
    subst hv1'
    obtain rfl : args = #[v0, .string ⟨sep.toArray⟩] := by
      apply Array.ext_getElem?
      intro j
      match j with
      | 0 => rw [hv0]; rfl
      | 1 => rw [hv1]; rfl
      | j + 2 => rw [Array.getElem?_eq_none (by rw [hs]; simp), Array.getElem?_eq_none (by simp)]
    generalize hl : xs.map strD = l at hrep0
    have hll : l.length = xs.length := by rw [← hl]; simp
    cases hrep0 with
    | list vals hc hm h1 h2 h3 =>
      rename_i a c
      by_cases hx : xs = []
      · subst hx
        subst hl
        refine (Tryd.strings_Join_none a c _ w).mono ?_
        rintro e w' ⟨rfl, rfl⟩
        exact ⟨_, rfl, .str _, Below.refl _ _⟩
      · have hcell : ∀ j (hj : j < xs.length), cellAt l j 0 = some (strD xs[j]) := fun j hj => by
          rw [← hl]
          exact cellAt_map1 (fun _ => rfl) hj
        have hpos : 0 < xs.length := List.length_pos_iff.2 hx
        obtain ⟨b, off, rfl, hH, hw⟩ := h2 0 0 _ (hcell 0 hpos)
        rw [hll]
        have hmap : (xs.map fun x => (⟨x.toArray⟩ : ByteArray)).map (·.data.toList) = xs := by
          rw [List.map_map]
          exact List.map_id' _
        have hgo := Tryd.strings_Join b off c (xs.map fun x => (⟨x.toArray⟩ : ByteArray)) ⟨sep.toArray⟩ w (fun j x hj => by
            have hjl : j < xs.length := by
              have := (List.getElem?_eq_some_iff.1 hj).1
              simpa using this
            obtain ⟨b', off', ha, _, hw'⟩ := h2 j 0 _ (hcell j hjl)
            cases ha
            rw [rep_str (h3 j 0 _ (hcell j hjl))] at hw'
            simp [hjl] at hj
            subst hj
            simpa using hw') (World.block_lt_of_cell? w ⟨b, _, none⟩ hw) (by simpa using hN) (by simpa [hll] using hc) (by rw [hmap]; exact hlen)
        rw [hmap, List.length_map] at hgo
        refine hgo.mono ?_
        rintro e w' ⟨rfl, hb⟩
        exact ⟨_, rfl, .str _, hb⟩

end Go.Proofs.YtblileclefbklaaDoor

namespace Go.Proofs.YtblileclefbklaaDoor
open Go.RowKit Go.ChangeShapes Go.WideShapes Go.ChangeAt
set_option linter.unusedVariables false
set_option linter.unusedSimpArgs false

theorem Tryd.ownK : ownKnob Tryd.prog.godebug = none := by kernel_rfl
theorem Tryd.laidOutK : laidOutB Tryd.prog = true := by kernel_rfl

/-- An argument that is one cell. -/
theorem arg_cell {α : Type} {P : Program} {t : TypeId} {f : α → D} {Q : α → Prop} (ho : Opens P t 1 f Q) (hf : ∀ a, cellsOf (f a) = [f a]) {H : Type} {enc : TypeId × Value → H} {W : World} {v : Value} {d : DataW H} {p : List MemPlace} (hv : v.cells = #[v])
    (h : DataW.Trod enc P W 0 (fun _ => true) true t v d p) (hw : (d.weights P t).all (· ≤ reachBytes) = true) : ∃ a, Rep W noHeap v (f a) ∧ Q a := by
  obtain ⟨fuel, hf'⟩ := h
  obtain ⟨a, _, hr, hq⟩ := ho H enc W fuel _ d p hf' hw
  rw [hv, hf] at hr
  obtain ⟨u, hu, hrep⟩ := hr.2 0 (f a) rfl
  simp at hu
  subst hu
  exact ⟨a, hrep, hq⟩

/-- An argument that is a struct. -/
theorem arg_agg {α : Type} {P : Program} {t : TypeId} {k : Nat} {f : α → D} {Q : α → Prop} (ho : Opens P t k f Q) (hf : ∀ a, f a = .agg (cellsOf (f a))) {H : Type} {enc : TypeId × Value → H} {W : World} {cs : Array Value} {d : DataW H} {p : List MemPlace}
    (h : DataW.Trod enc P W 0 (fun _ => true) true t (.agg cs) d p) (hw : (d.weights P t).all (· ≤ reachBytes) = true) : ∃ a, Rep W noHeap (.agg cs) (f a) ∧ Q a := by
  obtain ⟨fuel, hf'⟩ := h
  obtain ⟨a, _, hr, hq⟩ := ho H enc W fuel _ d p hf' hw
  refine ⟨a, ?_, hq⟩
  rw [hf a]
  have : (Value.agg cs).cells.toList.toArray = cs := by simp [Value.cells]
  rw [this] at hr
  exact hr.agg

theorem slice_cells (a : Option Addr) (n c : Nat) : (Value.slice a n c).cells = #[.slice a n c] := rfl
theorem int_cells (k : IntKind) (n : Int) : (Value.int k n).cells = #[.int k n] := rfl

/-- The arguments, one after the other. -/
inductive ArgsAre (W : World) : List Value → List D → Prop
  | nil : ArgsAre W [] []
  | cons {v : Value} {d : D} {vs : List Value} {ds : List D} (h : Rep W noHeap v d) (r : ArgsAre W vs ds) : ArgsAre W (v :: vs) (d :: ds)

theorem ArgsAre.reps {W : World} : ∀ {vs : List Value} {ds : List D}, ArgsAre W vs ds → RepsA W noHeap vs.toArray ds
  | _, _, .nil => ⟨rfl, fun j x h => by simp at h⟩
  | _, _, .cons h r => by
    have ih := r.reps
    refine ⟨by simpa using ih.1, fun j x hx => ?_⟩
    cases j with
    | zero => simp at hx; subst hx; exact ⟨_, by simp, h⟩
    | succ j =>
      obtain ⟨u, hu, hr⟩ := ih.2 j x (by simpa using hx)
      exact ⟨u, by simpa using hu, hr⟩

theorem weights_head {H : Type} {P : Program} {t : TypeId} {ts : List TypeId} {d : DataW H} {ds : List (DataW H)} (h : (DataW.weightsEach P (t :: ts) (d :: ds)).all (· ≤ reachBytes) = true) : (d.weights P t).all (· ≤ reachBytes) = true ∧ (DataW.weightsEach P ts ds).all (· ≤ reachBytes) = true := by
  simpa only [DataW.weightsEach, List.all_append, Bool.and_eq_true] using h

theorem Tryd.opensInt : Opens Tryd.prog 3 1 I fitsInt := opens_int Tryd.underlying3
theorem Tryd.opensInts : Opens Tryd.prog 36 1 intsD (fun l => (∀ a ∈ l, fitsInt a) ∧ l.length * Tryd.prog.bytesOf 3 ≤ reachBytes) := opens_slice Tryd.underlying36 (by kernel_rfl) (by decide) (fun _ => rfl) (opens_int Tryd.underlying3)
theorem Tryd.opensRows : Opens Tryd.prog 75 1 intssD (fun l => (∀ a ∈ l, (∀ x ∈ a, fitsInt x) ∧ a.length * Tryd.prog.bytesOf 3 ≤ reachBytes) ∧ l.length * Tryd.prog.bytesOf 36 ≤ reachBytes) := opens_slice Tryd.underlying75 (by kernel_rfl) (by decide) (fun _ => rfl) Tryd.opensInts
theorem Tryd.opensRing : Opens Tryd.prog 23 4 rgD (fun r => fitsInt r.p ∧ fitsInt r.n ∧ fitsInt r.order ∧ fitsInt r.over) := opens_ring Tryd.underlying23 (by kernel_rfl) Tryd.underlying3 (by kernel_rfl) ⟨rfl, rfl⟩ ⟨rfl, rfl⟩ ⟨rfl, rfl⟩ ⟨rfl, rfl⟩

theorem len_le {n b : Nat} (h : n * b ≤ reachBytes) (hb : 8 ≤ b) : n ≤ 17592186044416 := by
  have h1 : n * 8 ≤ n * b := Nat.mul_le_mul_left _ hb
  unfold reachBytes at h
  omega

theorem Tryd.bytes_int : 8 ≤ Tryd.prog.bytesOf 3 := of_decide_eq_true (by kernel_rfl)
theorem Tryd.bytes_ints : 8 ≤ Tryd.prog.bytesOf 36 := of_decide_eq_true (by kernel_rfl)


/-- What a pure law that says true comes to. -/
theorem law_calls {P : Program} {f : FuncId} {ds : List D} (hp : Pure P f ds (.bool true)) {W : World} (hi : TabsOk W noHeap) {args : Array Value} (ha : ArgsAre W args.toList ds) : Calls P f args W fun e W' => e = .returned (.bool true) ∧ Below W.heap.size W W' := by
  have hr := ha.reps
  rw [Array.toArray_toList] at hr
  refine ((hp noHeap).calls W args (hok_none W hi) hr).mono fun e W' ⟨v, he, hv, _, hx⟩ => ⟨?_, ext_below hx⟩
  rw [he, rep_bool hv]

end Go.Proofs.YtblileclefbklaaDoor

namespace Go.Proofs.YtblileclefbklaaDoor
open Go.RowKit Go.ChangeShapes Go.WideShapes Go.ChangeAt
set_option linter.unusedVariables false
set_option linter.unusedSimpArgs false

theorem opens_two {α β γ : Type} {P : Program} {t t0 t1 : TypeId} {f0 f1 : Field} {f : γ → D} {g0 : α → D} {g1 : β → D} {Q0 : α → Prop} {Q1 : β → Prop} (mk : α → β → γ) (hu : P.underlying t = some (.struct #[f0, f1])) (hc : P.cellsOf t = 2)
    (hc0 : P.cellsOf t0 = 1) (hc1 : P.cellsOf t1 = 1) (h0 : f0.type = t0 ∧ f0.offset = 0) (h1 : f1.type = t1 ∧ f1.offset = 1) (hf : ∀ a b, cellsOf (f (mk a b)) = [g0 a, g1 b]) (hg0 : ∀ a, cellsOf (g0 a) = [g0 a]) (hg1 : ∀ a, cellsOf (g1 a) = [g1 a])
    (ho0 : Opens P t0 1 g0 Q0) (ho1 : Opens P t1 1 g1 Q1) : Opens P t 2 f (fun c => ∃ a b, c = mk a b ∧ Q0 a ∧ Q1 b) := by
  intro H enc W fuel cs d ps h hw
  cases fuel with
  | zero => simp [DataW.trod] at h
  | succ fuel =>
    unfold DataW.trod at h
    rw [hu] at h
    split at h <;> try (simp at *; done)
    rename_i cs _ _ fs h1'
    cases h1'
    split at h
    · rename_i hlen
      rw [hc] at hlen
      match cs, hlen with
      | [c0, c1], _ =>
        simp only [List.mapM_cons, List.mapM_nil, h0.1, h0.2, h1.1, h1.2, hc0, hc1, List.drop, List.take] at h
        cases e0 : DataW.trod enc P W 0 (fun _ => true) true fuel t0 [c0] with
        | none => simp [e0] at h
        | some y0 =>
          cases e1 : DataW.trod enc P W 0 (fun _ => true) true fuel t1 [c1] with
          | none => simp [e0, e1] at h
          | some y1 =>
            simp [e0, e1] at h
            obtain ⟨rfl, _⟩ := h
            obtain ⟨d0, p0⟩ := y0
            obtain ⟨d1, p1⟩ := y1
            simp only [DataW.weights, hu, List.map_cons, List.map_nil, DataW.weightsEach, h0.1, h1.1, List.append_nil, List.all_append, Bool.and_eq_true] at hw
            obtain ⟨a, ha1, ha2, ha3⟩ := ho0 H enc W fuel [c0] d0 p0 e0 hw.1
            obtain ⟨b, hb1, hb2, hb3⟩ := ho1 H enc W fuel [c1] d1 p1 e1 hw.2
            rw [hg0] at ha2
            rw [hg1] at hb2
            refine ⟨mk a b, by rw [hf]; rfl, ?_, a, b, rfl, ha3, hb3⟩
            rw [hf]
            refine ⟨rfl, fun j x hx => ?_⟩
            match j, hx with
            | 0, hx =>
              cases hx
              obtain ⟨v, hv, hr⟩ := ha2.2 0 (g0 a) rfl
              simp at hv
              subst hv
              exact ⟨_, rfl, hr⟩
            | 1, hx =>
              cases hx
              obtain ⟨v, hv, hr⟩ := hb2.2 0 (g1 b) rfl
              simp at hv
              subst hv
              exact ⟨_, rfl, hr⟩
            | j + 2, hx => simp at hx
    · cases h

/-- What is known of a term that is handed in. -/
def TmIn (P : Program) (ti : TypeId) (t : Tm) : Prop := ∃ a b, t = ⟨a, b⟩ ∧ fitsInt a ∧ ((∀ x ∈ b, fitsInt x) ∧ b.length * P.bytesOf ti ≤ reachBytes)

theorem Tryd.opensTerm : Opens Tryd.prog 54 2 tmD (TmIn Tryd.prog 3) := opens_two (fun c e => (⟨c, e⟩ : Tm)) Tryd.underlying54 (by kernel_rfl) (by kernel_rfl) (by kernel_rfl) ⟨rfl, rfl⟩ ⟨rfl, rfl⟩ (fun _ _ => rfl) (fun _ => rfl) (fun _ => rfl) Tryd.opensInt Tryd.opensInts

theorem Tryd.opensPoly : Opens Tryd.prog 25 1 plD (fun l => (∀ a ∈ l, TmIn Tryd.prog 3 a) ∧ l.length * Tryd.prog.bytesOf 54 ≤ reachBytes) := opens_slice Tryd.underlying25 (by kernel_rfl) (by decide) (fun _ => rfl) Tryd.opensTerm

theorem Tryd.opensTerms : Opens Tryd.prog 24 1 plD (fun l => (∀ a ∈ l, TmIn Tryd.prog 3 a) ∧ l.length * Tryd.prog.bytesOf 54 ≤ reachBytes) := opens_slice Tryd.underlying24 (by kernel_rfl) (by decide) (fun _ => rfl) Tryd.opensTerm

theorem Tryd.opensPolys : Opens Tryd.prog 30 1 vcD (fun l => (∀ f ∈ l, (∀ a ∈ f, TmIn Tryd.prog 3 a) ∧ f.length * Tryd.prog.bytesOf 54 ≤ reachBytes) ∧ l.length * Tryd.prog.bytesOf 25 ≤ reachBytes) := opens_slice Tryd.underlying30 (by kernel_rfl) (by decide) (fun _ => rfl) Tryd.opensPoly



theorem Tryd.bytes_term : 8 ≤ Tryd.prog.bytesOf 54 := of_decide_eq_true (by kernel_rfl)
theorem Tryd.bytes_poly : 8 ≤ Tryd.prog.bytesOf 25 := of_decide_eq_true (by kernel_rfl)

end Go.Proofs.YtblileclefbklaaDoor

namespace Go.Proofs.YtblileclefbklaaDoor
open Go.RowKit
set_option linter.unusedVariables false

theorem plLe {f : Pl} (b : (∀ a ∈ f, TmIn Tryd.prog 3 a) ∧ f.length * Tryd.prog.bytesOf 54 ≤ reachBytes) : f.length ≤ 4611686018427387904 := by have := len_le b.2 Tryd.bytes_term; omega

theorem vcLe {v : Vc} (b : (∀ f ∈ v, (∀ a ∈ f, TmIn Tryd.prog 3 a) ∧ f.length * Tryd.prog.bytesOf 54 ≤ reachBytes) ∧ v.length * Tryd.prog.bytesOf 25 ≤ reachBytes) :
    v.length ≤ 4611686018427387904 ∧ ∀ f ∈ v, f.length ≤ 4611686018427387904 := ⟨by have := len_le b.2 Tryd.bytes_poly; omega, fun f hf => plLe (b.1 f hf)⟩

end Go.Proofs.YtblileclefbklaaDoor

namespace Go.Proofs.YtblileclefbklaaDoor
open Go.RowKit Go.ChangeShapes Go.WideShapes Go.ChangeAt
set_option linter.unusedVariables false
set_option linter.unusedSimpArgs false

abbrev Tryd.laidL : List (String × DataW Unit) := [("math/bits.deBruijn32tab", Rows.laid_math_bits_deBruijn32tab), ("math/bits.deBruijn64tab", Rows.laid_math_bits_deBruijn64tab), ("internal/strconv.uint64pow10", Rows.laid_internal_strconv_uint64pow10)]

set_option maxRecDepth 100000 in
theorem Tryd.door_met (os : Os) (args : Array Value) : laidMetH Tryd.prog Tryd.laidL ((World.doorLaid Tryd.prog 24 os).forCall (fun _ _ => 0) ⟨#[], args, []⟩).memory :=
  laidMetH_of_parts3 (fuel := 8) (laidMet_of_run' 8 (by kernel_rfl) (by kernel_rfl)) (by kernel_rfl) (by kernel_rfl)

theorem Tryd.gPow : Tryd.prog.globalNamed "internal/strconv.uint64pow10" = some 1 := by kernel_rfl
theorem Tryd.tPow : (Tryd.prog.globals[1]?).map (·.type) = some 116 := by kernel_rfl

theorem Tryd.tabs_of_laid {W : World} (h : laidMetH Tryd.prog Tryd.laidL W) : TabsOk W noHeap := by
  rw [MakeChecks.laidMetH_plain _ _ _ (by kernel_rfl)] at h
  obtain ⟨ps, ⟨g0, t0, cs0, f0, p0, q0, hg0, ht0, hv0, hd0, ⟨g1, t1, cs1, f1, p1, q1, hg1, ht1, hv1, hd1, ⟨g2, t2, cs2, f2, p2, q2, hg2, ht2, hv2, hd2, _, hq2⟩, hq1⟩, hq0⟩, _, hall⟩ := h
  obtain rfl := Option.some.inj (Tryd.gPow.symm.trans hg2)
  obtain rfl := Option.some.inj (Tryd.tPow.symm.trans ht2)
  have hcs := Lib.cells_of_tab (k := .u64) (zs := Lib.pow10Tab) Tryd.underlying116 Tryd.underlying109 (by kernel_rfl) (by kernel_rfl) hd2
  intro g cs hg
  unfold tabs at hg
  split at hg
  · rename_i hgg
    subst hgg
    cases hg
    refine ⟨rfl, ?_⟩
    have hsz : cs2.size = 20 := by
      have := congrArg List.length hcs
      simpa [Lib.pow10Tab] using this
    have hmem : MemPlace.cell 1 0 ∈ ps := by
      rw [hq0, hq1, hq2]
      have : MemPlace.cell 1 0 ∈ MemPlace.row ⟨1, 0, none⟩ cs2.size := by
        rw [hsz]
        simp [MemPlace.row]
      simp [this]
    obtain ⟨⟨c, t, hc⟩, _⟩ := hall _ _ hmem
    refine ⟨t, ?_⟩
    rw [hc]
    have : c = cs2 := by
      simp only [World.var?, Tryd.gPow, Option.bind_some, hc] at hv2
      exact Option.some.inj hv2
    rw [this]
    have : cs2 = (Lib.pow10Tab.map fun z => Value.int .u64 z).toArray := by
      rw [← hcs]
    rw [this]
    rfl
  · cases hg

end Go.Proofs.YtblileclefbklaaDoor
