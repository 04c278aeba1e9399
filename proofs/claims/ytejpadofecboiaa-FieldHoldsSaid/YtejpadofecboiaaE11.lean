/-
  The rules once more, with the facts on types found by instances; the data of the program as trees. No condition.
-/
import Derived.Test.YtejpadofecboiaaE10
namespace Go.Proofs.Ytejpadofecboiaa
open Go.RowKit
set_option linter.unusedVariables false
set_option linter.unusedSimpArgs false

class SliceT (P : Program) (t : TypeId) (E : outParam TypeId) : Prop where
  h : P.underlying t = some (.slice E)
class ElT (P : Program) (E : TypeId) (k : outParam Nat) (zd : outParam (List D)) (bytes : outParam Nat) : Prop where
  z : ZeroOf P E k zd
  pos : 0 < k
  b : ∀ inf, P.info? E = some inf → inf.bytes = bytes
class CellT (P : Program) (t : TypeId) : Prop where
  h : ∃ td, P.underlying t = some td ∧ aggD td = false
class AggT (P : Program) (t : TypeId) (k : outParam Nat) : Prop where
  h : ∃ td inf, P.underlying t = some td ∧ aggD td = true ∧ P.info? t = some inf ∧ inf.size = k
class FieldT (P : Program) (t : TypeId) (f : Nat) (o : outParam Nat) : Prop where
  h : fieldOff P t f = some o
class BoolT (P : Program) (t : TypeId) : Prop where
  h : P.underlying t = some .bool
class SizeT (P : Program) (t : TypeId) (k : outParam Nat) : Prop where
  h : ∃ inf, P.info? t = some inf ∧ inf.size = k

theorem ElT.of {P : Program} {E k bytes : Nat} {zd : List D} {z : Value} (h : (P.info? E).map (fun i => (i.zero, i.size, i.bytes)) = some (some z, k, bytes)) (hz : z.cells = (zd.map litV).toArray) (hl : zd.all litOk = true) (hk : zd.length = k) (hp : 0 < k) : ElT P E k zd bytes := by
  cases hi : P.info? E with
  | none => simp [hi] at h
  | some inf =>
    simp [hi] at h
    obtain ⟨h1, h2, h3⟩ := h
    exact ⟨⟨⟨inf, z, hi, h1, h2, hz⟩, hl, hk⟩, hp, fun inf' h' => by rw [hi] at h'; cases h'; exact h3⟩

theorem AggT.of {P : Program} {t k : Nat} {td : TypeDesc} (hu : P.underlying t = some td) (hd : aggD td = true) (h : (P.info? t).map (·.size) = some k) : AggT P t k := by
  cases hi : P.info? t with
  | none => simp [hi] at h
  | some inf => simp [hi] at h; exact ⟨⟨td, inf, hu, hd, hi, h⟩⟩

theorem SizeT.of {P : Program} {t k : Nat} (h : (P.info? t).map (·.size) = some k) : SizeT P t k := by
  cases hi : P.info? t with
  | none => simp [hi] at h
  | some inf => simp [hi] at h; exact ⟨⟨inf, hi, h⟩⟩

section
variable {P : Program} {H : Heap} {e : Env} {dst : Option Tmp} {ty : TypeId} {pos : String} {af : Array Edge} {gd : Option (Nat × Bool)}

theorem s_fn {f : FuncId} {caps : Array Operand} {ds : List D} (h : evList e caps.toList = some ds) : Sta P H e ⟨dst, .makeFunc (.func f) #[] caps, ty, pos, af, gd⟩ (.fn f ds) := .mk fun ρ w ha ho => by
  have := reps_list (H := H) ha caps.toList ds h
  have he : (caps.toList.map ρ).toArray = caps.map ρ := by apply Array.ext'; simp
  rw [he] at this
  simp [OpTo, execOp, Instr.makeFunc]
  exact ⟨this.fn f, ho, .refl _ _⟩

theorem s_pickT {c x y : Operand} {d : D} (hc : e.ev c = some (.bool true)) (hx : e.ev x = some d) : Sta P H e ⟨dst, .pick c x y, ty, pos, af, gd⟩ d := sta_pick hc (fun _ => hx) (fun h => by cases h)
theorem s_pickF {c x y : Operand} {d : D} (hc : e.ev c = some (.bool false)) (hy : e.ev y = some d) : Sta P H e ⟨dst, .pick c x y, ty, pos, af, gd⟩ d := sta_pick hc (fun h => by cases h) (fun _ => hy)

/-- n & 1. -/
theorem s_and1 {x y : Operand} {tx t2 : TypeId} {a : Int} (hx : e.ev x = some (I a)) (hy : e.ev y = some (I 1)) (h0 : 0 ≤ a) (h1 : a ≤ 9223372036854775807) : Sta P H e ⟨dst, .binOp .and tx x y t2, ty, pos, af, gd⟩ (I (a % 2)) := .mk fun ρ w ha ho => by
  have e1 := rep_int (ha x _ hx)
  have e2 := rep_int (ha y _ hy)
  obtain ⟨n, rfl⟩ := Int.eq_ofNat_of_zero_le h0
  have hb : (BitVec.ofInt 64 (n : Int) &&& BitVec.ofInt 64 1).toNat = n % 2 := by
    rw [BitVec.toNat_and]
    have h2 : (BitVec.ofInt 64 (n : Int)).toNat = n := by
      rw [BitVec.toNat_ofInt]
      omega
    have h3 : (BitVec.ofInt 64 1).toNat = 1 := by decide
    rw [h2, h3, Nat.and_one_is_mod]
  have hw : IntKind.i64.wrap (((BitVec.ofInt 64 (n : Int) &&& BitVec.ofInt 64 1).toNat : Nat) : Int) = (n : Int) % 2 := by
    rw [hb, wrap_of_fits ⟨by omega, by omega⟩]
    omega
  simp only [OpTo, execOp, e1, e2, eqGuard, Sem.run_bind]
  refine ⟨?_, ho, .refl _ _⟩
  show Rep w H (.int .i64 (IntKind.i64.wrap ((BitVec.ofInt 64 (n : Int) &&& BitVec.ofInt 64 1).toNat : Nat))) _
  rw [hw]
  exact .int _ _

/-- n >> 1. -/
theorem s_shr1 {x y : Operand} {tx t2 : TypeId} {a : Int} {k : IntKind} (hx : e.ev x = some (I a)) (hy : e.ev y = some (.int k 1)) (h0 : 0 ≤ a) : Sta P H e ⟨dst, .binOp .shr tx x y t2, ty, pos, af, gd⟩ (I (a / 2)) := .mk fun ρ w ha ho => by
  have e1 := rep_int (ha x _ hx)
  have e2 := rep_int (ha y _ hy)
  simp only [OpTo, execOp, e1, e2, eqGuard, Sem.run_bind]
  refine ⟨?_, ho, .refl _ _⟩
  have hf : a.fdiv (2 ^ min (Int.toNat 1) IntKind.i64.bits) = a / 2 := Int.fdiv_eq_ediv_of_nonneg a (by decide)
  show Rep w H (.int .i64 (a.fdiv (2 ^ min (Int.toNat 1) IntKind.i64.bits))) _
  rw [hf]
  exact .int _ _

/-- A comparison. -/
theorem s_cmp {op : BinOp} {x y : Operand} {tx t2 : TypeId} {a b : Int} {c : Bool} (hx : e.ev x = some (I a)) (hy : e.ev y = some (I b)) (hd : binI op a b = some (.bool c)) :
    Sta P H e ⟨dst, .binOp op tx x y t2, ty, pos, af, gd⟩ (.bool c) := sta_binI hx hy hd trivial

/-- A sum, a difference, a product. -/
theorem s_arith {op : BinOp} {x y : Operand} {tx t2 : TypeId} {a b c : Int} (hx : e.ev x = some (I a)) (hy : e.ev y = some (I b)) (hd : binI op a b = some (I c)) (h1 : -9223372036854775808 ≤ c) (h2 : c ≤ 9223372036854775807) :
    Sta P H e ⟨dst, .binOp op tx x y t2, ty, pos, af, gd⟩ (I c) := sta_binI hx hy hd ⟨h1, h2⟩

theorem s_eqB {x y : Operand} {tx t2 : TypeId} {a b : Bool} [BoolT P tx] (hx : e.ev x = some (.bool a)) (hy : e.ev y = some (.bool b)) : Sta P H e ⟨dst, .binOp .eql tx x y t2, ty, pos, af, gd⟩ (.bool (a == b)) :=
  sta_eqB (BoolT.h) hx hy (.inl ⟨rfl, rfl⟩)
theorem s_neB {x y : Operand} {tx t2 : TypeId} {a b : Bool} [BoolT P tx] (hx : e.ev x = some (.bool a)) (hy : e.ev y = some (.bool b)) : Sta P H e ⟨dst, .binOp .neq tx x y t2, ty, pos, af, gd⟩ (.bool (a != b)) :=
  sta_eqB (BoolT.h) hx hy (.inr ⟨rfl, rfl⟩)

theorem s_len {x : Operand} {t E : TypeId} {d : D} {n : Nat} [SliceT P t E] (hx : e.ev x = some d) (hn : lenD d = some n) : Sta P H e ⟨dst, .call ⟨.builtin .len, #[x], #[t]⟩, ty, pos, af, gd⟩ (I n) := sta_len SliceT.h hx hn

theorem s_index {x y : Operand} {t E : TypeId} {k bytes : Nat} {zd l : List D} {i : Nat} [SliceT P t E] [ElT P E k zd bytes] (hx : e.ev x = some (.list k l)) (hy : e.ev y = some (I i)) (hl : i < l.length) :
    Sta P H e ⟨dst, .indexAddr t x y, ty, pos, af, gd⟩ (.ipt k l i 0) := by
  obtain ⟨inf, z, hi, hz1, hz2, hz3⟩ := (ElT.z (P := P) (E := E) (k := k) (zd := zd) (bytes := bytes)).is
  have := sta_indexAddr_list (P := P) (H := H) (dst := dst) (ty := ty) (pos := pos) (af := af) (gd := gd) (SliceT.h (t := t) (E := E)) hi hz2 (ElT.pos (P := P) (E := E) (k := k) (zd := zd) (bytes := bytes)) hx hy (by omega) (by omega)
  simpa using this

theorem s_index0 {x : Operand} {t E : TypeId} {k bytes : Nat} {zd l : List D} [SliceT P t E] [ElT P E k zd bytes] {n : Int} {y : Operand} (hx : e.ev x = some (.list k l)) (hy : e.ev y = some (I n)) (hn : 0 ≤ n) (hl : n.toNat < l.length) :
    Sta P H e ⟨dst, .indexAddr t x y, ty, pos, af, gd⟩ (.ipt k l n.toNat 0) := by
  obtain ⟨inf, z, hi, hz1, hz2, hz3⟩ := (ElT.z (P := P) (E := E) (k := k) (zd := zd) (bytes := bytes)).is
  exact sta_indexAddr_list (P := P) (H := H) (dst := dst) (ty := ty) (pos := pos) (af := af) (gd := gd) (SliceT.h (t := t) (E := E)) hi hz2 (ElT.pos (P := P) (E := E) (k := k) (zd := zd) (bytes := bytes)) hx hy hn (by omega)

theorem s_indexRef {x y : Operand} {t E : TypeId} {k bytes b off n : Nat} {zd : List D} {i : Nat} [SliceT P t E] [ElT P E k zd bytes] (hx : e.ev x = some (.ref b off n k)) (hy : e.ev y = some (I i)) (hl : i < n) :
    Sta P H e ⟨dst, .indexAddr t x y, ty, pos, af, gd⟩ (.ptr b (off + i * k)) := by
  obtain ⟨inf, z, hi, hz1, hz2, hz3⟩ := (ElT.z (P := P) (E := E) (k := k) (zd := zd) (bytes := bytes)).is
  have := sta_indexAddr_ref (P := P) (H := H) (dst := dst) (ty := ty) (pos := pos) (af := af) (gd := gd) (SliceT.h (t := t) (E := E)) hi hz2 hx hy (by omega) (by omega)
  simpa using this

theorem s_load {t : TypeId} {x : Operand} {k i j : Nat} {l : List D} {d : D} [CellT P t] (hx : e.ev x = some (.ipt k l i j)) (hc : cellAt l i j = some d) : Sta P H e ⟨dst, .load t x, ty, pos, af, gd⟩ d := by
  obtain ⟨td, hu, hd⟩ := CellT.h (P := P) (t := t)
  exact sta_load_cell hu hd hx hc

theorem s_loadAgg {t : TypeId} {x : Operand} {k i : Nat} {l : List D} {ds : List D} [AggT P t k] (hx : e.ev x = some (.ipt k l i 0)) (hl : l[i]? = some (.agg ds)) (hk : ds.length = k) : Sta P H e ⟨dst, .load t x, ty, pos, af, gd⟩ (.agg ds) := by
  obtain ⟨td, inf, hu, hd, hi, hs⟩ := AggT.h (P := P) (t := t) (k := k)
  exact sta_load_el hu hd hi (by rw [hs, hk]) hx hl

theorem s_loadMut {t T0 : TypeId} {x : Operand} {b off : Nat} {cells : List D} {d : D} [CellT P t] (hx : e.ev x = some (.ptr b off)) (hH : H b = some (T0, cells)) (hc : cells[off]? = some d) : Sta P H e ⟨dst, .load t x, ty, pos, af, gd⟩ d := by
  obtain ⟨td, hu, hd⟩ := CellT.h (P := P) (t := t)
  exact sta_load_mut hu hd hx hH hc

theorem s_loadMutAgg {t T0 : TypeId} {x : Operand} {b off k : Nat} {cells ds : List D} [AggT P t k] (hx : e.ev x = some (.ptr b off)) (hH : H b = some (T0, cells)) (hds : (cells.drop off).take k = ds) (hn : ds.length = k) :
    Sta P H e ⟨dst, .load t x, ty, pos, af, gd⟩ (.agg ds) := by
  obtain ⟨td, inf, hu, hd, hi, hs⟩ := AggT.h (P := P) (t := t) (k := k)
  exact sta_load_mut_agg hu hd hi hx hH (by rw [hs]; exact hds) (by rw [hs]; exact hn)

theorem s_field {t : TypeId} {x : Operand} {f o k i j : Nat} {l : List D} [FieldT P t f o] (hx : e.ev x = some (.ipt k l i j)) : Sta P H e ⟨dst, .fieldAddr t x f, ty, pos, af, gd⟩ (.ipt k l i (j + o)) := sta_fieldAddr_ipt FieldT.h hx
theorem s_fieldMut {t : TypeId} {x : Operand} {f o b off : Nat} [FieldT P t f o] (hx : e.ev x = some (.ptr b off)) : Sta P H e ⟨dst, .fieldAddr t x f, ty, pos, af, gd⟩ (.ptr b (off + o)) := sta_fieldAddr_ptr FieldT.h hx

theorem s_slice {t E : TypeId} {x : Operand} {lo hi : Option Operand} {k bytes a b : Nat} {zd l : List D} [SliceT P t E] [ElT P E k zd bytes] (hx : e.ev x = some (.list k l)) (hlo : boundD e lo 0 = some a) (hhi : boundD e hi l.length = some b) (hab : a ≤ b) (hb : b ≤ l.length) :
    Sta P H e ⟨dst, .slice t x lo hi none, ty, pos, af, gd⟩ (.list k ((l.take b).drop a)) := by
  obtain ⟨inf, z, hi', hz1, hz2, hz3⟩ := (ElT.z (P := P) (E := E) (k := k) (zd := zd) (bytes := bytes)).is
  exact sta_slice_list SliceT.h hi' hz2 hx hlo hhi hab hb

/-- s[n:]. -/
theorem s_from {t E : TypeId} {x y : Operand} {k bytes : Nat} {zd l : List D} {n : Int} [SliceT P t E] [ElT P E k zd bytes] (hx : e.ev x = some (.list k l)) (hy : e.ev y = some (I n)) (hn : 0 ≤ n) (hb : n.toNat ≤ l.length) :
    Sta P H e ⟨dst, .slice t x (some y) none none, ty, pos, af, gd⟩ (.list k (l.drop n.toNat)) := by
  have := s_slice (P := P) (H := H) (dst := dst) (ty := ty) (pos := pos) (af := af) (gd := gd) (t := t) (lo := some y) (hi := none) (a := n.toNat) (b := l.length) hx (by simp [boundD, hy, hn]) rfl hb (Nat.le_refl _)
  simpa using this

theorem s_build {t k : TypeId} {fs : Array Field} {parts : Array (Nat × Operand)} {bytes : Nat} {pl : Array (Nat × Nat)} {pd : List (Nat × D)} {zd out : List D} [ElT P t k zd bytes] (hz : ∀ inf, P.info? t = some inf → inf.zero = some (.agg (zd.map litV).toArray))
    (hu : P.underlying t = some (.struct fs)) (hpl : placesOf P fs = some pl) (hp : evParts e parts.toList = some pd) (ho : fillD (pl[·]?) zd pd = some out) : Sta P H e ⟨dst, .build t parts, ty, pos, af, gd⟩ (.agg out) := by
  obtain ⟨inf, z, hi, hz1, hz2, hz3⟩ := (ElT.z (P := P) (E := t) (k := k) (zd := zd) (bytes := bytes)).is
  exact sta_build hi (hz inf hi) hu hpl rfl (ElT.z (P := P) (E := t) (k := k) (zd := zd) (bytes := bytes)).lit hp ho

theorem s_lit {t E : TypeId} {n k bytes : Nat} {parts : Array (Nat × Operand)} {zd : List D} {pd : List (Nat × D)} {ds : List D} [SliceT P t E] [ElT P E k zd bytes] (hn : n * k ≤ 16777216) (hn0 : 0 < n)
    (hp : evParts e parts.toList = some pd) (hds : ds.length = n) (huni : ∀ d ∈ ds, (cellsOf d).length = k) (hf : fillD (fun i => some (i * k, k)) (List.replicate n zd).flatten pd = some (ds.flatMap cellsOf)) :
    Sta P H e ⟨dst, .buildSlice t n parts, ty, pos, af, gd⟩ (.list k ds) :=
  sta_buildSlice SliceT.h (ElT.z (E := E) (bytes := bytes)) (ElT.pos (P := P) (E := E) (zd := zd) (bytes := bytes)) hn hn0 hp hds huni hf

/-- A slice literal of one element. -/
theorem s_lit1 {t E : TypeId} {k bytes : Nat} {x : Operand} {zd : List D} {d : D} [SliceT P t E] [ElT P E k zd bytes] (hk : k ≤ 16777216) (hx : e.ev x = some d) (hd : (cellsOf d).length = k) : Sta P H e ⟨dst, .buildSlice t 1 #[(0, x)], ty, pos, af, gd⟩ (.list k [d]) := by
  have hz : zd.length = k := (ElT.z (P := P) (E := E) (k := k) (zd := zd) (bytes := bytes)).len
  refine s_lit (P := P) (t := t) (E := E) (bytes := bytes) (zd := zd) (pd := [(0, d)]) (by omega) (by omega) (by simp [evParts, hx]) rfl (fun y hy => by simp at hy; subst hy; exact hd) ?_
  simp [fillD, hd, hz, setMany]

theorem s_litEmpty {t E : TypeId} {k bytes : Nat} {zd : List D} [SliceT P t E] [ElT P E k zd bytes] : Sta P H e ⟨dst, .buildSlice t 0 #[], ty, pos, af, gd⟩ .nil := sta_buildEmpty SliceT.h (ElT.z (E := E) (bytes := bytes))

theorem s_appendNil {t E : TypeId} {x y : Operand} {k bytes : Nat} {zd : List D} {dy : D} {xs : List D} [SliceT P t E] [ElT P E k zd bytes] (hx : e.ev x = some .nil) (hy : e.ev y = some dy)
    (hsrc : dy = .list k xs ∨ (dy = .nil ∧ xs = [])) (hxs : Uni k xs) (hb : xs.length * bytes ≤ 140737488355328) (hlen : xs.length ≤ 4611686018427387904) :
    Sta P H e ⟨dst, .call ⟨.builtin .append, #[x, y], #[t, t]⟩, ty, pos, af, gd⟩ (.list k xs) :=
  sta_append_nil SliceT.h (ElT.z (E := E) (bytes := bytes)) (ElT.pos (P := P) (E := E) (zd := zd) (bytes := bytes)) hx hy hsrc hxs (fun inf hi => by rw [ElT.b (P := P) (E := E) (k := k) (zd := zd) (bytes := bytes) inf hi]; exact hb) hlen

theorem d_append {H0 : Heap} {t E : TypeId} {x y : Operand} {k bytes : Nat} {zd : List D} {d dy : D} {l xs : List D} {K : D → Heap → Prop} [SliceT P t E] [ElT P E k zd bytes] (hx : e.ev x = some d) (hacc : Acc H0 H d k E l) (hover : Over H0 H)
    (hy : e.ev y = some dy) (hsrc : dy = .list k xs ∨ (dy = .nil ∧ xs = [])) (hxs : Uni k xs) (hb : (l.length + xs.length) * bytes ≤ 140737488355328) (hlen : l.length + xs.length ≤ 4611686018427387904)
    (hK : ∀ d' H', Acc H0 H' d' k E (l ++ xs) → Over H0 H' → (∀ c z, H c = some z → d.blk ≠ some c → H' c = some z) → K d' H') :
    OpD P H e ⟨dst, .call ⟨.builtin .append, #[x, y], #[t, t]⟩, ty, pos, af, gd⟩ K :=
  opD_append SliceT.h (ElT.z (E := E) (bytes := bytes)) (ElT.pos (P := P) (E := E) (zd := zd) (bytes := bytes)) hx hacc hover hy hsrc hxs (fun inf hi => by rw [ElT.b (P := P) (E := E) (k := k) (zd := zd) (bytes := bytes) inf hi]; exact hb) hlen hK

theorem d_make {t E : TypeId} {x y : Operand} {k n c bytes : Nat} {zd : List D} {K : D → Heap → Prop} [SliceT P t E] [ElT P E k zd bytes] (hx : e.ev x = some (I n)) (hy : e.ev y = some (I c)) (hnc : n ≤ c)
    (hb : bytes * c ≤ 281474976710656) (hc : c ≤ 4611686018427387904) (hK : ∀ b, H b = none → K (.ref b 0 n k) (H.set b (E, (List.replicate n zd).flatten))) : OpD P H e ⟨dst, .makeSlice t x y, ty, pos, af, gd⟩ K :=
  opD_make SliceT.h (ElT.z (E := E) (bytes := bytes)) (ElT.pos (P := P) (E := E) (zd := zd) (bytes := bytes)) hx hy hnc (fun inf hi => by rw [ElT.b (P := P) (E := E) (k := k) (zd := zd) (bytes := bytes) inf hi]; exact hb) hc hK

theorem s_make {t E : TypeId} {x y : Operand} {k n bytes : Nat} {zd : List D} {el : D} [SliceT P t E] [ElT P E k zd bytes] (hel : cellsOf el = zd) (hx : e.ev x = some (I n)) (hy : e.ev y = some (I n)) (hb : bytes * n ≤ 281474976710656) (hc : n ≤ 4611686018427387904) :
    Sta P H e ⟨dst, .makeSlice t x y, ty, pos, af, gd⟩ (.list k (List.replicate n el)) :=
  sta_make SliceT.h (ElT.z (E := E) (bytes := bytes)) (ElT.pos (P := P) (E := E) (zd := zd) (bytes := bytes)) hel hx hy (fun inf hi => by rw [ElT.b (P := P) (E := E) (k := k) (zd := zd) (bytes := bytes) inf hi]; exact hb) hc

theorem d_alloc {t : TypeId} {k bytes : Nat} {zd : List D} {K : D → Heap → Prop} [ElT P t k zd bytes] (hK : ∀ b, H b = none → K (.ptr b 0) (H.set b (t, zd))) : OpD P H e ⟨dst, .alloc t, ty, pos, af, gd⟩ K := opD_alloc (ElT.z (E := t) (bytes := bytes)) hK

theorem d_store {t T0 : TypeId} {k : Nat} {x y : Operand} {b off : Nat} {d : D} {cells : List D} {K : D → Heap → Prop} [SizeT P t k] (hx : e.ev x = some (.ptr b off)) (hy : e.ev y = some d) (hk : k = (cellsOf d).length) (hH : H b = some (T0, cells))
    (hl : off + (cellsOf d).length ≤ cells.length) (hc : ∀ z ∈ cellsOf d, z.isCell = true) (hK : K (.tup []) (H.set b (T0, setMany cells off (cellsOf d)))) : OpD P H e ⟨dst, .store t x y, ty, pos, af, gd⟩ K := by
  obtain ⟨inf, hi, hs⟩ := SizeT.h (P := P) (t := t) (k := k)
  exact opD_store hi (by rw [hs, hk]) hx hy hH hl hc hK

end

/-! ### The program's data -/

def intsD (l : List Int) : D := .list 1 (l.map I)
def intssD (l : List (List Int)) : D := .list 1 (l.map intsD)

structure Tm where
  c : Int
  e : List Int

def tmD (t : Tm) : D := .agg [I t.c, intsD t.e]

abbrev Pl := List Tm
def plD (f : Pl) : D := .list 2 (f.map tmD)
abbrev Vc := List Pl
def vcD (v : Vc) : D := .list 1 (v.map plD)
def vcsD (l : List Vc) : D := .list 1 (l.map vcD)

structure Rg where
  p : Int
  n : Int
  order : Int
  over : Int

def rgD (r : Rg) : D := .agg [I r.p, I r.n, I r.order, I r.over]

theorem cellAt_map1 {α : Type} {f : α → D} (hf : ∀ a, cellsOf (f a) = [f a]) {l : List α} {i : Nat} (hi : i < l.length) : cellAt (l.map f) i 0 = some (f l[i]) := by
  simp [cellAt, hi, hf]

theorem cell_I (n : Int) : cellsOf (I n) = [I n] := rfl
theorem cell_ints (l : List Int) : cellsOf (intsD l) = [intsD l] := rfl
theorem cell_pl (f : Pl) : cellsOf (plD f) = [plD f] := rfl
theorem cell_vc (v : Vc) : cellsOf (vcD v) = [vcD v] := rfl

theorem uni_map1 {α : Type} {f : α → D} (hf : ∀ a, cellsOf (f a) = [f a]) (hc : ∀ a, (f a).isCell = true) (l : List α) : Uni 1 (l.map f) := by
  intro d hd
  obtain ⟨a, _, rfl⟩ := List.mem_map.1 hd
  rw [hf]
  exact ⟨rfl, fun x hx => by simp at hx; subst hx; exact hc a⟩

theorem uni_I (l : List Int) : Uni 1 (l.map I) := uni_map1 (fun _ => rfl) (fun _ => rfl) l
theorem uni_ints (l : List (List Int)) : Uni 1 (l.map intsD) := uni_map1 (fun _ => rfl) (fun _ => rfl) l
theorem uni_pl (l : List Pl) : Uni 1 (l.map plD) := uni_map1 (fun _ => rfl) (fun _ => rfl) l
theorem uni_vc (l : List Vc) : Uni 1 (l.map vcD) := uni_map1 (fun _ => rfl) (fun _ => rfl) l
theorem uni_tm (l : Pl) : Uni 2 (l.map tmD) := by
  intro d hd
  obtain ⟨a, _, rfl⟩ := List.mem_map.1 hd
  exact ⟨rfl, fun x hx => by simp [tmD, cellsOf] at hx; rcases hx with rfl | rfl <;> rfl⟩

theorem rd_int {l : List Int} {i : Nat} (hi : i < l.length) : cellAt (l.map I) i 0 = some (I l[i]) := cellAt_map1 (fun _ => rfl) hi

section
variable {P : Program} {H : Heap} {e : Env} {dst : Option Tmp} {ty : TypeId} {pos : String} {af : Array Edge} {gd : Option (Nat × Bool)}

theorem s_lenM {α : Type} {f : α → D} {l : List α} {k : Nat} {x : Operand} {t E : TypeId} [SliceT P t E] (hx : e.ev x = some (.list k (l.map f))) : Sta P H e ⟨dst, .call ⟨.builtin .len, #[x], #[t]⟩, ty, pos, af, gd⟩ (I l.length) := by
  have := s_len (P := P) (H := H) (dst := dst) (ty := ty) (pos := pos) (af := af) (gd := gd) (t := t) hx rfl
  simpa using this

theorem s_loadM {α : Type} {f : α → D} {l : List α} {k i : Nat} {t : TypeId} {x : Operand} [CellT P t] (hf : ∀ a, cellsOf (f a) = [f a]) (hx : e.ev x = some (.ipt k (l.map f) i 0)) (hi : i < l.length) : Sta P H e ⟨dst, .load t x, ty, pos, af, gd⟩ (f l[i]) :=
  s_load hx (cellAt_map1 hf hi)

theorem s_loadTm {f : Pl} {i : Nat} {t : TypeId} {x : Operand} [AggT P t 2] (hx : e.ev x = some (.ipt 2 (f.map tmD) i 0)) (hi : i < f.length) : Sta P H e ⟨dst, .load t x, ty, pos, af, gd⟩ (tmD f[i]) :=
  s_loadAgg hx (by simp [hi, tmD]) rfl

theorem s_loadC {f : Pl} {i : Nat} {t : TypeId} {x : Operand} [CellT P t] (hx : e.ev x = some (.ipt 2 (f.map tmD) i 0)) (hi : i < f.length) : Sta P H e ⟨dst, .load t x, ty, pos, af, gd⟩ (I f[i].c) :=
  s_load hx (by simp [cellAt, hi, tmD, cellsOf])

theorem s_loadE {f : Pl} {i : Nat} {t : TypeId} {x : Operand} [CellT P t] (hx : e.ev x = some (.ipt 2 (f.map tmD) i 1)) (hi : i < f.length) : Sta P H e ⟨dst, .load t x, ty, pos, af, gd⟩ (intsD f[i].e) :=
  s_load hx (by simp [cellAt, hi, tmD, cellsOf])

theorem s_indexM {α : Type} {f : α → D} {l : List α} {x y : Operand} {t E : TypeId} {k bytes : Nat} {zd : List D} {i : Nat} [SliceT P t E] [ElT P E k zd bytes] (hx : e.ev x = some (.list k (l.map f))) (hy : e.ev y = some (I i)) (hl : i < l.length) :
    Sta P H e ⟨dst, .indexAddr t x y, ty, pos, af, gd⟩ (.ipt k (l.map f) i 0) := s_index (zd := zd) (bytes := bytes) hx hy (by simpa using hl)

/-- The first element. -/
theorem s_indexM0 {α : Type} {f : α → D} {l : List α} {x y : Operand} {t E : TypeId} {k bytes : Nat} {zd : List D} [SliceT P t E] [ElT P E k zd bytes] (hx : e.ev x = some (.list k (l.map f))) (hy : e.ev y = some (I 0)) (hl : 0 < l.length) :
    Sta P H e ⟨dst, .indexAddr t x y, ty, pos, af, gd⟩ (.ipt k (l.map f) 0 0) := s_index (zd := zd) (bytes := bytes) (i := 0) hx hy (by simpa using hl)

theorem s_fromM {α : Type} {f : α → D} {l : List α} {t E : TypeId} {x y : Operand} {k bytes : Nat} {zd : List D} {n : Int} [SliceT P t E] [ElT P E k zd bytes] (hx : e.ev x = some (.list k (l.map f))) (hy : e.ev y = some (I n)) (hn : 0 ≤ n) (hb : n.toNat ≤ l.length) :
    Sta P H e ⟨dst, .slice t x (some y) none none, ty, pos, af, gd⟩ (.list k ((l.drop n.toNat).map f)) := by
  have := s_from (P := P) (H := H) (dst := dst) (ty := ty) (pos := pos) (af := af) (gd := gd) (t := t) (zd := zd) (bytes := bytes) hx hy hn (by simpa using hb)
  rw [List.map_drop]
  exact this

end

section
variable {C : Ctx} {e : Env} {H : Heap} {Q : Post}

theorem DW.condT {c : Operand} {x y : Code} (hc : e.ev c = some (.bool true)) (h : DW C x e H Q) : DW C (.cond c x y) e H Q := DW.cond hc (fun _ => h) (fun h => by cases h)
theorem DW.condF {c : Operand} {x y : Code} (hc : e.ev c = some (.bool false)) (h : DW C y e H Q) : DW C (.cond c x y) e H Q := DW.cond hc (fun h => by cases h) (fun _ => h)

end

end Go.Proofs.Ytejpadofecboiaa
