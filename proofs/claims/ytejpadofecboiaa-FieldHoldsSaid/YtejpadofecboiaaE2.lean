/-
  The operations of one step at the data level: what is static (a value that hangs on nothing but data). No condition.
-/
import Derived.Test.YtejpadofecboiaaE1
namespace Go.Proofs.Ytejpadofecboiaa
open Go.RowKit
set_option linter.unusedVariables false
set_option linter.unusedSimpArgs false

abbrev Env := List (Nat × D)

def Env.get : Env → Nat → Option D
  | [], _ => none
  | (k, d) :: r, t => bif Nat.beq k t then some d else Env.get r t

def constD : Value → Option D
  | .int k n => some (.int k n)
  | .bool b => some (.bool b)
  | .string s => some (.str s)
  | .slice none 0 0 => some .nil
  | _ => none

def Env.ev (e : Env) : Operand → Option D
  | .tmp t => e.get t
  | .const v => constD v
  | .func f => some (.fn f [])
  | .global _ => none

theorem rep_const {w : World} {H : Heap} {v : Value} {d : D} (h : constD v = some d) : Rep w H v d := by
  unfold constD at h
  split at h <;> cases h <;> constructor

/-- One operation: what must be so behind it. -/
def OpTo (P : Program) (ρ : Operand → Value) (o : Oper) (w : World) (K : Value → World → Prop) : Prop :=
  match (execOp ρ o).run P w with
  | .ok (.value v) w' => K v w'
  | .ok .skip w' => K undef w'
  | .ok (.enter f args) w' => Calls P f args w' (fun e w'' => ∃ v, e = .returned v ∧ K v w'')
  | _ => False

theorem OpTo.mono {P : Program} {ρ : Operand → Value} {o : Oper} {w : World} {K K' : Value → World → Prop} (h : OpTo P ρ o w K) (hk : ∀ v w', K v w' → K' v w') : OpTo P ρ o w K' := by
  unfold OpTo at *
  split at h
  · exact hk _ _ h
  · exact hk _ _ h
  · exact h.mono fun e w' ⟨v, he, hv⟩ => ⟨v, he, hk _ _ hv⟩
  · exact h.elim

structure Agree (ρ : Operand → Value) (w : World) (H : Heap) (e : Env) : Prop where
  rep : ∀ x d, e.ev x = some d → Rep w H (ρ x) d
  const : ∀ v, ρ (.const v) = v

instance {ρ : Operand → Value} {w : World} {H : Heap} {e : Env} : CoeFun (Agree ρ w H e) (fun _ => ∀ x d, e.ev x = some d → Rep w H (ρ x) d) := ⟨Agree.rep⟩

/-- A static operation: its value is this datum, whatever the world. -/
structure Sta (P : Program) (H : Heap) (e : Env) (o : Oper) (d : D) : Prop where
  go : ∀ (ρ : Operand → Value) (w : World), Agree ρ w H e → HOK w H → OpTo P ρ o w fun v w' => Rep w' H v d ∧ HOK w' H ∧ Ext w H w' H

/-- An operation that may turn the mutable blocks. -/
structure OpD (P : Program) (H : Heap) (e : Env) (o : Oper) (K : D → Heap → Prop) : Prop where
  go : ∀ (ρ : Operand → Value) (w : World), Agree ρ w H e → HOK w H → OpTo P ρ o w fun v w' => ∃ d H', K d H' ∧ Rep w' H' v d ∧ HOK w' H' ∧ Ext w H w' H'

theorem OpD.of_sta {P : Program} {H : Heap} {e : Env} {o : Oper} {d : D} {K : D → Heap → Prop} (h : Sta P H e o d) (hk : K d H) : OpD P H e o K :=
  .mk fun ρ w ha ho => (h.go ρ w ha ho).mono fun _ _ ⟨h1, h2, h3⟩ => ⟨d, H, hk, h1, h2, h3⟩

section
variable {P : Program} {H : Heap} {e : Env} {dst : Option Tmp} {ty : TypeId} {pos : String} {af : Array Edge} {gd : Option (Nat × Bool)}

theorem sta_move {x : Operand} {d : D} (hx : e.ev x = some d) : Sta P H e ⟨dst, .move x, ty, pos, af, gd⟩ d := .mk fun ρ w ha ho => by
  simp only [OpTo, execOp, pure, Sem.run]
  exact ⟨ha x d hx, ho, .refl _ _⟩

theorem sta_assign {x : Operand} {d : D} (hx : e.ev x = some d) : Sta P H e ⟨dst, .assign x, ty, pos, af, gd⟩ d := .mk fun ρ w ha ho => by
  simp only [OpTo, execOp, pure, Sem.run]
  exact ⟨ha x d hx, ho, .refl _ _⟩

theorem sta_pick {c x y : Operand} {b : Bool} {d : D} (hc : e.ev c = some (.bool b)) (hx : b = true → e.ev x = some d) (hy : b = false → e.ev y = some d) :
    Sta P H e ⟨dst, .pick c x y, ty, pos, af, gd⟩ d := .mk fun ρ w ha ho => by
  have h := ha c _ hc
  generalize hv : ρ c = v at h
  cases h
  cases b
  · have := ha y d (hy rfl)
    simpa [OpTo, execOp, hv, asBool, pure, Sem.run, bind, Sem.bind] using ⟨this, ho, Ext.refl _ _⟩
  · have := ha x d (hx rfl)
    simpa [OpTo, execOp, hv, asBool, pure, Sem.run, bind, Sem.bind] using ⟨this, ho, Ext.refl _ _⟩

theorem rep_int {w : World} {v : Value} {k : IntKind} {n : Int} (h : Rep w H v (.int k n)) : v = .int k n := by cases h; rfl
theorem rep_bool {w : World} {v : Value} {b : Bool} (h : Rep w H v (.bool b)) : v = .bool b := by cases h; rfl
theorem rep_ptr {w : World} {v : Value} {b off : Nat} (h : Rep w H v (.ptr b off)) : v = .pointer (some ⟨b, off, none⟩) := by cases h; rfl

/-- Operations on two ints. -/
def binI (op : BinOp) (a b : Int) : Option D :=
  match op with
  | .add => some (I (a + b))
  | .sub => some (I (a - b))
  | .mul => some (I (a * b))
  | .eql => some (.bool (a == b))
  | .neq => some (.bool (a != b))
  | .lss => some (.bool (decide (a < b)))
  | .leq => some (.bool (decide (a ≤ b)))
  | .gtr => some (.bool (decide (b < a)))
  | .geq => some (.bool (decide (b ≤ a)))
  | _ => none

/-- Does an int fit? -/
def fitsI : D → Prop
  | .int _ n => -9223372036854775808 ≤ n ∧ n ≤ 9223372036854775807
  | _ => True

theorem wrap_of_fits {n : Int} (h : -9223372036854775808 ≤ n ∧ n ≤ 9223372036854775807) : IntKind.i64.wrap n = n :=
  IntWalk.i64_in n ⟨h.1, by omega⟩

theorem sta_binI {op : BinOp} {x y : Operand} {tx t2 : TypeId} {a b : Int} {d : D} (hx : e.ev x = some (I a)) (hy : e.ev y = some (I b)) (hd : binI op a b = some d) (hf : fitsI d) :
    Sta P H e ⟨dst, .binOp op tx x y t2, ty, pos, af, gd⟩ d := .mk fun ρ w ha ho => by
  have h1 := rep_int (ha x _ hx)
  have h2 := rep_int (ha y _ hy)
  cases op <;> simp only [binI, Option.some.injEq, reduceCtorEq] at hd <;> subst hd <;>
    simp only [OpTo, execOp, h1, h2, eqGuard, binOp, Op.intArith, Op.intCmp, bind, pure, Sem.run, Sem.bind, ne_eq, not_true, if_false, Bool.not_eq_true] <;>
    first
      | (simp only [fitsI] at hf; rw [wrap_of_fits hf]; exact ⟨.int _ _, ho, .refl _ _⟩)
      | exact ⟨.bool _, ho, .refl _ _⟩

theorem sta_rem {x y : Operand} {tx t2 : TypeId} {a b : Int} (hx : e.ev x = some (I a)) (hy : e.ev y = some (I b)) (h0 : 0 ≤ a) (hb : 0 < b) :
    Sta P H e ⟨dst, .binOp .rem tx x y t2, ty, pos, af, gd⟩ (I (a % b)) := .mk fun ρ w ha ho => by
  have h1 := rep_int (ha x _ hx)
  have h2 := rep_int (ha y _ hy)
  have hne : ¬ b = 0 := by omega
  simp only [OpTo, execOp, h1, h2, eqGuard, binOp, Op.intDiv, bind, pure, Sem.run, Sem.bind, ne_eq, not_true, if_false, hne, Bool.not_eq_true]
  rw [Int.tmod_eq_emod_of_nonneg h0]
  exact ⟨.int _ _, ho, .refl _ _⟩

theorem sta_eqB {op : BinOp} {x y : Operand} {tx t2 : TypeId} {a b : Bool} {d : D} (hu : P.underlying tx = some .bool) (hx : e.ev x = some (.bool a)) (hy : e.ev y = some (.bool b))
    (hd : (op = .eql ∧ d = .bool (a == b)) ∨ (op = .neq ∧ d = .bool (a != b))) : Sta P H e ⟨dst, .binOp op tx x y t2, ty, pos, af, gd⟩ d := .mk fun ρ w ha ho => by
  have h1 := rep_bool (ha x _ hx)
  have h2 := rep_bool (ha y _ hy)
  rcases hd with ⟨rfl, rfl⟩ | ⟨rfl, rfl⟩ <;>
    simp [OpTo, execOp, h1, h2, eqGuard, run_eql_bool w tx a b hu, run_neq_bool w tx a b hu] <;> exact ⟨.bool _, ho, .refl _ _⟩

theorem sta_not {x : Operand} {tx : TypeId} {b : Bool} (hx : e.ev x = some (.bool b)) : Sta P H e ⟨dst, .unOp .not tx x, ty, pos, af, gd⟩ (.bool (!b)) := .mk fun ρ w ha ho => by
  have h1 := rep_bool (ha x _ hx)
  simp only [OpTo, execOp, h1, Op.unary, bind, pure, Sem.run, Sem.bind]
  exact ⟨.bool _, ho, .refl _ _⟩

theorem sta_neg {x : Operand} {tx : TypeId} {a : Int} (hx : e.ev x = some (I a)) (hf : fitsI (I (-a))) : Sta P H e ⟨dst, .unOp .neg tx x, ty, pos, af, gd⟩ (I (-a)) := .mk fun ρ w ha ho => by
  have h1 := rep_int (ha x _ hx)
  simp only [OpTo, execOp, h1, Op.unary, Op.intArith, bind, pure, Sem.run, Sem.bind]
  simp only [fitsI] at hf
  rw [show (0 - a : Int) = -a from by omega, wrap_of_fits hf]
  exact ⟨.int _ _, ho, .refl _ _⟩

/-- max, min of two. -/
theorem sta_max {x y : Operand} {ats : Array TypeId} {a b : Int} (hx : e.ev x = some (I a)) (hy : e.ev y = some (I b)) :
    Sta P H e ⟨dst, .call ⟨.builtin .max, #[x, y], ats⟩, ty, pos, af, gd⟩ (I (if b > a then b else a)) := .mk fun ρ w ha ho => by
  have h1 := rep_int (ha x _ hx)
  have h2 := rep_int (ha y _ hy)
  simp [OpTo, execOp, resolve, invoke, builtin, Builtin.max_, Builtin.max2, h1, h2, bind, pure, Sem.run, Sem.bind]
  exact ⟨.int _ _, ho, .refl _ _⟩

theorem sta_min {x y : Operand} {ats : Array TypeId} {a b : Int} (hx : e.ev x = some (I a)) (hy : e.ev y = some (I b)) :
    Sta P H e ⟨dst, .call ⟨.builtin .min, #[x, y], ats⟩, ty, pos, af, gd⟩ (I (if b < a then b else a)) := .mk fun ρ w ha ho => by
  have h1 := rep_int (ha x _ hx)
  have h2 := rep_int (ha y _ hy)
  simp [OpTo, execOp, resolve, invoke, builtin, Builtin.min_, Builtin.min2, h1, h2, bind, pure, Sem.run, Sem.bind]
  exact ⟨.int _ _, ho, .refl _ _⟩

/-- How long a slice is. -/
def lenD : D → Option Nat
  | .nil => some 0
  | .list _ l => some l.length
  | .ref _ _ n _ => some n
  | _ => none

theorem sta_len {x : Operand} {t E : TypeId} {d : D} {n : Nat} (hu : P.underlying t = some (.slice E)) (hx : e.ev x = some d) (hn : lenD d = some n) :
    Sta P H e ⟨dst, .call ⟨.builtin .len, #[x], #[t]⟩, ty, pos, af, gd⟩ (I n) := .mk fun ρ w ha ho => by
  have h := ha x d hx
  generalize hv : ρ x = v at h
  cases h <;> simp only [lenD, Option.some.injEq, reduceCtorEq] at hn <;> subst hn <;>
    simp [OpTo, execOp, resolve, invoke, builtin, Builtin.len_, hv, run_underlying hu, goInt] <;> exact ⟨.int _ _, ho, .refl _ _⟩

theorem sta_extract {x : Operand} {i : Nat} {l : List D} {d : D} (hx : e.ev x = some (.tup l)) (hi : l[i]? = some d) : Sta P H e ⟨dst, .extract x i, ty, pos, af, gd⟩ d := .mk fun ρ w ha ho => by
  have h := ha x _ hx
  generalize hv : ρ x = v at h
  cases h with
  | tup vals hs h2 h3 =>
    simp [OpTo, execOp, Instr.extract, hv, h2 i d hi, bind, pure, Sem.run, Sem.bind]
    exact ⟨h3 i d hi, ho, .refl _ _⟩

theorem sta_indexAddr_list {x y : Operand} {t E : TypeId} {inf : TypeInfo} {k : Nat} {l : List D} {kd : IntKind} {i : Int} (hu : P.underlying t = some (.slice E)) (hi : P.info? E = some inf)
    (hs : inf.size = k) (hk : 0 < k) (hx : e.ev x = some (.list k l)) (hy : e.ev y = some (.int kd i)) (h0 : 0 ≤ i) (hl : i < l.length) :
    Sta P H e ⟨dst, .indexAddr t x y, ty, pos, af, gd⟩ (.ipt k l i.toNat 0) := .mk fun ρ w ha ho => by
  have h := ha x _ hx
  have h2 := rep_int (ha y _ hy)
  generalize hv : ρ x = v at h
  cases h with
  | list vals hc hm h1 h2' h3 =>
    rename_i a c
    obtain ⟨n, rfl⟩ := Int.eq_ofNat_of_zero_le h0
    have hn : n < l.length := by omega
    have hcell : cellAt l n 0 = some ((cellsOf l[n])[0]'(by rw [h1 n l[n] (by simp [hn])]; exact hk)) := by simp [cellAt, hn]
    obtain ⟨b, off, ha', hH, hw⟩ := h2' n 0 _ hcell
    subst ha'
    have hn' : (n : Int) < (l.length : Int) := by omega
    have hadd : (⟨b, off, none⟩ : Addr).add (n * inf.size) = ⟨b, off + n * k + 0, none⟩ := by
      rw [hs]; unfold Addr.add; split <;> simp_all
    simp [OpTo, execOp, Instr.indexAt, hv, h2, asIntOf, sizeOf, typeInfo, run_underlying hu, hi, hn]
    rw [hadd]
    refine ⟨Rep.ipt vals h1 (fun i j x hx => ?_) h3, ho, .refl _ _⟩
    obtain ⟨b', off', hb', hH', hw'⟩ := h2' i j x hx
    cases hb'
    exact ⟨hH', hw'⟩

end
end Go.Proofs.Ytejpadofecboiaa
