/-
  Drawn orders, as the walks use them. No condition.
-/
import Derived.Test.YtejpadofecboiaaE11
import Derived.Test.YtejpadofecboiaaE12
namespace Go.Proofs.Ytejpadofecboiaa
open Go.RowKit
set_option linter.unusedVariables false
set_option linter.unusedSimpArgs false

section
variable {C : Ctx} {e : Env} {H : Heap} {Q : Post} {ops : List Oper} {rest : List Oper} {K : Env → Prop}

/-- A region whose order is drawn: its first n operations are static. -/
theorem DW.drawS {id : Nat} {l : List Oper} (n : Nat) (hm : C.P.follows .mixedOrders = true) (hok : ordOk l n n = true) (hn : n ≤ l.length) (h : RS C H l (l.take n) e fun ef => RO C l (l.drop n) ef H fun e' H' => Q .normal e' H') : DW C (.region id l.toArray true) e H Q := by
  have hl : l.take n ++ [] ++ l.drop n = l := by simp
  have hlen : (l.take n).length = n := by simp [Nat.min_eq_left hn]
  have := DW.draw (C := C) (e := e) (H := H) (Q := Q) (id := id) (l.take n) [] (l.drop n) none hm (by rw [hl, hlen]; exact hok) .none (by rw [hl]; exact h)
  rwa [hl] at this

/-- The same, where a variable is made, too: the operation behind the static ones. -/
theorem DW.drawA {id : Nat} {l : List Oper} (n : Nat) {s T : Nat} {k bytes : Nat} {zd : List D} {ty : TypeId} {pos : String} {af : Array Edge} [ElT C.P T k zd bytes] (hm : C.P.follows .mixedOrders = true) (hok : ordOk l n (n + 1) = true) (ha : l[n]? = some ⟨some s, .alloc T, ty, pos, af, none⟩) (hs : Nat.blt s C.N = true)
    (h : RS C H l (l.take n) e fun ef => ∀ b, H b = none → RO C l (l.drop (n + 1)) ((s, .ptr b 0) :: ef) (H.set b (T, zd)) fun e' H' => Q .normal e' H') : DW C (.region id l.toArray true) e H Q := by
  have hn : n < l.length := (List.getElem?_eq_some_iff.1 ha).1
  have hl : l.take n ++ [(⟨some s, .alloc T, ty, pos, af, none⟩ : Oper)] ++ l.drop (n + 1) = l := by
    have h1 : l[n] = ⟨some s, .alloc T, ty, pos, af, none⟩ := by
      rw [List.getElem?_eq_getElem hn] at ha
      exact Option.some.inj ha
    rw [← h1, List.take_append_getElem hn, List.take_append_drop]
  have hlen : (l.take n).length = n := by simp; omega
  have := DW.draw (C := C) (e := e) (H := H) (Q := Q) (id := id) (l.take n) [(⟨some s, .alloc T, ty, pos, af, none⟩ : Oper)] (l.drop (n + 1)) (some (s, T, zd)) hm (by rw [hl, hlen]; exact hok) (.some (ElT.z (E := T) (bytes := bytes)) (by simpa [Nat.blt_eq] using hs)) (by rw [hl]; exact h)
  rwa [hl] at this

theorem RS.nil (h : K e) : RS C H ops [] e K := h

theorem RS.sta {dst : Option Tmp} {op : Op} {ty : TypeId} {pos : String} {af : Array Edge} {d : D} (h : ∀ H', Over H H' → Sta C.P H' (e.mask ⟨dst, op, ty, pos, af, none⟩) ⟨dst, op, ty, pos, af, none⟩ d) (hd : dstOk C.N dst = true) (hk : RS C H ops rest (e.putO dst d) K) :
    RS C H ops (⟨dst, op, ty, pos, af, none⟩ :: rest) e K := ⟨hd, ⟨d, h, hk⟩⟩

theorem RS.yes {dst : Option Tmp} {op : Op} {ty : TypeId} {pos : String} {af : Array Edge} {j : Nat} {want : Bool} {d : D} (hg : guardD ops e j = some (some want)) (h : ∀ H', Over H H' → Sta C.P H' (e.mask ⟨dst, op, ty, pos, af, some (j, want)⟩) ⟨dst, op, ty, pos, af, some (j, want)⟩ d)
    (hd : dstOk C.N dst = true) (hk : RS C H ops rest (e.putO dst d) K) : RS C H ops (⟨dst, op, ty, pos, af, some (j, want)⟩ :: rest) e K := ⟨hd, ⟨_, hg, fun _ => ⟨d, h, hk⟩, fun h => absurd rfl h⟩⟩

theorem RS.no {dst : Option Tmp} {op : Op} {ty : TypeId} {pos : String} {af : Array Edge} {j : Nat} {want : Bool} {b : Option Bool} (hg : guardD ops e j = some b) (hb : b ≠ some want) (hd : dstOk C.N dst = true) (hk : RS C H ops rest (e.putO dst (.tup [])) K) :
    RS C H ops (⟨dst, op, ty, pos, af, some (j, want)⟩ :: rest) e K := ⟨hd, ⟨_, hg, fun h => absurd h hb, fun _ => hk⟩⟩

end
end Go.Proofs.Ytejpadofecboiaa
