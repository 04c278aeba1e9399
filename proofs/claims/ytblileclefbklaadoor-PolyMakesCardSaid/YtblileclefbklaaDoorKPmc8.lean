/-
  Package field, more of what its functions do. No condition.
-/
import Derived.Shelf.Strings.Builder1
import Derived.Shelf.Strings.Builder2
import Derived.Shelf.Strings.OnBuilder
import Derived.Shelf.Strconv.Itoa0
import Derived.Shelf.Strconv.Itoa1
import Derived.Shelf.LaysM
import Derived.Shelf.Strconv.Itoa2
import Derived.Shelf.Strconv.Itoa3
import Derived.Test.YtblileclefbklaaDoorProg
import Derived.Test.YtblileclefbklaaDoorKPmc7
import Derived.Test.YtblileclefbklaaDoorKPmc6
import Derived.Test.YtblileclefbklaaDoorTie
import Derived.Test.YtblileclefbklaaDoorCards
import Derived.LaidMore
import Derived.OpenShut
import Derived.Lib.LaidTab
import Derived.Lib.ItoaNum

namespace Go.Proofs
open Go.Shelf
def Tryd.lays156_ren : Go.Shelf.Ren := ⟨fun | 156 => 40 | 165 => 62 | 166 => 63 | 169 => 64 | 240 => 77 | 241 => 78 | 276 => 85 | 277 => 86 | n => n, fun | 31 => 63 | 9 => 9 | 3 => 3 | 4 => 4 | 0 => 0 | 20 => 20 | 72 => 84 | 76 => 88 | 70 => 82 | 37 => 71 | 75 => 87 | 127 => 100 | 164 => 105 | 5 => 5 | 80 => 90 | n => n, fun | n => n⟩
theorem Tryd.lays156 : Go.Proofs.Lays.n156 Tryd.prog Tryd.lays156_ren := {
  mixed := by kernel_rfl
  f156 := Tryd.func40.trans (congrArg some (by kernel_rfl))
  f165 := Tryd.func62.trans (congrArg some (by kernel_rfl))
  f166 := Tryd.func63.trans (congrArg some (by kernel_rfl))
  f169 := Tryd.func64.trans (congrArg some (by kernel_rfl))
  f240 := Tryd.func77.trans (congrArg some (by kernel_rfl))
  f241 := Tryd.func78.trans (congrArg some (by kernel_rfl))
  f276 := Tryd.func85.trans (congrArg some (by kernel_rfl))
  f277 := Tryd.func86.trans (congrArg some (by kernel_rfl))
  t0 := Tryd.underlying0
  a0 := Tryd.isAgg0
  z0 := Tryd.sizeOf0
  v0 := Tryd.zeroValue0
  t3 := Tryd.underlying3
  a3 := Tryd.isAgg3
  z3 := Tryd.sizeOf3
  v3 := Tryd.zeroValue3
  t4 := Tryd.underlying4
  a4 := Tryd.isAgg4
  z4 := Tryd.sizeOf4
  v4 := Tryd.zeroValue4
  t9 := Tryd.underlying9
  a9 := Tryd.isAgg9
  z9 := Tryd.sizeOf9
  v9 := Tryd.zeroValue9
  t20 := Tryd.underlying20
  a20 := Tryd.isAgg20
  z20 := Tryd.sizeOf20
  v20 := Tryd.zeroValue20
  t31 := Tryd.underlying63
  a31 := Tryd.isAgg63
  z31 := Tryd.sizeOf63
  v31 := Tryd.zeroValue63
  t37 := Tryd.underlying71
  a37 := Tryd.isAgg71
  z37 := Tryd.sizeOf71
  v37 := Tryd.zeroValue71
  t70 := Tryd.underlying82
  a70 := Tryd.isAgg82
  z70 := Tryd.sizeOf82
  v70 := Tryd.zeroValue82
  t72 := Tryd.underlying84
  a72 := Tryd.isAgg84
  z72 := Tryd.sizeOf84
  v72 := Tryd.zeroValue84
  t75 := Tryd.underlying87
  a75 := Tryd.isAgg87
  z75 := Tryd.sizeOf87
  v75 := Tryd.zeroValue87
  t76 := Tryd.underlying88
  a76 := Tryd.isAgg88
  z76 := Tryd.sizeOf88
  v76 := Tryd.zeroValue88
  t127 := Tryd.underlying100
  a127 := Tryd.isAgg100
  z127 := Tryd.sizeOf100
  v127 := Tryd.zeroValue100
  t164 := Tryd.underlying105
  a164 := Tryd.isAgg105
  z164 := Tryd.sizeOf105
  v164 := Tryd.zeroValue105 }
theorem Tryd.Builder_Extra_156 : Builder.Extra Tryd.prog Tryd.lays156_ren := {
  sizeBuilder := by kernel_rfl
  liesBuilder := by kernel_rfl
  t5 := Tryd.underlying5
  a5 := Tryd.isAgg5
  z5 := Tryd.sizeOf5
  v5 := Tryd.zeroValue5
  infoByte := by kernel_rfl
  cellsByte := by kernel_rfl
  sizeByte := by kernel_rfl
  neB5 := by decide }
open Go.RowKit in
/-- No element: the empty string; the world is as it was. (Whatever the slice's address and capacity: a nil slice too.) (LAID: no walk: one application.) -/
theorem Tryd.strings_Join_none (a : Option Addr) (c : Nat) (sep : ByteArray) (w : World) :
    Calls Tryd.prog 40 #[.slice a 0 c, .string sep] w fun e w' => e = .returned (.string ⟨#[]⟩) ∧ w' = w := Any.strings_Join_none Tryd.lays156 Tryd.Builder_Extra_156 a c sep w
open Go.RowKit in
/-- strings.Join: "Join concatenates the elements of its first argument to create a single string. The separator string sep is placed between elements in the resulting string.": HOWEVER MANY ELEMENTS. Below the heap's end the world is as it was. (LAID: no walk: one application.) -/
theorem Tryd.strings_Join (bk o c : Nat) (xs : List ByteArray) (sep : ByteArray) (w : World) (hcells : ∀ (j : Nat) x, xs[j]? = some x → w.cell? ⟨bk, o + j, none⟩ = some (.string x)) (hbk : bk < w.heap.size) (hN : xs.length ≤ 140737488355328) (hcap : xs.length ≤ c) (hlen : (Lib.join (xs.map (·.data.toList)) sep.data.toList).length ≤ 140737488355328) :
    Calls Tryd.prog 40 #[.slice (some ⟨bk, o, none⟩) xs.length c, .string sep] w fun e w' => e = .returned (.string ⟨(Lib.join (xs.map (·.data.toList)) sep.data.toList).toArray⟩) ∧ Below w.heap.size w w' := Any.strings_Join Tryd.lays156 Tryd.Builder_Extra_156 bk o c xs sep w hcells hbk hN hcap hlen
def Tryd.laysM171_ren : Go.Shelf.Ren := ⟨fun | 171 => 61 | 243 => 76 | 246 => 84 | 283 => 88 | 284 => 89 | 285 => 90 | 286 => 91 | 129 => 93 | 317 => 92 | 318 => 94 | 319 => 95 | 320 => 96 | 337 => 97 | 338 => 98 | n => n, fun | 3 => 3 | 9 => 9 | 2 => 2 | 4 => 4 | 171 => 108 | 0 => 0 | 53 => 109 | 37 => 71 | 5 => 5 | 173 => 112 | 212 => 116 | 51 => 117 | 20 => 20 | 213 => 118 | 46 => 101 | 232 => 121 | 233 => 122 | n => n, fun | 17 => 1 | 18 => 2 | 19 => 3 | n => n⟩
theorem Tryd.laysM171 : Go.Proofs.LaysM.n171 Tryd.prog Tryd.laysM171_ren := {
  mixed := by kernel_rfl
  f129 := Tryd.func93.trans (congrArg some (by kernel_rfl))
  f171 := Tryd.func61.trans (congrArg some (by kernel_rfl))
  f243 := Tryd.func76.trans (congrArg some (by kernel_rfl))
  f246 := Tryd.func84.trans (congrArg some (by kernel_rfl))
  f283 := Tryd.func88.trans (congrArg some (by kernel_rfl))
  f284 := Tryd.func89.trans (congrArg some (by kernel_rfl))
  f285 := Tryd.func90.trans (congrArg some (by kernel_rfl))
  f286 := Tryd.func91.trans (congrArg some (by kernel_rfl))
  f317 := Tryd.func92.trans (congrArg some (by kernel_rfl))
  f318 := Tryd.func94.trans (congrArg some (by kernel_rfl))
  f319 := Tryd.func95.trans (congrArg some (by kernel_rfl))
  f320 := Tryd.func96.trans (congrArg some (by kernel_rfl))
  f337 := Tryd.func97.trans (congrArg some (by kernel_rfl))
  f338 := Tryd.func98.trans (congrArg some (by kernel_rfl))
  t0 := Tryd.underlying0
  a0 := Tryd.isAgg0
  z0 := Tryd.sizeOf0
  v0 := Tryd.zeroValue0
  t2 := Tryd.underlying2
  a2 := Tryd.isAgg2
  z2 := Tryd.sizeOf2
  v2 := Tryd.zeroValue2
  t3 := Tryd.underlying3
  a3 := Tryd.isAgg3
  z3 := Tryd.sizeOf3
  v3 := Tryd.zeroValue3
  t4 := Tryd.underlying4
  a4 := Tryd.isAgg4
  z4 := Tryd.sizeOf4
  v4 := Tryd.zeroValue4
  t5 := Tryd.underlying5
  a5 := Tryd.isAgg5
  z5 := Tryd.sizeOf5
  v5 := Tryd.zeroValue5
  t9 := Tryd.underlying9
  a9 := Tryd.isAgg9
  z9 := Tryd.sizeOf9
  v9 := Tryd.zeroValue9
  t20 := Tryd.underlying20
  a20 := Tryd.isAgg20
  z20 := Tryd.sizeOf20
  v20 := Tryd.zeroValue20
  t37 := Tryd.underlying71
  a37 := Tryd.isAgg71
  z37 := Tryd.sizeOf71
  v37 := Tryd.zeroValue71
  t46 := Tryd.underlying101
  a46 := Tryd.isAgg101
  z46 := Tryd.sizeOf101
  v46 := Tryd.zeroValue101
  t51 := Tryd.underlying117
  a51 := Tryd.isAgg117
  z51 := Tryd.sizeOf117
  v51 := Tryd.zeroValue117
  t53 := Tryd.underlying109
  a53 := Tryd.isAgg109
  z53 := Tryd.sizeOf109
  v53 := Tryd.zeroValue109
  t171 := Tryd.underlying108
  a171 := Tryd.isAgg108
  z171 := Tryd.sizeOf108
  v171 := Tryd.zeroValue108
  t173 := Tryd.underlying112
  a173 := Tryd.isAgg112
  z173 := Tryd.sizeOf112
  v173 := Tryd.zeroValue112
  t212 := Tryd.underlying116
  a212 := Tryd.isAgg116
  z212 := Tryd.sizeOf116
  v212 := Tryd.zeroValue116
  t213 := Tryd.underlying118
  a213 := Tryd.isAgg118
  z213 := Tryd.sizeOf118
  t232 := Tryd.underlying121
  a232 := Tryd.isAgg121
  z232 := Tryd.sizeOf121
  v232 := Tryd.zeroValue121
  t233 := Tryd.underlying122
  a233 := Tryd.isAgg122
  z233 := Tryd.sizeOf122
  v233 := Tryd.zeroValue122
  g17 := by kernel_rfl
  g18 := by kernel_rfl
  g19 := by kernel_rfl
  i0 := by kernel_rfl
  i2 := by kernel_rfl
  i3 := by kernel_rfl
  i4 := by kernel_rfl
  i5 := by kernel_rfl
  i9 := by kernel_rfl
  i20 := by kernel_rfl
  i37 := by kernel_rfl
  i46 := by kernel_rfl
  i51 := by kernel_rfl
  i53 := by kernel_rfl
  i171 := by kernel_rfl
  i173 := by kernel_rfl
  i212 := by kernel_rfl
  i232 := by kernel_rfl
  i233 := by kernel_rfl
  m17 := by kernel_rfl
  m18 := by kernel_rfl
  m19 := by kernel_rfl }
open Go.RowKit Go.Sort Go.Lib in
/-- strconv.Itoa: "Itoa is equivalent to FormatInt(int64(i), 10).": i's DECIMAL NUMERAL ('Lib.itoa': a '-' where i is negative, then the digits), FOR EVERY int. The world behind the call: the world before it, new blocks behind the heap (the library's 'var a [24]byte'), draws. (LAID: no walk: one application.) -/
theorem Tryd.strconv_Itoa (n : Int) (h0 : -9223372036854775808 ≤ n) (h1 : n ≤ 9223372036854775807) (w : World) (htab : Lib.TabIs Tryd.prog w "internal/strconv.uint64pow10" .u64 Lib.pow10Tab) :
    Calls Tryd.prog 61 #[.int .i64 n] w fun e w' => e = .returned (.string ⟨(Lib.itoa n).toArray⟩) ∧ ∃ k os, w' = grow (w.drewN k) os := Any.strconv_Itoa Tryd.laysM171 n h0 h1 w htab
def Tryd.lays171_ren : Go.Shelf.Ren := ⟨fun | 171 => 61 | 243 => 76 | 246 => 84 | 283 => 88 | 284 => 89 | 285 => 90 | 286 => 91 | 129 => 93 | 317 => 92 | 318 => 94 | 319 => 95 | 320 => 96 | 337 => 97 | 338 => 98 | n => n, fun | 3 => 3 | 9 => 9 | 2 => 2 | 4 => 4 | 171 => 108 | 0 => 0 | 53 => 109 | 37 => 71 | 5 => 5 | 173 => 112 | 212 => 116 | 51 => 117 | 20 => 20 | 213 => 118 | 46 => 101 | 232 => 121 | 233 => 122 | n => n, fun | 17 => 1 | 18 => 2 | 19 => 3 | n => n⟩
theorem Tryd.lays171 : Go.Proofs.Lays.n171 Tryd.prog Tryd.lays171_ren := {
  mixed := by kernel_rfl
  f129 := Tryd.func93.trans (congrArg some (by kernel_rfl))
  f171 := Tryd.func61.trans (congrArg some (by kernel_rfl))
  f243 := Tryd.func76.trans (congrArg some (by kernel_rfl))
  f246 := Tryd.func84.trans (congrArg some (by kernel_rfl))
  f283 := Tryd.func88.trans (congrArg some (by kernel_rfl))
  f284 := Tryd.func89.trans (congrArg some (by kernel_rfl))
  f285 := Tryd.func90.trans (congrArg some (by kernel_rfl))
  f286 := Tryd.func91.trans (congrArg some (by kernel_rfl))
  f317 := Tryd.func92.trans (congrArg some (by kernel_rfl))
  f318 := Tryd.func94.trans (congrArg some (by kernel_rfl))
  f319 := Tryd.func95.trans (congrArg some (by kernel_rfl))
  f320 := Tryd.func96.trans (congrArg some (by kernel_rfl))
  f337 := Tryd.func97.trans (congrArg some (by kernel_rfl))
  f338 := Tryd.func98.trans (congrArg some (by kernel_rfl))
  t0 := Tryd.underlying0
  a0 := Tryd.isAgg0
  z0 := Tryd.sizeOf0
  v0 := Tryd.zeroValue0
  t2 := Tryd.underlying2
  a2 := Tryd.isAgg2
  z2 := Tryd.sizeOf2
  v2 := Tryd.zeroValue2
  t3 := Tryd.underlying3
  a3 := Tryd.isAgg3
  z3 := Tryd.sizeOf3
  v3 := Tryd.zeroValue3
  t4 := Tryd.underlying4
  a4 := Tryd.isAgg4
  z4 := Tryd.sizeOf4
  v4 := Tryd.zeroValue4
  t5 := Tryd.underlying5
  a5 := Tryd.isAgg5
  z5 := Tryd.sizeOf5
  v5 := Tryd.zeroValue5
  t9 := Tryd.underlying9
  a9 := Tryd.isAgg9
  z9 := Tryd.sizeOf9
  v9 := Tryd.zeroValue9
  t20 := Tryd.underlying20
  a20 := Tryd.isAgg20
  z20 := Tryd.sizeOf20
  v20 := Tryd.zeroValue20
  t37 := Tryd.underlying71
  a37 := Tryd.isAgg71
  z37 := Tryd.sizeOf71
  v37 := Tryd.zeroValue71
  t46 := Tryd.underlying101
  a46 := Tryd.isAgg101
  z46 := Tryd.sizeOf101
  v46 := Tryd.zeroValue101
  t51 := Tryd.underlying117
  a51 := Tryd.isAgg117
  z51 := Tryd.sizeOf117
  v51 := Tryd.zeroValue117
  t53 := Tryd.underlying109
  a53 := Tryd.isAgg109
  z53 := Tryd.sizeOf109
  v53 := Tryd.zeroValue109
  t171 := Tryd.underlying108
  a171 := Tryd.isAgg108
  z171 := Tryd.sizeOf108
  v171 := Tryd.zeroValue108
  t173 := Tryd.underlying112
  a173 := Tryd.isAgg112
  z173 := Tryd.sizeOf112
  v173 := Tryd.zeroValue112
  t212 := Tryd.underlying116
  a212 := Tryd.isAgg116
  z212 := Tryd.sizeOf116
  v212 := Tryd.zeroValue116
  t213 := Tryd.underlying118
  a213 := Tryd.isAgg118
  z213 := Tryd.sizeOf118
  t232 := Tryd.underlying121
  a232 := Tryd.isAgg121
  z232 := Tryd.sizeOf121
  v232 := Tryd.zeroValue121
  t233 := Tryd.underlying122
  a233 := Tryd.isAgg122
  z233 := Tryd.sizeOf122
  v233 := Tryd.zeroValue122
  g17 := by kernel_rfl
  g18 := by kernel_rfl
  g19 := by kernel_rfl }
open Go.RowKit Go.Sort Go.Lib in
/-- THE ROAD WITHOUT THE TABLE: 0 <= i < 100: NO PREMISE ON THE WORLD, AND THE WORLD IS AS IT WAS: a row that keeps its argument in that range need list no table ('laid = []'). (LAID: no walk: one application.) -/
theorem Tryd.strconv_Itoa_small (i : Nat) (hi : i < 100) (w : World) :
    Calls Tryd.prog 61 #[.int .i64 i] w fun e w' => e = .returned (.string ⟨(Lib.decDigits i).toArray⟩) ∧ w' = w := Any.strconv_Itoa_small Tryd.lays171 i hi w
end Go.Proofs

namespace Go.Proofs.YtblileclefbklaaDoor
open Go.RowKit
set_option linter.unusedVariables false
set_option linter.unusedSimpArgs false

theorem Tryd.powNamed : Tryd.prog.globalNamed "internal/strconv.uint64pow10" = some 1 := by kernel_rfl

theorem tabIs_of {w : World} {H : Heap} (ho : HOK w H) : Lib.TabIs Tryd.prog w "internal/strconv.uint64pow10" .u64 Lib.pow10Tab := by
  obtain ⟨_, T, h⟩ := ho.inv 1 _ rfl
  unfold Lib.TabIs World.var?
  rw [Tryd.powNamed]
  simp only [Option.bind_some, h]
  rfl

/-- A number's text. -/
theorem Tryd.Itoa_pure {n : Int} (h0 : -9223372036854775808 ≤ n) (h1 : n ≤ 9223372036854775807) : Pure Tryd.prog 61 [I n] (strD (Lib.itoa n)) :=
  pure_of_calls ⟨_, Tryd.func61, rfl, rfl⟩ fun H w args ho hr => by
    obtain ⟨hs, hv⟩ := hr
    obtain ⟨v, hv0, hrep⟩ := hv 0 _ rfl
    have hv' := rep_int hrep
    subst hv'
    obtain rfl : args = #[.int .i64 n] := by
      apply Array.ext_getElem?
      intro j
      cases j with
      | zero => rw [hv0]; rfl
      | succ j => rw [Array.getElem?_eq_none (by rw [hs]; simp), Array.getElem?_eq_none (by simp)]
    refine (Tryd.strconv_Itoa n h0 h1 w (tabIs_of ho)).mono ?_
    rintro e w' ⟨rfl, k, os, rfl⟩
    exact ⟨_, rfl, .str _, ⟨rfl, rfl, rfl, by simp [Sort.grow], fun j hj => by simp [Sort.grow, Array.getElem?_append, hj, World.drewN]⟩⟩

/-- A list of texts, joined. -/
theorem Tryd.Join_pure (xs : List (List UInt8)) (sep : List UInt8) (hN : xs.length ≤ 140737488355328) (hlen : (Lib.join xs sep).length ≤ 140737488355328) :
    Pure Tryd.prog 40 [.list 1 (xs.map strD), strD sep] (strD (Lib.join xs sep)) :=
  pure_of_calls ⟨_, Tryd.func40, rfl, rfl⟩ fun H w args ho hr => by
    obtain ⟨hs, hv⟩ := hr
    obtain ⟨v0, hv0, hrep0⟩ := hv 0 _ rfl
    obtain ⟨v1, hv1, hrep1⟩ := hv 1 _ rfl
    have hv1' := rep_str hrep1
    subst hv1'
    obtain rfl : args = #[v0, .string ⟨sep.toArray⟩] := by
      apply Array.ext_getElem?
      intro j
      match j with
      | 0 => rw [hv0]; rfl
      | 1 => rw [hv1]; rfl
      | j + 2 => rw [Array.getElem?_eq_none (by rw [hs]; simp), Array.getElem?_eq_none (by simp)]
    generalize hl : xs.map strD = l at hrep0
    have hll : l.length = xs.length := by rw [← hl]; simp
    cases hrep0 with
    | list vals hc hm h1 h2 h3 =>
      rename_i a c
      by_cases hx : xs = []
      · subst hx
        subst hl
        refine (Tryd.strings_Join_none a c _ w).mono ?_
        rintro e w' ⟨rfl, rfl⟩
        exact ⟨_, rfl, .str _, Below.refl _ _⟩
      · have hcell : ∀ j (hj : j < xs.length), cellAt l j 0 = some (strD xs[j]) := fun j hj => by
          rw [← hl]
          exact cellAt_map1 (fun _ => rfl) hj
        have hpos : 0 < xs.length := List.length_pos_iff.2 hx
        obtain ⟨b, off, rfl, hH, hw⟩ := h2 0 0 _ (hcell 0 hpos)
        rw [hll]
        have hmap : (xs.map fun x => (⟨x.toArray⟩ : ByteArray)).map (·.data.toList) = xs := by
          rw [List.map_map]
          exact List.map_id' _
        have hgo := Tryd.strings_Join b off c (xs.map fun x => (⟨x.toArray⟩ : ByteArray)) ⟨sep.toArray⟩ w (fun j x hj => by
            have hjl : j < xs.length := by
              have := (List.getElem?_eq_some_iff.1 hj).1
              simpa using this
            obtain ⟨b', off', ha, _, hw'⟩ := h2 j 0 _ (hcell j hjl)
            cases ha
            rw [rep_str (h3 j 0 _ (hcell j hjl))] at hw'
            simp [hjl] at hj
            subst hj
            simpa using hw') (World.block_lt_of_cell? w ⟨b, _, none⟩ hw) (by simpa using hN) (by simpa [hll] using hc) (by rw [hmap]; exact hlen)
        rw [hmap, List.length_map] at hgo
        refine hgo.mono ?_
        rintro e w' ⟨rfl, hb⟩
        exact ⟨_, rfl, .str _, hb⟩

end Go.Proofs.YtblileclefbklaaDoor

namespace Go.Proofs.YtblileclefbklaaDoor
open Go.RowKit Go.ChangeShapes Go.WideShapes Go.ChangeAt
set_option linter.unusedVariables false
set_option linter.unusedSimpArgs false

theorem Tryd.ownK : ownKnob Tryd.prog.godebug = none := by kernel_rfl
theorem Tryd.laidOutK : laidOutB Tryd.prog = true := by kernel_rfl

/-- An argument that is one cell. -/
theorem arg_cell {α : Type} {P : Program} {t : TypeId} {f : α → D} {Q : α → Prop} (ho : Opens P t 1 f Q) (hf : ∀ a, cellsOf (f a) = [f a]) {H : Type} {enc : TypeId × Value → H} {W : World} {v : Value} {d : DataW H} {p : List MemPlace} (hv : v.cells = #[v])
    (h : DataW.Trod enc P W 0 (fun _ => true) true t v d p) (hw : (d.weights P t).all (· ≤ reachBytes) = true) : ∃ a, Rep W noHeap v (f a) ∧ Q a := by
  obtain ⟨fuel, hf'⟩ := h
  obtain ⟨a, _, hr, hq⟩ := ho H enc W fuel _ d p hf' hw
  rw [hv, hf] at hr
  obtain ⟨u, hu, hrep⟩ := hr.2 0 (f a) rfl
  simp at hu
  subst hu
  exact ⟨a, hrep, hq⟩

/-- An argument that is a struct. -/
theorem arg_agg {α : Type} {P : Program} {t : TypeId} {k : Nat} {f : α → D} {Q : α → Prop} (ho : Opens P t k f Q) (hf : ∀ a, f a = .agg (cellsOf (f a))) {H : Type} {enc : TypeId × Value → H} {W : World} {cs : Array Value} {d : DataW H} {p : List MemPlace}
    (h : DataW.Trod enc P W 0 (fun _ => true) true t (.agg cs) d p) (hw : (d.weights P t).all (· ≤ reachBytes) = true) : ∃ a, Rep W noHeap (.agg cs) (f a) ∧ Q a := by
  obtain ⟨fuel, hf'⟩ := h
  obtain ⟨a, _, hr, hq⟩ := ho H enc W fuel _ d p hf' hw
  refine ⟨a, ?_, hq⟩
  rw [hf a]
  have : (Value.agg cs).cells.toList.toArray = cs := by simp [Value.cells]
  rw [this] at hr
  exact hr.agg

theorem slice_cells (a : Option Addr) (n c : Nat) : (Value.slice a n c).cells = #[.slice a n c] := rfl
theorem int_cells (k : IntKind) (n : Int) : (Value.int k n).cells = #[.int k n] := rfl

/-- The arguments, one after the other. -/
inductive ArgsAre (W : World) : List Value → List D → Prop
  | nil : ArgsAre W [] []
  | cons {v : Value} {d : D} {vs : List Value} {ds : List D} (h : Rep W noHeap v d) (r : ArgsAre W vs ds) : ArgsAre W (v :: vs) (d :: ds)

theorem ArgsAre.reps {W : World} : ∀ {vs : List Value} {ds : List D}, ArgsAre W vs ds → RepsA W noHeap vs.toArray ds
  | _, _, .nil => ⟨rfl, fun j x h => by simp at h⟩
  | _, _, .cons h r => by
    have ih := r.reps
    refine ⟨by simpa using ih.1, fun j x hx => ?_⟩
    cases j with
    | zero => simp at hx; subst hx; exact ⟨_, by simp, h⟩
    | succ j =>
      obtain ⟨u, hu, hr⟩ := ih.2 j x (by simpa using hx)
      exact ⟨u, by simpa using hu, hr⟩

theorem weights_head {H : Type} {P : Program} {t : TypeId} {ts : List TypeId} {d : DataW H} {ds : List (DataW H)} (h : (DataW.weightsEach P (t :: ts) (d :: ds)).all (· ≤ reachBytes) = true) : (d.weights P t).all (· ≤ reachBytes) = true ∧ (DataW.weightsEach P ts ds).all (· ≤ reachBytes) = true := by
  simpa only [DataW.weightsEach, List.all_append, Bool.and_eq_true] using h

theorem Tryd.opensInt : Opens Tryd.prog 3 1 I fitsInt := opens_int Tryd.underlying3
theorem Tryd.opensInts : Opens Tryd.prog 36 1 intsD (fun l => (∀ a ∈ l, fitsInt a) ∧ l.length * Tryd.prog.bytesOf 3 ≤ reachBytes) := opens_slice Tryd.underlying36 (by kernel_rfl) (by decide) (fun _ => rfl) (opens_int Tryd.underlying3)
theorem Tryd.opensRows : Opens Tryd.prog 75 1 intssD (fun l => (∀ a ∈ l, (∀ x ∈ a, fitsInt x) ∧ a.length * Tryd.prog.bytesOf 3 ≤ reachBytes) ∧ l.length * Tryd.prog.bytesOf 36 ≤ reachBytes) := opens_slice Tryd.underlying75 (by kernel_rfl) (by decide) (fun _ => rfl) Tryd.opensInts
theorem Tryd.opensRing : Opens Tryd.prog 23 4 rgD (fun r => fitsInt r.p ∧ fitsInt r.n ∧ fitsInt r.order ∧ fitsInt r.over) := opens_ring Tryd.underlying23 (by kernel_rfl) Tryd.underlying3 (by kernel_rfl) ⟨rfl, rfl⟩ ⟨rfl, rfl⟩ ⟨rfl, rfl⟩ ⟨rfl, rfl⟩

theorem len_le {n b : Nat} (h : n * b ≤ reachBytes) (hb : 8 ≤ b) : n ≤ 17592186044416 := by
  have h1 : n * 8 ≤ n * b := Nat.mul_le_mul_left _ hb
  unfold reachBytes at h
  omega

theorem Tryd.bytes_int : 8 ≤ Tryd.prog.bytesOf 3 := of_decide_eq_true (by kernel_rfl)
theorem Tryd.bytes_ints : 8 ≤ Tryd.prog.bytesOf 36 := of_decide_eq_true (by kernel_rfl)


/-- What a pure law that says true comes to. -/
theorem law_calls {P : Program} {f : FuncId} {ds : List D} (hp : Pure P f ds (.bool true)) {W : World} (hi : TabsOk W noHeap) {args : Array Value} (ha : ArgsAre W args.toList ds) : Calls P f args W fun e W' => e = .returned (.bool true) ∧ Below W.heap.size W W' := by
  have hr := ha.reps
  rw [Array.toArray_toList] at hr
  refine ((hp noHeap).calls W args (hok_none W hi) hr).mono fun e W' ⟨v, he, hv, _, hx⟩ => ⟨?_, ext_below hx⟩
  rw [he, rep_bool hv]

end Go.Proofs.YtblileclefbklaaDoor

namespace Go.Proofs.YtblileclefbklaaDoor
open Go.RowKit Go.ChangeShapes Go.WideShapes Go.ChangeAt
set_option linter.unusedVariables false
set_option linter.unusedSimpArgs false

theorem opens_two {α β γ : Type} {P : Program} {t t0 t1 : TypeId} {f0 f1 : Field} {f : γ → D} {g0 : α → D} {g1 : β → D} {Q0 : α → Prop} {Q1 : β → Prop} (mk : α → β → γ) (hu : P.underlying t = some (.struct #[f0, f1])) (hc : P.cellsOf t = 2)
    (hc0 : P.cellsOf t0 = 1) (hc1 : P.cellsOf t1 = 1) (h0 : f0.type = t0 ∧ f0.offset = 0) (h1 : f1.type = t1 ∧ f1.offset = 1) (hf : ∀ a b, cellsOf (f (mk a b)) = [g0 a, g1 b]) (hg0 : ∀ a, cellsOf (g0 a) = [g0 a]) (hg1 : ∀ a, cellsOf (g1 a) = [g1 a])
    (ho0 : Opens P t0 1 g0 Q0) (ho1 : Opens P t1 1 g1 Q1) : Opens P t 2 f (fun c => ∃ a b, c = mk a b ∧ Q0 a ∧ Q1 b) := by
  intro H enc W fuel cs d ps h hw
  cases fuel with
  | zero => simp [DataW.trod] at h
  | succ fuel =>
    unfold DataW.trod at h
    rw [hu] at h
    split at h <;> try (simp at *; done)
    rename_i cs _ _ fs h1'
    cases h1'
    split at h
    · rename_i hlen
      rw [hc] at hlen
      match cs, hlen with
      | [c0, c1], _ =>
        simp only [List.mapM_cons, List.mapM_nil, h0.1, h0.2, h1.1, h1.2, hc0, hc1, List.drop, List.take] at h
        cases e0 : DataW.trod enc P W 0 (fun _ => true) true fuel t0 [c0] with
        | none => simp [e0] at h
        | some y0 =>
          cases e1 : DataW.trod enc P W 0 (fun _ => true) true fuel t1 [c1] with
          | none => simp [e0, e1] at h
          | some y1 =>
            simp [e0, e1] at h
            obtain ⟨rfl, _⟩ := h
            obtain ⟨d0, p0⟩ := y0
            obtain ⟨d1, p1⟩ := y1
            simp only [DataW.weights, hu, List.map_cons, List.map_nil, DataW.weightsEach, h0.1, h1.1, List.append_nil, List.all_append, Bool.and_eq_true] at hw
            obtain ⟨a, ha1, ha2, ha3⟩ := ho0 H enc W fuel [c0] d0 p0 e0 hw.1
            obtain ⟨b, hb1, hb2, hb3⟩ := ho1 H enc W fuel [c1] d1 p1 e1 hw.2
            rw [hg0] at ha2
            rw [hg1] at hb2
            refine ⟨mk a b, by rw [hf]; rfl, ?_, a, b, rfl, ha3, hb3⟩
            rw [hf]
            refine ⟨rfl, fun j x hx => ?_⟩
            match j, hx with
            | 0, hx =>
              cases hx
              obtain ⟨v, hv, hr⟩ := ha2.2 0 (g0 a) rfl
              simp at hv
              subst hv
              exact ⟨_, rfl, hr⟩
            | 1, hx =>
              cases hx
              obtain ⟨v, hv, hr⟩ := hb2.2 0 (g1 b) rfl
              simp at hv
              subst hv
              exact ⟨_, rfl, hr⟩
            | j + 2, hx => simp at hx
    · cases h

/-- What is known of a term that is handed in. -/
def TmIn (P : Program) (ti : TypeId) (t : Tm) : Prop := ∃ a b, t = ⟨a, b⟩ ∧ fitsInt a ∧ ((∀ x ∈ b, fitsInt x) ∧ b.length * P.bytesOf ti ≤ reachBytes)

theorem Tryd.opensTerm : Opens Tryd.prog 54 2 tmD (TmIn Tryd.prog 3) := opens_two (fun c e => (⟨c, e⟩ : Tm)) Tryd.underlying54 (by kernel_rfl) (by kernel_rfl) (by kernel_rfl) ⟨rfl, rfl⟩ ⟨rfl, rfl⟩ (fun _ _ => rfl) (fun _ => rfl) (fun _ => rfl) Tryd.opensInt Tryd.opensInts

theorem Tryd.opensPoly : Opens Tryd.prog 25 1 plD (fun l => (∀ a ∈ l, TmIn Tryd.prog 3 a) ∧ l.length * Tryd.prog.bytesOf 54 ≤ reachBytes) := opens_slice Tryd.underlying25 (by kernel_rfl) (by decide) (fun _ => rfl) Tryd.opensTerm

theorem Tryd.opensTerms : Opens Tryd.prog 24 1 plD (fun l => (∀ a ∈ l, TmIn Tryd.prog 3 a) ∧ l.length * Tryd.prog.bytesOf 54 ≤ reachBytes) := opens_slice Tryd.underlying24 (by kernel_rfl) (by decide) (fun _ => rfl) Tryd.opensTerm

theorem Tryd.opensPolys : Opens Tryd.prog 30 1 vcD (fun l => (∀ f ∈ l, (∀ a ∈ f, TmIn Tryd.prog 3 a) ∧ f.length * Tryd.prog.bytesOf 54 ≤ reachBytes) ∧ l.length * Tryd.prog.bytesOf 25 ≤ reachBytes) := opens_slice Tryd.underlying30 (by kernel_rfl) (by decide) (fun _ => rfl) Tryd.opensPoly



theorem Tryd.bytes_term : 8 ≤ Tryd.prog.bytesOf 54 := of_decide_eq_true (by kernel_rfl)
theorem Tryd.bytes_poly : 8 ≤ Tryd.prog.bytesOf 25 := of_decide_eq_true (by kernel_rfl)

end Go.Proofs.YtblileclefbklaaDoor

namespace Go.Proofs.YtblileclefbklaaDoor
open Go.RowKit
set_option linter.unusedVariables false

theorem plLe {f : Pl} (b : (∀ a ∈ f, TmIn Tryd.prog 3 a) ∧ f.length * Tryd.prog.bytesOf 54 ≤ reachBytes) : f.length ≤ 4611686018427387904 := by have := len_le b.2 Tryd.bytes_term; omega

theorem vcLe {v : Vc} (b : (∀ f ∈ v, (∀ a ∈ f, TmIn Tryd.prog 3 a) ∧ f.length * Tryd.prog.bytesOf 54 ≤ reachBytes) ∧ v.length * Tryd.prog.bytesOf 25 ≤ reachBytes) :
    v.length ≤ 4611686018427387904 ∧ ∀ f ∈ v, f.length ≤ 4611686018427387904 := ⟨by have := len_le b.2 Tryd.bytes_poly; omega, fun f hf => plLe (b.1 f hf)⟩

end Go.Proofs.YtblileclefbklaaDoor

namespace Go.Proofs.YtblileclefbklaaDoor
open Go.RowKit Go.ChangeShapes Go.WideShapes Go.ChangeAt
set_option linter.unusedVariables false
set_option linter.unusedSimpArgs false

abbrev Tryd.laidL : List (String × DataW Unit) := [("math/bits.deBruijn32tab", Rows.laid_math_bits_deBruijn32tab), ("math/bits.deBruijn64tab", Rows.laid_math_bits_deBruijn64tab), ("internal/strconv.uint64pow10", Rows.laid_internal_strconv_uint64pow10)]

set_option maxRecDepth 100000 in
theorem Tryd.door_met (os : Os) (args : Array Value) : laidMetH Tryd.prog Tryd.laidL ((World.doorLaid Tryd.prog 24 os).forCall (fun _ _ => 0) ⟨#[], args, []⟩).memory :=
  laidMetH_of_parts3 (fuel := 8) (laidMet_of_run' 8 (by kernel_rfl) (by kernel_rfl)) (by kernel_rfl) (by kernel_rfl)

theorem Tryd.gPow : Tryd.prog.globalNamed "internal/strconv.uint64pow10" = some 1 := by kernel_rfl
theorem Tryd.tPow : (Tryd.prog.globals[1]?).map (·.type) = some 116 := by kernel_rfl

theorem Tryd.tabs_of_laid {W : World} (h : laidMetH Tryd.prog Tryd.laidL W) : TabsOk W noHeap := by
  rw [MakeChecks.laidMetH_plain _ _ _ (by kernel_rfl)] at h
  obtain ⟨ps, ⟨g0, t0, cs0, f0, p0, q0, hg0, ht0, hv0, hd0, ⟨g1, t1, cs1, f1, p1, q1, hg1, ht1, hv1, hd1, ⟨g2, t2, cs2, f2, p2, q2, hg2, ht2, hv2, hd2, _, hq2⟩, hq1⟩, hq0⟩, _, hall⟩ := h
  obtain rfl := Option.some.inj (Tryd.gPow.symm.trans hg2)
  obtain rfl := Option.some.inj (Tryd.tPow.symm.trans ht2)
  have hcs := Lib.cells_of_tab (k := .u64) (zs := Lib.pow10Tab) Tryd.underlying116 Tryd.underlying109 (by kernel_rfl) (by kernel_rfl) hd2
  intro g cs hg
  unfold tabs at hg
  split at hg
  · rename_i hgg
    subst hgg
    cases hg
    refine ⟨rfl, ?_⟩
    have hsz : cs2.size = 20 := by
      have := congrArg List.length hcs
      simpa [Lib.pow10Tab] using this
    have hmem : MemPlace.cell 1 0 ∈ ps := by
      rw [hq0, hq1, hq2]
      have : MemPlace.cell 1 0 ∈ MemPlace.row ⟨1, 0, none⟩ cs2.size := by
        rw [hsz]
        simp [MemPlace.row]
      simp [this]
    obtain ⟨⟨c, t, hc⟩, _⟩ := hall _ _ hmem
    refine ⟨t, ?_⟩
    rw [hc]
    have : c = cs2 := by
      simp only [World.var?, Tryd.gPow, Option.bind_some, hc] at hv2
      exact Option.some.inj hv2
    rw [this]
    have : cs2 = (Lib.pow10Tab.map fun z => Value.int .u64 z).toArray := by
      rw [← hcs]
    rw [this]
    rfl
  · cases hg

end Go.Proofs.YtblileclefbklaaDoor

namespace Go.Proofs.YtblileclefbklaaDoor
open Go.RowKit
set_option linter.unusedVariables false
set_option linter.unusedSimpArgs false

theorem within_pure (n lo hi : Int) : Pure Tryd.prog 59 [I n, I lo, I hi] (.bool (decide (lo ≤ n) && decide (n ≤ hi))) := by
  intro H
  refine PureH.of_body Tryd.func59 rfl (by decide) (Nat.le_of_ble_eq_true rfl) fun w0 => ?_
  (repeat (first | refine RO.S ?_ | refine RO.Y ?_ | refine RO.no rfl (by decide) rfl ?_ | refine RO.nil ?_ | refine DW.region ?_ | refine DW.seq ?_ | refine DW.block ?_ | refine DW.skip ?_ | refine DW.exit ?_ | refine DW.condT rfl ?_ | refine DW.condF rfl ?_))
  generalize decide (lo ≤ n) = b
  cases b <;> ((repeat (first | refine RO.S ?_ | refine RO.Y ?_ | refine RO.no rfl (by decide) rfl ?_ | refine RO.nil ?_ | refine DW.region ?_ | refine DW.seq ?_ | refine DW.block ?_ | refine DW.skip ?_ | refine DW.exit ?_ | refine DW.condT rfl ?_ | refine DW.condF rfl ?_))) <;> exact DW.ret ⟨.inl rfl, _, rfl, Over.refl _, .same _⟩

theorem between_pure (n lo hi : Int) : Pure Tryd.prog 41 [I n, I lo, I hi] (.bool (decide (lo ≤ n) && decide (n ≤ hi))) := by
  intro H
  refine PureH.of_body Tryd.func41 rfl (by decide) (Nat.le_of_ble_eq_true rfl) fun w0 => ?_
  (repeat (first | refine RO.S ?_ | refine RO.Y ?_ | refine RO.no rfl (by decide) rfl ?_ | refine RO.nil ?_ | refine DW.region ?_ | refine DW.seq ?_ | refine DW.block ?_ | refine DW.skip ?_ | refine DW.exit ?_ | refine DW.condT rfl ?_ | refine DW.condF rfl ?_))
  generalize decide (lo ≤ n) = b
  cases b <;> ((repeat (first | refine RO.S ?_ | refine RO.Y ?_ | refine RO.no rfl (by decide) rfl ?_ | refine RO.nil ?_ | refine DW.region ?_ | refine DW.seq ?_ | refine DW.block ?_ | refine DW.skip ?_ | refine DW.exit ?_ | refine DW.condT rfl ?_ | refine DW.condF rfl ?_))) <;> exact DW.ret ⟨.inl rfl, _, rfl, Over.refl _, .same _⟩

/-- Where the first one is that is so; -1: nowhere. -/
def idxD {α : Type} (g : α → Bool) (l : List α) : Int :=
  match l.findIdx? g with
  | some i => i
  | none => -1

theorem idxD_at {α : Type} {g : α → Bool} {l : List α} {k : Nat} (hk : k < l.length) (h1 : ∀ (j : Nat) (hj : j < l.length), j < k → g l[j] = false) (h2 : g l[k] = true) : idxD g l = k := by
  have : l.findIdx? g = some k := by
    rw [List.findIdx?_eq_some_iff_getElem]
    exact ⟨hk, h2, fun j hj => by rw [h1 j (by omega) hj]; simp⟩
  simp [idxD, this]

theorem idxD_none {α : Type} {g : α → Bool} {l : List α} (h : ∀ (j : Nat) (hj : j < l.length), g l[j] = false) : idxD g l = -1 := by
  have : l.findIdx? g = none := by
    rw [List.findIdx?_eq_none_iff]
    intro x hx
    obtain ⟨j, hj, rfl⟩ := List.mem_iff_getElem.1 hx
    exact h j hj
  simp [idxD, this]

theorem indexFunc_int {H : Heap} {f : FuncId} {caps : List D} (l : List Int) (g : Int → Bool) (hl : l.length ≤ 4611686018427387904) (hg : ∀ x, x ∈ l → PureH Tryd.prog H f (I x :: caps) (.bool (g x))) :
    PureH Tryd.prog H 75 [intsD l, .fn f caps] (I (idxD g l)) := by
  refine PureH.of_body Tryd.func75 rfl (by decide) (Nat.le_of_ble_eq_true rfl) fun w0 => ?_
  (repeat (first | refine RO.S ?_ | refine RO.Y ?_ | refine RO.no rfl (by decide) rfl ?_ | refine RO.nil ?_ | refine DW.region ?_ | refine DW.seq ?_ | refine DW.block ?_ | refine DW.skip ?_ | refine DW.exit ?_ | refine DW.condT rfl ?_ | refine DW.condF rfl ?_))
  refine DW.loopI (fun k : Nat => k ≤ l.length ∧ ∀ (j : Nat) (hj : j < l.length), j < k → g l[j] = false) (fun k => [(0, intsD l), (1, .fn f caps), (7, I l.length), (8, I k)]) (fun _ => H) (fun k => l.length - k) 0 ⟨Nat.zero_le _, fun j hj h => by omega⟩ rfl ⟨rfl, rfl, rfl, rfl, trivial⟩ fun k ⟨hk, hk2⟩ => ?_
  (repeat (first | refine RO.S ?_ | refine RO.Y ?_ | refine RO.no rfl (by decide) rfl ?_ | refine RO.nil ?_ | refine DW.region ?_ | refine DW.seq ?_ | refine DW.block ?_ | refine DW.skip ?_ | refine DW.exit ?_ | refine DW.condT rfl ?_ | refine DW.condF rfl ?_))
  refine DW.cond rfl (fun hb => ?_) (fun hb => ?_)
  · have hlt : k < l.length := by have := of_decide_eq_true hb; omega
    (repeat (first | refine RO.S ?_ | refine RO.Y ?_ | refine RO.no rfl (by decide) rfl ?_ | refine RO.nil ?_ | refine DW.region ?_ | refine DW.seq ?_ | refine DW.block ?_ | refine DW.skip ?_ | refine DW.exit ?_ | refine DW.condT rfl ?_ | refine DW.condF rfl ?_))
    refine RO.sta (sta_call rfl rfl (hg _ (List.getElem_mem hlt))) rfl ?_
    (repeat (first | refine RO.S ?_ | refine RO.Y ?_ | refine RO.no rfl (by decide) rfl ?_ | refine RO.nil ?_ | refine DW.region ?_ | refine DW.seq ?_ | refine DW.block ?_ | refine DW.skip ?_ | refine DW.exit ?_ | refine DW.condT rfl ?_ | refine DW.condF rfl ?_))
    refine DW.cond rfl (fun hb => ?_) (fun hb => ?_)
    · (repeat (first | refine RO.S ?_ | refine RO.Y ?_ | refine RO.no rfl (by decide) rfl ?_ | refine RO.nil ?_ | refine DW.region ?_ | refine DW.seq ?_ | refine DW.block ?_ | refine DW.skip ?_ | refine DW.exit ?_ | refine DW.condT rfl ?_ | refine DW.condF rfl ?_))
      rw [idxD_at hlt hk2 hb]
      exact DW.ret ⟨.inl rfl, _, rfl, Over.refl _, .same _⟩
    · (repeat (first | refine RO.S ?_ | refine RO.Y ?_ | refine RO.no rfl (by decide) rfl ?_ | refine RO.nil ?_ | refine DW.region ?_ | refine DW.seq ?_ | refine DW.block ?_ | refine DW.skip ?_ | refine DW.exit ?_ | refine DW.condT rfl ?_ | refine DW.condF rfl ?_))
      refine ⟨k + 1, ⟨by omega, fun j hj hjk => ?_⟩, by dsimp only; omega, rfl, rfl, rfl, rfl, rfl, trivial⟩
      by_cases h : j = k
      · subst h; exact hb
      · exact hk2 j hj (by omega)
  · (repeat (first | refine RO.S ?_ | refine RO.Y ?_ | refine RO.no rfl (by decide) rfl ?_ | refine RO.nil ?_ | refine DW.region ?_ | refine DW.seq ?_ | refine DW.block ?_ | refine DW.skip ?_ | refine DW.exit ?_ | refine DW.condT rfl ?_ | refine DW.condF rfl ?_))
    have hn : ¬ k < l.length := by have := of_decide_eq_false hb; omega
    rw [idxD_none fun j hj => hk2 j hj (by omega)]
    exact DW.ret ⟨.inl rfl, _, rfl, Over.refl _, .same _⟩

theorem containsFunc_int {H : Heap} {f : FuncId} {caps : List D} (l : List Int) (g : Int → Bool) (hl : l.length ≤ 4611686018427387904) (hg : ∀ x, x ∈ l → PureH Tryd.prog H f (I x :: caps) (.bool (g x))) :
    PureH Tryd.prog H 57 [intsD l, .fn f caps] (.bool (l.any g)) := by
  refine PureH.of_body Tryd.func57 rfl (by decide) (Nat.le_of_ble_eq_true rfl) fun w0 => ?_
  (repeat (first | refine RO.S ?_ | refine RO.Y ?_ | refine RO.no rfl (by decide) rfl ?_ | refine RO.nil ?_ | refine DW.region ?_ | refine DW.seq ?_ | refine DW.block ?_ | refine DW.skip ?_ | refine DW.exit ?_ | refine DW.condT rfl ?_ | refine DW.condF rfl ?_))
  refine RO.sta (sta_call rfl rfl (indexFunc_int l g hl hg)) rfl ?_
  (repeat (first | refine RO.S ?_ | refine RO.Y ?_ | refine RO.no rfl (by decide) rfl ?_ | refine RO.nil ?_ | refine DW.region ?_ | refine DW.seq ?_ | refine DW.block ?_ | refine DW.skip ?_ | refine DW.exit ?_ | refine DW.condT rfl ?_ | refine DW.condF rfl ?_))
  have h : decide (0 ≤ idxD g l) = l.any g := by
    unfold idxD
    cases hx : l.findIdx? g with
    | none =>
      rw [List.findIdx?_eq_none_iff] at hx
      have : l.any g = false := by rw [List.any_eq_false]; intro x hm; simp [hx x hm]
      rw [this]; rfl
    | some i =>
      rw [List.findIdx?_eq_some_iff_getElem] at hx
      obtain ⟨h1, h2, _⟩ := hx
      have : l.any g = true := List.any_eq_true.2 ⟨_, List.getElem_mem h1, h2⟩
      rw [this]
      show decide (0 ≤ (i : Int)) = true
      exact decide_eq_true (by omega)
  rw [← h]
  exact DW.ret ⟨.inl rfl, _, rfl, Over.refl _, .same _⟩

theorem inLit_pure (p n : Int) (hp : -9223372036854775808 ≤ p - 1) (hp2 : p ≤ 9223372036854775807) : Pure Tryd.prog 58 [I n, .ipt 1 [I p] 0 0] (.bool (!(decide (0 ≤ n) && decide (n ≤ p - 1)))) := by
  intro H
  refine PureH.of_body Tryd.func58 rfl (by decide) (Nat.le_of_ble_eq_true rfl) fun w0 => ?_
  (repeat (first | refine RO.S ?_ | refine RO.Y ?_ | refine RO.no rfl (by decide) rfl ?_ | refine RO.nil ?_ | refine DW.region ?_ | refine DW.seq ?_ | refine DW.block ?_ | refine DW.skip ?_ | refine DW.exit ?_ | refine DW.condT rfl ?_ | refine DW.condF rfl ?_))
  refine RO.sta (sta_call rfl rfl (within_pure _ _ _ _)) rfl ?_
  (repeat (first | refine RO.S ?_ | refine RO.Y ?_ | refine RO.no rfl (by decide) rfl ?_ | refine RO.nil ?_ | refine DW.region ?_ | refine DW.seq ?_ | refine DW.block ?_ | refine DW.skip ?_ | refine DW.exit ?_ | refine DW.condT rfl ?_ | refine DW.condF rfl ?_))
  exact DW.ret ⟨.inl rfl, _, rfl, Over.refl _, .same _⟩

/-- Is a number one modulo p? -/
def inP (p n : Int) : Bool := decide (0 ≤ n) && decide (n ≤ p - 1)

theorem In_pure (p : Int) (l : List Int) (hp : -9223372036854775808 ≤ p - 1) (hp2 : p ≤ 9223372036854775807) (hl : l.length ≤ 4611686018427387904) : Pure Tryd.prog 35 [I p, intsD l] (.bool (l.all (inP p))) := by
  intro H
  refine PureH.of_body Tryd.func35 rfl (by decide) (Nat.le_of_ble_eq_true rfl) fun w0 => ?_
  (repeat (first | refine RO.S ?_ | refine RO.Y ?_ | refine RO.no rfl (by decide) rfl ?_ | refine RO.nil ?_ | refine DW.region ?_ | refine DW.seq ?_ | refine DW.block ?_ | refine DW.skip ?_ | refine DW.exit ?_ | refine DW.condT rfl ?_ | refine DW.condF rfl ?_))
  refine RO.sta (sta_call rfl rfl (containsFunc_int l (fun n => !(inP p n)) hl (fun x _ => inLit_pure p x hp hp2 _))) rfl ?_
  (repeat (first | refine RO.S ?_ | refine RO.Y ?_ | refine RO.no rfl (by decide) rfl ?_ | refine RO.nil ?_ | refine DW.region ?_ | refine DW.seq ?_ | refine DW.block ?_ | refine DW.skip ?_ | refine DW.exit ?_ | refine DW.condT rfl ?_ | refine DW.condF rfl ?_))
  have h : (!(l.any fun n => !(inP p n))) = l.all (inP p) := by rw [List.not_any_eq_all_not]; simp
  rw [h]
  exact DW.ret ⟨.inl rfl, _, rfl, Over.refl _, .same _⟩

/-- Has a number a divisor? -/
def hasDiv (p : Int) : Bool := (List.range (p.toNat - 2)).any fun i => p % ((i : Int) + 2) == 0

/-- What is wrong with a prime. -/
def ckP (p : Int) : Int := if decide (2 ≤ p) && decide (p ≤ 101) then (if hasDiv p then 4 else 0) else 3

theorem hasDiv_of {p d : Int} (hd : 2 ≤ d) (hp : d < p) (h : p % d = 0) : hasDiv p = true := by
  unfold hasDiv
  rw [List.any_eq_true]
  refine ⟨(d - 2).toNat, by rw [List.mem_range]; omega, ?_⟩
  have : (((d - 2).toNat : Nat) : Int) + 2 = d := by omega
  rw [this, h]
  rfl

theorem hasDiv_not {p : Int} (h : ∀ d, 2 ≤ d → d < p → p % d ≠ 0) : hasDiv p = false := by
  unfold hasDiv
  rw [List.any_eq_false]
  intro i hi
  rw [List.mem_range] at hi
  have := h (i + 2) (by omega) (by omega)
  simpa using this

theorem div_small {p d : Int} (h2 : 2 ≤ d) (hp : d < p) (h : p % d = 0) : ∃ c, 2 ≤ c ∧ c * c ≤ p ∧ p % c = 0 := by
  have hm : d * (p / d) = p := by have := Int.mul_ediv_add_emod p d; omega
  have hq : 2 ≤ p / d := by
    by_cases h' : p / d < 2
    · have : p / d ≤ 1 := by omega
      have : d * (p / d) ≤ d * 1 := Int.mul_le_mul_of_nonneg_left this (by omega)
      omega
    · omega
  by_cases hdd : d * d ≤ p
  · exact ⟨d, h2, hdd, h⟩
  · refine ⟨p / d, hq, ?_, ?_⟩
    · have hle : p / d ≤ d := by
        by_cases h' : d < p / d
        · have : d * d ≤ d * (p / d) := Int.mul_le_mul_of_nonneg_left (by omega) (by omega)
          omega
        · omega
      calc p / d * (p / d) ≤ d * (p / d) := Int.mul_le_mul_of_nonneg_right hle (by omega)
        _ = p := hm
    · have : p = (p / d) * d := by rw [Int.mul_comm]; exact hm.symm
      rw [this]
      have hne : p / d ≠ 0 := by omega
      rw [Int.mul_ediv_cancel _ (by omega), Int.mul_emod_right]

theorem check_pure (p : Int) : Pure Tryd.prog 50 [I p] (I (ckP p)) := by
  intro H
  refine PureH.of_body Tryd.func50 rfl (by decide) (Nat.le_of_ble_eq_true rfl) fun w0 => ?_
  (repeat (first | refine RO.S ?_ | refine RO.Y ?_ | refine RO.no rfl (by decide) rfl ?_ | refine RO.nil ?_ | refine DW.region ?_ | refine DW.seq ?_ | refine DW.block ?_ | refine DW.skip ?_ | refine DW.exit ?_ | refine DW.condT rfl ?_ | refine DW.condF rfl ?_))
  refine RO.sta (sta_call rfl rfl (within_pure _ _ _ _)) rfl ?_
  (repeat (first | refine RO.S ?_ | refine RO.Y ?_ | refine RO.no rfl (by decide) rfl ?_ | refine RO.nil ?_ | refine DW.region ?_ | refine DW.seq ?_ | refine DW.block ?_ | refine DW.skip ?_ | refine DW.exit ?_ | refine DW.condT rfl ?_ | refine DW.condF rfl ?_))
  cases hb : (decide (2 ≤ p) && decide (p ≤ 101))
  · have hc : ckP p = 3 := by unfold ckP; rw [hb]; rfl
    rw [hc]
    (repeat (first | refine RO.S ?_ | refine RO.Y ?_ | refine RO.no rfl (by decide) rfl ?_ | refine RO.nil ?_ | refine DW.region ?_ | refine DW.seq ?_ | refine DW.block ?_ | refine DW.skip ?_ | refine DW.exit ?_ | refine DW.condT rfl ?_ | refine DW.condF rfl ?_))
    exact DW.ret ⟨.inl rfl, _, rfl, Over.refl _, .same _⟩
  · have h2 : 2 ≤ p ∧ p ≤ 101 := by simpa using hb
    (repeat (first | refine RO.S ?_ | refine RO.Y ?_ | refine RO.no rfl (by decide) rfl ?_ | refine RO.nil ?_ | refine DW.region ?_ | refine DW.seq ?_ | refine DW.block ?_ | refine DW.skip ?_ | refine DW.exit ?_ | refine DW.condT rfl ?_ | refine DW.condF rfl ?_))
    refine DW.loopI (fun d : Int => 2 ≤ d ∧ d ≤ 102 ∧ ∀ c, 2 ≤ c → c < d → p % c ≠ 0) (fun d => [(0, I p), (3, I d)]) (fun _ => H) (fun d => (102 - d).toNat) 2 ⟨by omega, by omega, fun c h1 h2 => by omega⟩ rfl ⟨rfl, rfl, trivial⟩ fun d ⟨hd, hd3, hd2⟩ => ?_
    have hdd : 0 ≤ d * d := Int.mul_nonneg (by omega) (by omega)
    have hdd2 : d * d ≤ 102 * 102 := Int.mul_le_mul hd3 hd3 (by omega) (by omega)
    have hdd3 : d ≤ d * d := by
      have : d * 1 ≤ d * d := Int.mul_le_mul_of_nonneg_left (by omega) (by omega)
      omega
    (repeat (first | refine RO.S ?_ | refine RO.Y ?_ | refine RO.no rfl (by decide) rfl ?_ | refine RO.nil ?_ | refine DW.region ?_ | refine DW.seq ?_ | refine DW.block ?_ | refine DW.skip ?_ | refine DW.exit ?_ | refine DW.condT rfl ?_ | refine DW.condF rfl ?_))
    refine DW.cond rfl (fun hb => ?_) (fun hb => ?_)
    · have hlt : d * d ≤ p := of_decide_eq_true hb
      have hdp : d < p := by
        have : d * 2 ≤ d * d := Int.mul_le_mul_of_nonneg_left (by omega) (by omega)
        omega
      (repeat (first | refine RO.S ?_ | refine RO.Y ?_ | refine RO.no rfl (by decide) rfl ?_ | refine RO.nil ?_ | refine DW.region ?_ | refine DW.seq ?_ | refine DW.block ?_ | refine DW.skip ?_ | refine DW.exit ?_ | refine DW.condT rfl ?_ | refine DW.condF rfl ?_))
      (repeat (first | refine RO.S ?_ | refine RO.Y ?_ | refine RO.no rfl (by decide) rfl ?_ | refine RO.nil ?_ | refine DW.region ?_ | refine DW.seq ?_ | refine DW.block ?_ | refine DW.skip ?_ | refine DW.exit ?_ | refine DW.condT rfl ?_ | refine DW.condF rfl ?_))
      refine DW.cond rfl (fun hb => ?_) (fun hb => ?_)
      · have hm : p % d = 0 := by simpa using hb
        have hc : ckP p = 4 := by unfold ckP; rw [if_pos (by simpa using h2), if_pos (hasDiv_of hd hdp hm)]
        rw [hc]
        (repeat (first | refine RO.S ?_ | refine RO.Y ?_ | refine RO.no rfl (by decide) rfl ?_ | refine RO.nil ?_ | refine DW.region ?_ | refine DW.seq ?_ | refine DW.block ?_ | refine DW.skip ?_ | refine DW.exit ?_ | refine DW.condT rfl ?_ | refine DW.condF rfl ?_))
        exact DW.ret ⟨.inl rfl, _, rfl, Over.refl _, .same _⟩
      · have hm : p % d ≠ 0 := by simpa using hb
        (repeat (first | refine RO.S ?_ | refine RO.Y ?_ | refine RO.no rfl (by decide) rfl ?_ | refine RO.nil ?_ | refine DW.region ?_ | refine DW.seq ?_ | refine DW.block ?_ | refine DW.skip ?_ | refine DW.exit ?_ | refine DW.condT rfl ?_ | refine DW.condF rfl ?_))
        refine ⟨d + 1, ⟨by omega, by omega, fun c h1 h2 => ?_⟩, by dsimp only; omega, rfl, rfl, rfl, trivial⟩
        by_cases h : c = d
        · rw [h]; exact hm
        · exact hd2 c h1 (by omega)
    · have hge : ¬ d * d ≤ p := of_decide_eq_false hb
      have hc : ckP p = 0 := by
        unfold ckP
        rw [if_pos (by simpa using h2)]
        have : hasDiv p = false := hasDiv_not fun c h1 h2 h3 => by
          obtain ⟨b, hb1, hb2, hb3⟩ := div_small h1 h2 h3
          have hbd : b < d := by
            by_cases h' : b < d
            · exact h'
            · have : d * d ≤ b * b := Int.mul_le_mul (by omega) (by omega) (by omega) (by omega)
              omega
          exact hd2 b hb1 hbd hb3
        rw [this]; rfl
      rw [hc]
      (repeat (first | refine RO.S ?_ | refine RO.Y ?_ | refine RO.no rfl (by decide) rfl ?_ | refine RO.nil ?_ | refine DW.region ?_ | refine DW.seq ?_ | refine DW.block ?_ | refine DW.skip ?_ | refine DW.exit ?_ | refine DW.condT rfl ?_ | refine DW.condF rfl ?_))
      exact DW.ret ⟨.inl rfl, _, rfl, Over.refl _, .same _⟩

theorem checkPrime_pure (p : Int) : Pure Tryd.prog 55 [I p] (I (ckP p)) := by
  intro H
  refine PureH.of_body Tryd.func55 rfl (by decide) (Nat.le_of_ble_eq_true rfl) fun w0 => ?_
  (repeat (first | refine RO.S ?_ | refine RO.Y ?_ | refine RO.no rfl (by decide) rfl ?_ | refine RO.nil ?_ | refine DW.region ?_ | refine DW.seq ?_ | refine DW.block ?_ | refine DW.skip ?_ | refine DW.exit ?_ | refine DW.condT rfl ?_ | refine DW.condF rfl ?_))
  refine RO.sta (sta_call rfl rfl (between_pure _ _ _ _)) rfl ?_
  (repeat (first | refine RO.S ?_ | refine RO.Y ?_ | refine RO.no rfl (by decide) rfl ?_ | refine RO.nil ?_ | refine DW.region ?_ | refine DW.seq ?_ | refine DW.block ?_ | refine DW.skip ?_ | refine DW.exit ?_ | refine DW.condT rfl ?_ | refine DW.condF rfl ?_))
  cases hb : (decide (2 ≤ p) && decide (p ≤ 101))
  · have hc : ckP p = 3 := by unfold ckP; rw [hb]; rfl
    rw [hc]
    (repeat (first | refine RO.S ?_ | refine RO.Y ?_ | refine RO.no rfl (by decide) rfl ?_ | refine RO.nil ?_ | refine DW.region ?_ | refine DW.seq ?_ | refine DW.block ?_ | refine DW.skip ?_ | refine DW.exit ?_ | refine DW.condT rfl ?_ | refine DW.condF rfl ?_))
    exact DW.ret ⟨.inl rfl, _, rfl, Over.refl _, .same _⟩
  · have h2 : 2 ≤ p ∧ p ≤ 101 := by simpa using hb
    (repeat (first | refine RO.S ?_ | refine RO.Y ?_ | refine RO.no rfl (by decide) rfl ?_ | refine RO.nil ?_ | refine DW.region ?_ | refine DW.seq ?_ | refine DW.block ?_ | refine DW.skip ?_ | refine DW.exit ?_ | refine DW.condT rfl ?_ | refine DW.condF rfl ?_))
    refine DW.loopI (fun d : Int => 2 ≤ d ∧ d ≤ p ∧ ∀ c, 2 ≤ c → c < d → p % c ≠ 0) (fun d => [(0, I p), (3, I d)]) (fun _ => H) (fun d => (p - d).toNat) 2 ⟨by omega, by omega, fun c h1 h2 => by omega⟩ rfl ⟨rfl, rfl, trivial⟩ fun d ⟨hd, hd3, hd2⟩ => ?_
    (repeat (first | refine RO.S ?_ | refine RO.Y ?_ | refine RO.no rfl (by decide) rfl ?_ | refine RO.nil ?_ | refine DW.region ?_ | refine DW.seq ?_ | refine DW.block ?_ | refine DW.skip ?_ | refine DW.exit ?_ | refine DW.condT rfl ?_ | refine DW.condF rfl ?_))
    refine DW.cond rfl (fun hb => ?_) (fun hb => ?_)
    · have hdp : d < p := of_decide_eq_true hb
      (repeat (first | refine RO.S ?_ | refine RO.Y ?_ | refine RO.no rfl (by decide) rfl ?_ | refine RO.nil ?_ | refine DW.region ?_ | refine DW.seq ?_ | refine DW.block ?_ | refine DW.skip ?_ | refine DW.exit ?_ | refine DW.condT rfl ?_ | refine DW.condF rfl ?_))
      (repeat (first | refine RO.S ?_ | refine RO.Y ?_ | refine RO.no rfl (by decide) rfl ?_ | refine RO.nil ?_ | refine DW.region ?_ | refine DW.seq ?_ | refine DW.block ?_ | refine DW.skip ?_ | refine DW.exit ?_ | refine DW.condT rfl ?_ | refine DW.condF rfl ?_))
      refine DW.cond rfl (fun hb => ?_) (fun hb => ?_)
      · have hm : p % d = 0 := by simpa using hb
        have hc : ckP p = 4 := by unfold ckP; rw [if_pos (by simpa using h2), if_pos (hasDiv_of hd hdp hm)]
        rw [hc]
        (repeat (first | refine RO.S ?_ | refine RO.Y ?_ | refine RO.no rfl (by decide) rfl ?_ | refine RO.nil ?_ | refine DW.region ?_ | refine DW.seq ?_ | refine DW.block ?_ | refine DW.skip ?_ | refine DW.exit ?_ | refine DW.condT rfl ?_ | refine DW.condF rfl ?_))
        exact DW.ret ⟨.inl rfl, _, rfl, Over.refl _, .same _⟩
      · have hm : p % d ≠ 0 := by simpa using hb
        (repeat (first | refine RO.S ?_ | refine RO.Y ?_ | refine RO.no rfl (by decide) rfl ?_ | refine RO.nil ?_ | refine DW.region ?_ | refine DW.seq ?_ | refine DW.block ?_ | refine DW.skip ?_ | refine DW.exit ?_ | refine DW.condT rfl ?_ | refine DW.condF rfl ?_))
        refine ⟨d + 1, ⟨by omega, by omega, fun c h1 h2 => ?_⟩, by dsimp only; omega, rfl, rfl, rfl, trivial⟩
        by_cases h : c = d
        · rw [h]; exact hm
        · exact hd2 c h1 (by omega)
    · have hge : ¬ d < p := of_decide_eq_false hb
      have hc : ckP p = 0 := by
        unfold ckP
        rw [if_pos (by simpa using h2)]
        have : hasDiv p = false := hasDiv_not fun c h1 h2 => hd2 c h1 (by omega)
        rw [this]; rfl
      rw [hc]
      (repeat (first | refine RO.S ?_ | refine RO.Y ?_ | refine RO.no rfl (by decide) rfl ?_ | refine RO.nil ?_ | refine DW.region ?_ | refine DW.seq ?_ | refine DW.block ?_ | refine DW.skip ?_ | refine DW.exit ?_ | refine DW.condT rfl ?_ | refine DW.condF rfl ?_))
      exact DW.ret ⟨.inl rfl, _, rfl, Over.refl _, .same _⟩

end Go.Proofs.YtblileclefbklaaDoor

namespace Go.Proofs.YtblileclefbklaaDoor
open Go.RowKit
set_option linter.unusedVariables false
set_option linter.unusedSimpArgs false

/-- The least number that times a is 1; 0: there is none. -/
def invOk (p a b : Int) : Bool := a * b % p == 1 % p

def invGo (p a : Int) : Nat → Int → Int
  | 0, _ => 0
  | n + 1, b => if invOk p a b then b else invGo p a n (b + 1)

def invT (p a : Int) : Int := invGo p a (p.toNat - 1) 1

/-- A power, by squares. -/
def turnGo (p : Int) : Nat → Int → Int → Int → Int
  | 0, _, _, out => out
  | f + 1, n, a, out => if n ≤ 0 then out else turnGo p f (n / 2) (a * a % p) (if n % 2 = 1 then out * a % p else out)

def turnP (p a : Int) : Int := turnGo p 7 (p - 2) a 1

theorem turn_pure (p a : Int) (hp : 2 ≤ p) (hp2 : p ≤ 101) (ha : 0 ≤ a) (ha2 : a < p) : Pure Tryd.prog 67 [I p, I a] (I (turnP p a)) := by
  intro H
  refine PureH.of_body Tryd.func67 rfl (by decide) (Nat.le_of_ble_eq_true rfl) fun w0 => ?_
  (repeat (first | refine RO.S ?_ | refine RO.Y ?_ | refine RO.no rfl (by decide) rfl ?_ | refine RO.nil ?_ | refine DW.region ?_ | refine DW.seq ?_ | refine DW.block ?_ | refine DW.skip ?_ | refine DW.exit ?_ | refine DW.condT rfl ?_ | refine DW.condF rfl ?_))
  refine DW.loopI (fun x : Nat × Int × Int × Int => (0 ≤ x.2.1 ∧ x.2.1 < 2 ^ x.1 ∧ x.2.1 ≤ 101) ∧ (0 ≤ x.2.2.1 ∧ x.2.2.1 < p) ∧ (0 ≤ x.2.2.2 ∧ x.2.2.2 < p) ∧ turnGo p x.1 x.2.1 x.2.2.1 x.2.2.2 = turnP p a) (fun x => [(0, I p), (1, I x.2.2.1), (5, I x.2.2.2), (6, I x.2.1)]) (fun _ => H) (fun x => x.1) (7, p - 2, a, 1)
    ⟨⟨by dsimp only; omega, by dsimp only; omega, by dsimp only; omega⟩, ⟨ha, ha2⟩, ⟨by dsimp only; omega, by dsimp only; omega⟩, rfl⟩ rfl ⟨rfl, rfl, rfl, rfl, trivial⟩ fun ⟨f, n, b, out⟩ ⟨⟨hn0, hn1, hn2⟩, ⟨hb0, hb1⟩, ⟨ho0, ho1⟩, hg⟩ => ?_
  dsimp only at hn0 hn1 hn2 hb0 hb1 ho0 ho1 hg
  dsimp only
  (repeat (first | refine RO.S ?_ | refine RO.Y ?_ | refine RO.no rfl (by decide) rfl ?_ | refine RO.nil ?_ | refine DW.region ?_ | refine DW.seq ?_ | refine DW.block ?_ | refine DW.skip ?_ | refine DW.exit ?_ | refine DW.condT rfl ?_ | refine DW.condF rfl ?_))
  refine DW.cond rfl (fun hb => ?_) (fun hb => ?_)
  · have hpos : 0 < n := of_decide_eq_true hb
    obtain ⟨f, rfl⟩ : ∃ g, f = g + 1 := by
      cases f with
      | zero => simp at hn1; omega
      | succ g => exact ⟨g, rfl⟩
    have hpw : (2 : Int) ^ (f + 1) = 2 ^ f * 2 := Int.pow_succ ..
    have hbb : 0 ≤ b * b := Int.mul_nonneg hb0 hb0
    have hbb2 : b * b ≤ 101 * 101 := Int.mul_le_mul (by omega) (by omega) (by omega) (by omega)
    have hob : 0 ≤ out * b := Int.mul_nonneg ho0 hb0
    have hob2 : out * b ≤ 101 * 101 := Int.mul_le_mul (by omega) (by omega) (by omega) (by omega)
    have hm1 := Int.emod_nonneg (b * b) (show p ≠ 0 by omega)
    have hm2 := Int.emod_lt_of_pos (b * b) (show 0 < p by omega)
    have hm3 := Int.emod_nonneg (out * b) (show p ≠ 0 by omega)
    have hm4 := Int.emod_lt_of_pos (out * b) (show 0 < p by omega)
    simp only [turnGo] at hg
    rw [if_neg (by omega)] at hg
    (repeat (first | refine RO.S ?_ | refine RO.Y ?_ | refine RO.no rfl (by decide) rfl ?_ | refine RO.nil ?_ | refine DW.region ?_ | refine DW.seq ?_ | refine DW.block ?_ | refine DW.skip ?_ | refine DW.exit ?_ | refine DW.condT rfl ?_ | refine DW.condF rfl ?_))
    refine RO.sta (s_and1 rfl rfl (by omega) (by omega)) rfl ?_
    (repeat (first | refine RO.S ?_ | refine RO.Y ?_ | refine RO.no rfl (by decide) rfl ?_ | refine RO.nil ?_ | refine DW.region ?_ | refine DW.seq ?_ | refine DW.block ?_ | refine DW.skip ?_ | refine DW.exit ?_ | refine DW.condT rfl ?_ | refine DW.condF rfl ?_))
    refine DW.cond rfl (fun hb => ?_) (fun hb => ?_)
    · have h1 : n % 2 = 1 := by simpa using hb
      rw [if_pos h1] at hg
      (repeat (first | refine RO.S ?_ | refine RO.Y ?_ | refine RO.no rfl (by decide) rfl ?_ | refine RO.nil ?_ | refine DW.region ?_ | refine DW.seq ?_ | refine DW.block ?_ | refine DW.skip ?_ | refine DW.exit ?_ | refine DW.condT rfl ?_ | refine DW.condF rfl ?_))
      refine RO.sta (s_shr1 rfl rfl (by omega)) rfl ?_
      (repeat (first | refine RO.S ?_ | refine RO.Y ?_ | refine RO.no rfl (by decide) rfl ?_ | refine RO.nil ?_ | refine DW.region ?_ | refine DW.seq ?_ | refine DW.block ?_ | refine DW.skip ?_ | refine DW.exit ?_ | refine DW.condT rfl ?_ | refine DW.condF rfl ?_))
      exact ⟨(f, n / 2, b * b % p, out * b % p), ⟨⟨by dsimp only; omega, by dsimp only; omega, by dsimp only; omega⟩, ⟨hm1, hm2⟩, ⟨hm3, hm4⟩, hg⟩, Nat.lt_succ_self _, rfl, rfl, rfl, rfl, rfl, trivial⟩
    · have h1 : ¬ n % 2 = 1 := by simpa using hb
      rw [if_neg h1] at hg
      (repeat (first | refine RO.S ?_ | refine RO.Y ?_ | refine RO.no rfl (by decide) rfl ?_ | refine RO.nil ?_ | refine DW.region ?_ | refine DW.seq ?_ | refine DW.block ?_ | refine DW.skip ?_ | refine DW.exit ?_ | refine DW.condT rfl ?_ | refine DW.condF rfl ?_))
      refine RO.sta (s_shr1 rfl rfl (by omega)) rfl ?_
      (repeat (first | refine RO.S ?_ | refine RO.Y ?_ | refine RO.no rfl (by decide) rfl ?_ | refine RO.nil ?_ | refine DW.region ?_ | refine DW.seq ?_ | refine DW.block ?_ | refine DW.skip ?_ | refine DW.exit ?_ | refine DW.condT rfl ?_ | refine DW.condF rfl ?_))
      exact ⟨(f, n / 2, b * b % p, out), ⟨⟨by dsimp only; omega, by dsimp only; omega, by dsimp only; omega⟩, ⟨hm1, hm2⟩, ⟨ho0, ho1⟩, hg⟩, Nat.lt_succ_self _, rfl, rfl, rfl, rfl, rfl, trivial⟩
  · have hneg : ¬ 0 < n := of_decide_eq_false hb
    have : turnP p a = out := by
      rw [← hg]
      cases f with
      | zero => rfl
      | succ f => simp only [turnGo]; rw [if_pos (by omega)]
    rw [this]
    (repeat (first | refine RO.S ?_ | refine RO.Y ?_ | refine RO.no rfl (by decide) rfl ?_ | refine RO.nil ?_ | refine DW.region ?_ | refine DW.seq ?_ | refine DW.block ?_ | refine DW.skip ?_ | refine DW.exit ?_ | refine DW.condT rfl ?_ | refine DW.condF rfl ?_))
    exact DW.ret ⟨.inl rfl, _, rfl, Over.refl _, .same _⟩

end Go.Proofs.YtblileclefbklaaDoor
