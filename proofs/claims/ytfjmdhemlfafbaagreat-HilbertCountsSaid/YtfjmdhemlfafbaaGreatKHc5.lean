/-
  Regions whose order is drawn, in general: static operations wherever they come, the others one after the other. No condition.
-/
import Derived.Test.YtfjmdhemlfafbaaGreatKHc4
import Derived.RangeFuncIn
import Derived.RangeFuncRecord
import Derived.RangeFuncSeq
import Derived.RangeFuncOwn
import Derived.TacticsIn
import Derived.Test.YtfjmdhemlfafbaaGreatKHc3
set_option linter.unusedVariables false
set_option linter.unusedSimpArgs false

namespace Go.Proofs.YtfjmdhemlfafbaaGreat
section
open Go.RowKit

def noDefer : Op → Bool
 | .defer _ => false
 | _ => true

theorem wpIn_of_opTo {P : Program} {o : Oper} {a : Act} {w : World} {K : Value → World → Prop} {next : Act → World → Prop} {Q : Exit → Act → World → Prop} {l n : Nat} (hnd : noDefer o.op = true) (h : OpTo P a.eval o w K) (hn : ∀ v w', K v w' → next (a.put o.dst v) w') :
  o.wpIn (Fence.wide.inRound l) n P a w next Q := by
 have hsem : o.semAt (Fence.wide.inRound l).round a.eval = execOp a.eval o := by
  rw [Fence.inRound_round]
  refine Oper.semAt_some l a.eval o fun c hc => ?_
  rw [hc] at hnd
  cases hnd
 refine ⟨fun f _ => trivial, ?_⟩
 rw [hsem]
 unfold OpTo at h
 split at h
 ·rename_i v w' hr
  rw [hr]
  exact hn _ _ h
 ·rename_i w' hr
  rw [hr]
  exact hn _ _ h
 ·rename_i f args w' hr
  rw [hr, Oper.uponIn_enter]
  refine ⟨fun hd => (by cases hd), ?_⟩
  have : CallsIn Fence.wide (n - 1) P f args w' fun e w'' => ∃ v, e = .returned v ∧ K v w'' := callsIn_wide.2 h
  exact CallsIn.mono this fun e w'' ⟨v, he, hv⟩ => by subst he; exact hn _ _ hv
 ·exact h.elim

theorem RO.soundIn {C : Ctx} {ops : List Oper} {K : Env → Heap → Prop} {Q : Exit → Act → World → Prop} {r n : Nat} {df : List Deferred} (hQ : ∀ e H a w, K e H → St C a w e H → a.defers = df → Q .normal a w) :
  ∀ (l : List Oper) (e : Env) (H : Heap) (a : Act) (w : World), l.all (fun o => noDefer o.op) = true → RO C ops l e H K → St C a w e H → a.defers = df → wpListIn (Fence.wide.inRound r) n C.P ops.toArray Q l a w
 | [], e, H, a, w, _, h, hs, hdf => wpListIn_nil (hQ e H a w h hs hdf)
 | o :: rest, e, H, a, w, hnd, h, hs, hdf => by
  rw [List.all_cons, Bool.and_eq_true] at hnd
  obtain ⟨hd, hg⟩ := h
  have yes : (OpD C.P H e o fun d H' => RO C ops rest (e.putO o.dst d) H' K) → ∀ L : Act → World → Prop, (∀ a w, wpListIn (Fence.wide.inRound r) n C.P ops.toArray Q rest a w → L a w) → o.wpIn (Fence.wide.inRound r) n C.P a w L Q := fun hop L hL =>
   wpIn_of_opTo hnd.1 (hop.go a.eval w hs.agree hs.heap) fun v w' ⟨d, H', hk, hr, ho, he⟩ => hL _ _ (RO.soundIn hQ rest _ H' _ w' hnd.2 hk (hs.put hd hr ho he) (by rw [Act.put_defers']; exact hdf))
  have no : RO C ops rest (e.putO o.dst (.tup [])) H K → wpListIn (Fence.wide.inRound r) n C.P ops.toArray Q rest (a.put o.dst undef) w := fun hk =>
   RO.soundIn hQ rest _ H _ w hnd.2 hk (hs.put hd (RepsA.tup (vs := #[]) (ds := []) ⟨rfl, fun j x hx => by simp at hx⟩) hs.heap (.refl _ _)) (by rw [Act.put_defers']; exact hdf)
  refine wpListIn_step fun L hL => ?_
  unfold GuardIs at hg
  cases hgu : o.guard with
  | none =>
   rw [hgu] at hg
   simp only [Region.wanted, hgu, if_true]
   exact yes hg L hL
  | some jw =>
   obtain ⟨j, want⟩ := jw
   rw [hgu] at hg
   obtain ⟨b, hb, h1, h2⟩ := hg
   have hy := guard_yielded hs hb
   by_cases hbw : b = some want
   ·rw [if_pos (by simp only [Region.wanted, hgu, hy, hbw]; exact beq_self_eq_true _)]
    exact yes (h1 hbw) L hL
   ·rw [if_neg (by simp only [Region.wanted, hgu, hy]; intro hx; exact hbw (by simpa using hx))]
    exact ⟨fun f _ => trivial, hL _ _ (no (h2 hbw))⟩

structure DR (C : Ctx) (r : Nat) (c : Code) (e : Env) (H : Heap) (Q : Post) : Prop where
 go : ∀ (n : Nat) (a : Act) (w : World), St C a w e H → c.wpIn (Fence.wide.inRound r) n C.P (fun x a' w' => lift C Q x a' w' ∧ a'.defers = a.defers) a w

section
variable {C : Ctx} {r : Nat} {e : Env} {H : Heap} {Q : Post}

theorem DR.skip (h : Q .normal e H) : DR C r .skip e H Q := .mk fun n a w hs => wpIn_skip ⟨⟨e, H, h, hs⟩, rfl⟩

theorem DR.region {id : Nat} {ops : List Oper} (hnd : ops.all (fun o => noDefer o.op) = true) (h : RO C ops ops e H fun e' H' => Q .normal e' H') : DR C r (.region id ops.toArray false) e H Q := .mk fun n a w hs =>
 wpIn_region_lit (RO.soundIn (fun e' H' a' w' hk hs' hdf => ⟨⟨e', H', hk, hs'⟩, hdf⟩) ops e H a w hnd h hs rfl)

def thenR (C : Ctx) (r : Nat) (y : Code) (Q : Post) : Post
 | .normal, e, H => DR C r y e H Q
 | x, e, H => Q x e H

theorem DR.seq {x y : Code} (h : DR C r x e H (thenR C r y Q)) : DR C r (.seq x y) e H Q := .mk fun n a w hs => wpIn_seq (wpIn_mono (h.go n a w hs) fun z a' w' hz => by
 obtain ⟨⟨e', H', hq, hs'⟩, hdf⟩ := hz
 cases z with
 | normal => exact wpIn_mono (hq.go n a' w' hs') fun z2 a2 w2 h2 => ⟨h2.1, h2.2.trans hdf⟩
 | _ => exact ⟨⟨e', H', hq, hs'⟩, hdf⟩)

theorem DR.cond {c : Operand} {x y : Code} {t : Bool} (hc : e.ev c = some (.bool t)) (h1 : t = true → DR C r x e H Q) (h2 : t = false → DR C r y e H Q) : DR C r (.cond c x y) e H Q := .mk fun n a w hs =>
 wpIn_cond_split (rep_bool (hs.agree c _ hc)) (fun h => (h1 h).go n a w hs) (fun h => (h2 h).go n a w hs)

theorem DR.block {id : Nat} {c : Code} (h : DR C r c e H (blockQ id Q)) : DR C r (.block id c) e H Q := .mk fun n a w hs => wpIn_block (wpIn_mono (h.go n a w hs) fun z a' w' hz => by
 obtain ⟨⟨e', H', q, s⟩, hdf⟩ := hz
 cases z with
 | exit id' =>
  simp only [Exit.inBlock]
  simp only [blockQ] at q
  by_cases hi : id' = id
  ·subst hi
   rw [if_pos rfl]
   rw [show Nat.beq id' id' = true from Nat.beq_refl id'] at q
   exact ⟨⟨e', H', q, s⟩, hdf⟩
  ·rw [if_neg hi]
   have : Nat.beq id' id = false := by
    cases hb : Nat.beq id' id with
    | false => rfl
    | true => exact absurd (Nat.eq_of_beq_eq_true hb) hi
   rw [this] at q
   exact ⟨⟨e', H', q, s⟩, hdf⟩
 | normal => exact ⟨⟨e', H', q, s⟩, hdf⟩
 | ret => exact ⟨⟨e', H', q, s⟩, hdf⟩
 | goto l => exact ⟨⟨e', H', q, s⟩, hdf⟩
 | panic c => exact ⟨⟨e', H', q, s⟩, hdf⟩
 | outgrown => exact ⟨⟨e', H', q, s⟩, hdf⟩)

end

theorem kept_put {w : World} {H : Heap} {l : Nat} {o o' : Obj} (hl : w.heap[l]? = some o) (hn : o.isCells = false) : Kept w H (w.putObj l o') H := by
 have hoth : ∀ (b : Nat) (cs : Array Value) (T : TypeId) (fr : Nat × Nat), w.heap[b]? = some (.cells cs T fr) → (w.putObj l o').heap[b]? = w.heap[b]? := fun b cs T fr hb => World.putObj_heap_other fun e => by
  subst e
  rw [hl] at hb
  cases hb
  cases hn
 refine ⟨fun b off v hH hw => ⟨hH, ?_⟩, fun b cs T hb => ⟨cs, (hoth b cs T _ hb).trans hb, rfl⟩⟩
 have hx : ∃ cs T fr, w.heap[b]? = some (.cells cs T fr) := by
  unfold World.cell? at hw
  dsimp only at hw
  split at hw
  ·rename_i c T fr hc
   exact ⟨c, T, fr, hc⟩
  ·cases hw
 obtain ⟨cs, T, fr, hc⟩ := hx
 exact (World.cell?_of_block (a := ⟨b, off, none⟩) (hoth b cs T fr hc)).trans hw

theorem hok_put {w : World} {H : Heap} {l : Nat} {o o' : Obj} (ho : HOK w H) (hl : w.heap[l]? = some o) (hn : o.isCells = false) : HOK (w.putObj l o') H := by
 have hk := kept_put (H := H) (o' := o') hl hn
 have hoth : ∀ (b : Nat) (cs : Array Value) (T : TypeId) (fr : Nat × Nat), w.heap[b]? = some (.cells cs T fr) → (w.putObj l o').heap[b]? = some (.cells cs T fr) := fun b cs T fr hb => (World.putObj_heap_other fun e => by
  subst e
  rw [hl] at hb
  cases hb
  cases hn).trans hb
 refine ⟨fun b T cells hb => ?_, fun g cs hg => ?_⟩
 ·obtain ⟨cs, h1, h2, h3⟩ := ho.at' b T cells hb
  refine ⟨cs, hoth b cs T _ h1, h2, fun j x hj => ?_⟩
  obtain ⟨g1, v, g2, g3⟩ := h3 j x hj
  exact ⟨g1, v, g2, g3.kept hk⟩
 ·obtain ⟨h1, T, h2⟩ := ho.inv g cs hg
  exact ⟨h1, T, hoth g cs T _ h2⟩

theorem ext_put {w0 w : World} {H0 H : Heap} {l : Nat} {o o' : Obj} (he : Ext w0 H0 w H) (hl : w.heap[l]? = some o) (hn : o.isCells = false) (h0 : w0.heap.size ≤ l) : Ext w0 H0 (w.putObj l o') H := by
 refine ⟨he.os, he.tape, he.output, by rw [World.putObj_size]; exact he.size, he.tick.trans (.of_le (Nat.le_refl _)), fun b hb hH => ?_, fun b cs T hb => ?_⟩
 ·obtain ⟨h1, h2⟩ := he.old b hb hH
  exact ⟨h1, (World.putObj_heap_other (by omega)).trans h2⟩
 ·obtain ⟨cs', h1, h2⟩ := he.shape b cs T hb
  refine ⟨cs', (World.putObj_heap_other fun e => ?_).trans h1, h2⟩
  subst e
  rw [hl] at h1
  cases h1
  cases hn

theorem yield_of {P : Program} {N r : Nat} {w W : World} {H Hk : Heap} {rec : Loop} {p : Tmp} {v : Value} {d : D} {e : Env} {K : Heap → Prop}
  (hl : W.heap[r]? = some (.loop rec)) (hrd : rec.state = .ready) (hpn : rec.pending = none) (hps : rec.params = #[p]) (hr : w.heap.size ≤ r) (hsz : rec.tmps.size = N) (hp : p < N)
  (henv : ∀ t d, e.get t = some d → ∃ v, rec.tmps[t]? = some v ∧ Rep W Hk v d) (hv : Rep W Hk v d) (ho : HOK W Hk) (hx : Ext w H W Hk)
  (h : ∀ w0 H0, DR ⟨P, N, w0, H0⟩ r rec.assign ((p, d) :: e) Hk fun x e1 H1 => x = .normal ∧ ∀ w0 H0, DR ⟨P, N, w0, H0⟩ r rec.body e1 H1 fun x e2 H2 => x = .normal ∧ K H2) :
  YieldAt Fence.wide 0 P r #[v] W fun en W' => en = .returned (.bool true) ∧ ∃ H2, K H2 ∧ HOK W' H2 ∧ Ext w H W' H2 ∧ W'.heap[r]? = some (.loop rec) ∧ W.heap.size ≤ W'.heap.size ∧ (∀ b, b < W.heap.size → b ≠ r → Hk b = none → H2 b = none ∧ W'.heap[b]? = W.heap[b]?) ∧ ∀ (b : Nat) (cs : Array Value) (T : TypeId), W.heap[b]? = some (.cells cs T (0, 0)) → ∃ cs' : Array Value, W'.heap[b]? = some (.cells cs' T (0, 0)) ∧ cs'.size = cs.size := by
 have hrl := lt_of_block hl
 have hHr : ∀ {w' : World} {H' : Heap} {o : Obj}, HOK w' H' → w'.heap[r]? = some o → o.isCells = false → H' r = none := fun {w' H' o} ho' hl' hn => by
  cases hc : H' r with
  | none => rfl
  | some x =>
   obtain ⟨T, cells⟩ := x
   obtain ⟨cs, h1, _⟩ := ho'.at' _ _ _ hc
   rw [hl'] at h1
   cases h1
   cases hn
 have hy := run_yield (P := P) (args := #[v]) hl (by rw [hps]; rfl)
 refine ⟨rec.fn, _, rec.assign, rec.body, hy, roundIn_of_wpIn trivial ?_⟩
 rw [hps]
 have hst : St ⟨P, N, W, Hk⟩ { tmps := ((#[p] : Array Tmp).zip #[v]).foldl (fun tmps (t, a) => tmps.setIfInBounds t a) rec.tmps, defers := [] } W ((p, d) :: e) Hk := by
  have hz : ((#[p] : Array Tmp).zip #[v]).foldl (fun tmps (t, a) => tmps.setIfInBounds t a) rec.tmps = rec.tmps.setIfInBounds p v := by simp
  rw [hz]
  refine ⟨by simp [hsz], trivial, fun t x hxt => ?_, ho, .refl _ _⟩
  rw [Env.get_cons] at hxt
  show ∃ u, (rec.tmps.setIfInBounds p v)[t]? = some u ∧ _
  rw [Array.getElem?_setIfInBounds]
  split at hxt
  ·rename_i hpt
   cases hxt
   exact ⟨v, by rw [if_pos hpt, if_pos (by rw [hsz]; first | exact hp | (rw [← hpt]; exact hp))], hv⟩
  ·rename_i hpt
   obtain ⟨u, h1, h2⟩ := henv t x hxt
   exact ⟨u, by rw [if_neg hpt]; exact h1, h2⟩
 refine wpIn_mono ((h W Hk).go 0 _ W hst) fun x a1 W1 ⟨⟨e1, H1, ⟨hx1, hb⟩, s1⟩, hdf1⟩ => ?_
 subst hx1
 have hl1 : W1.heap[r]? = some (.loop rec) := (s1.ext.old r hrl (hHr ho hl rfl)).2.trans hl
 show ∃ w₂, _
 refine ⟨_, run_beginRound hl1 hrd, ?_⟩
 have ho1 := hok_put (o' := .loop { rec with state := .busy }) s1.heap hl1 rfl
 have hk1 := kept_put (H := H1) (o' := .loop { rec with state := .busy }) hl1 rfl
 have hx1 : Ext w H (W1.putObj r (.loop { rec with state := .busy })) H1 := ext_put (hx.trans s1.ext) hl1 rfl hr
 have hl2 : (W1.putObj r (.loop { rec with state := .busy })).heap[r]? = some (.loop { rec with state := .busy }) := World.putObj_heap_same (lt_of_block hl1)
 have hsz1 : (W1.putObj r (.loop { rec with state := .busy })).heap.size = W1.heap.size := World.putObj_size
 have hoth1 : ∀ b, b ≠ r → (W1.putObj r (.loop { rec with state := .busy })).heap[b]? = W1.heap[b]? := fun b hb => World.putObj_heap_other hb
 obtain ⟨W1', hW1'⟩ : ∃ W1', W1' = W1.putObj r (.loop { rec with state := .busy }) := ⟨_, rfl⟩
 rw [← hW1'] at ho1 hk1 hx1 hl2 hsz1 hoth1 ⊢
 have hst1 : St ⟨P, N, W1', H1⟩ a1 W1' e1 H1 := ⟨s1.size, by rw [hdf1]; trivial, fun t x hxt => by
  obtain ⟨u, h1, h2⟩ := s1.env t x hxt
  exact ⟨u, h1, h2.kept hk1⟩, ho1, .refl _ _⟩
 refine wpIn_mono ((hb W1' H1).go 0 a1 W1' hst1) fun x a2 W2 ⟨⟨e2, H2, ⟨hx2, hK⟩, s2⟩, hdf2⟩ => ?_
 subst hx2
 have hr2 : r < W1'.heap.size := lt_of_block hl2
 have hl3 : W2.heap[r]? = some (.loop { rec with state := .busy }) := (s2.ext.old r hr2 (hHr ho1 hl2 rfl)).2.trans hl2
 have hend := run_endRound (P := P) none hl3
 have hrec : ({ { rec with state := .busy } with state := if (none : Option Code).isNone then .ready else .done, pending := none } : Loop) = rec := by
  obtain ⟨r1, r2, r3, r4, r5, r6, r7, r8⟩ := rec
  simp only at hrd hpn
  subst hrd
  subst hpn
  rfl
 rw [hrec] at hend
 refine ⟨_, _, hend, rfl, H2, hK, hok_put s2.heap hl3 rfl, ext_put (hx1.trans s2.ext) hl3 rfl hr, World.putObj_heap_same (lt_of_block hl3), by rw [World.putObj_size]; have h1 := s1.ext.size; have h2 := s2.ext.size; rw [hsz1] at h2; exact Nat.le_trans h1 h2, fun b hb hbr hHb => ?_, fun b cs T hbc => ?_⟩
 rotate_left
 ·have hbr : b ≠ r := fun e => by rw [e, hl] at hbc; cases hbc
  obtain ⟨cs1, g1, g2⟩ := s1.ext.shape b cs T hbc
  obtain ⟨cs2, g3, g4⟩ := s2.ext.shape b cs1 T ((hoth1 b hbr).trans g1)
  exact ⟨cs2, (World.putObj_heap_other hbr).trans g3, g4.trans g2⟩
 obtain ⟨g1, g2⟩ := s1.ext.old b hb hHb
 have hbs : b < W1'.heap.size := by
  have := s1.ext.size
  rw [hsz1]
  exact Nat.lt_of_lt_of_le hb this
 obtain ⟨g3, g4⟩ := s2.ext.old b hbs g1
 exact ⟨g3, (World.putObj_heap_other hbr).trans (g4.trans ((hoth1 b hbr).trans g2))⟩
end
section
open Go.RowKit

theorem PureH.of_bodyCell {P : Program} {H : Heap} {f : FuncId} {fn : Func} {c : Code} {ds cells : List D} {r : Tmp} {t T0 : TypeId} [AggT P t cells.length] (hf : P.funcs[f]? = some fn) (hb : fn.body = some c) (hn : (fn.name == "runtime.NumGoroutine") = false) (hds : ds.length ≤ fn.ntmps)
  (hres : fn.results = #[.cell r t])
  (h : ∀ w0 : World, DW ⟨P, fn.ntmps, w0, H⟩ c (argEnv 0 ds) H fun x e H' => (x = .ret ∨ x = .normal) ∧ ∃ b, e.get r = some (.ptr b 0) ∧ H' b = some (T0, cells) ∧ Over H H' ∧ H b = none) : PureH P H f ds (.agg cells) := by
 refine ⟨⟨fn, hf, hn, by rw [hb]; rfl⟩, fun w args ho ha => ?_⟩
 refine calls_of_marks hf hb ?_
 have hst : St ⟨P, fn.ntmps, w, H⟩ { tmps := args ++ Array.replicate (fn.ntmps - args.size) undef, defers := [] } w (argEnv 0 ds) H := by
  refine ⟨by simp [ha.1]; omega, trivial, fun t d hd => ?_, ho, .refl _ _⟩
  obtain ⟨_, hd'⟩ := argEnv_get ds 0 t d hd
  obtain ⟨v, hv, hr⟩ := ha.2 t d (by simpa using hd')
  exact ⟨v, by rw [Array.getElem?_append_left (Array.getElem?_eq_some_iff.1 hv).1]; exact hv, hr⟩
 refine wp_mono ((h w).go _ w hst) fun x a' w' hx => ?_
 obtain ⟨e', H', ⟨hxx, b, hget, hHb, hov, hbn⟩, s⟩ := hx
 refine ⟨hxx, s.defers, fun w' hsh => ?_⟩
 have s := s.shut hsh
 obtain ⟨v, hv, hrep⟩ := s.env r _ hget
 have hvp := rep_ptr hrep
 subst hvp
 have hvd : a'.tmps.getD r undef = .pointer (some ⟨b, 0, none⟩) := by simp [Array.getD_eq_getD_getElem?, hv]
 obtain ⟨td, inf, hu, hd, hi, hs⟩ := AggT.h (P := P) (t := t) (k := cells.length)
 obtain ⟨cs, hcb, hcl, hcr⟩ := s.heap b T0 cells hHb
 have hvs : ∀ (m : Nat) (v : Value), ((List.range inf.size).map fun m => cs.getD m undef)[m]? = some v → w'.cell? ((⟨b, 0, none⟩ : Addr).add m) = some v := fun m v hm => by
  simp only [List.getElem?_map, Option.map_eq_some_iff] at hm
  obtain ⟨m', hm', rfl⟩ := hm
  have hlt : m < inf.size := by
   have := (List.getElem?_eq_some_iff.1 hm').1
   simpa using this
  rw [List.getElem?_range hlt] at hm'
  cases hm'
  have hy : cells[m]? = some (cells[m]'(by omega)) := by simp
  obtain ⟨_, u, hu', _⟩ := hcr m _ hy
  rw [addr_add, cell_of_row w' b (0 + m) cs T0 (0, 0) hcb, Nat.zero_add, hu']
  simp [Array.getD_eq_getD_getElem?, hu']
 have hload := run_load_agg hu hd hi w' (by simp) hvs
 simp only [Instr.loadAt, Instr.sureAddr, Sem.run_bind, Sem.run_pure, Result.andThen_ok] at hload
 have hsem : (results fn a'.tmps).run P w' = .ok (.agg ((List.range inf.size).map fun m => cs.getD m undef).toArray) w' := by
  rw [results_eq, hres]
  rw [show (#[ResultVar.cell r t] : Array ResultVar) = [ResultVar.cell r t].toArray from rfl, List.mapM_toArray, Sem.run_bind, Sem.run_map, List.mapM_cons, List.mapM_nil]
  simp [resSem, hvd, asAddr, hload]
 have hsub : H.sub H' := fun c x hc => hov c x hc
 refine ⟨_, hsem, _, rfl, RepsA.agg ⟨by simp [hs], fun m y hy => ?_⟩, s.heap.sub hsub, s.ext.sub hsub⟩
 have hlt : m < inf.size := by rw [hs]; exact (List.getElem?_eq_some_iff.1 hy).1
 obtain ⟨_, u, hu', hrep⟩ := hcr m y hy
 exact ⟨u, by simp [hlt, Array.getD_eq_getD_getElem?, hu'], hrep.kept (.sub hsub)⟩

class BuildT (P : Program) (t : TypeId) (zd : outParam (List D)) (pl : outParam (Array (Nat × Nat))) : Prop where
 is : ∃ inf fs, P.info? t = some inf ∧ inf.zero = some (.agg (zd.map litV).toArray) ∧ P.underlying t = some (.struct fs) ∧ placesOf P fs = some pl
 lit : zd.all litOk = true

theorem BuildT.of {P : Program} {t : TypeId} {zd : List D} {pl : Array (Nat × Nat)} {fs : Array Field} (h1 : (P.info? t).bind (·.zero) = some (.agg (zd.map litV).toArray)) (hu : P.underlying t = some (.struct fs)) (h2 : placesOf P fs = some pl) (h3 : zd.all litOk = true) : BuildT P t zd pl := by
 cases hi : P.info? t with
 | none => rw [hi] at h1; cases h1
 | some inf => rw [hi] at h1; exact ⟨⟨inf, fs, hi, h1, hu, h2⟩, h3⟩

theorem s_buildT {P : Program} {H : Heap} {e : Env} {dst : Option Tmp} {ty : TypeId} {pos : String} {af : Array Edge} {gd : Option (Nat × Bool)} {t : TypeId} {zd out : List D} {pl : Array (Nat × Nat)} {parts : Array (Nat × Operand)} {pd : List (Nat × D)} [BuildT P t zd pl]
  (hp : evParts e parts.toList = some pd) (ho : fillD (pl[·]?) zd pd = some out) : Sta P H e ⟨dst, .build t parts, ty, pos, af, gd⟩ (.agg out) := by
 obtain ⟨inf, fs, h1, h2, h3, h4⟩ := BuildT.is (P := P) (t := t)
 exact sta_build h1 h2 h3 h4 rfl (BuildT.lit (P := P) (t := t) (pl := pl)) hp ho
end
section
open Go.RowKit

section
variable {P : Program} {H : Heap} {e : Env} {dst : Option Tmp} {ty : TypeId} {pos : String} {af : Array Edge} {gd : Option (Nat × Bool)}

theorem s_addW {x y : Operand} {tx t2 : TypeId} {a b : Int} (hx : e.ev x = some (I a)) (hy : e.ev y = some (I b)) : Sta P H e ⟨dst, .binOp .add tx x y t2, ty, pos, af, gd⟩ (I (wrap64 (a + b))) := .mk fun ρ w ha ho => by
 have h1 := rep_int (ha x _ hx)
 have h2 := rep_int (ha y _ hy)
 simp only [OpTo, execOp, h1, h2, eqGuard, binOp, Op.intArith, bind, pure, Sem.run, Sem.bind, ne_eq, not_true, if_false, Bool.not_eq_true]
 rw [IntWalk.i64_left]
 exact ⟨.int _ _, ho, .refl _ _⟩

theorem s_mulW {x y : Operand} {tx t2 : TypeId} {a b : Int} (hx : e.ev x = some (I a)) (hy : e.ev y = some (I b)) : Sta P H e ⟨dst, .binOp .mul tx x y t2, ty, pos, af, gd⟩ (I (wrap64 (a * b))) := .mk fun ρ w ha ho => by
 have h1 := rep_int (ha x _ hx)
 have h2 := rep_int (ha y _ hy)
 simp only [OpTo, execOp, h1, h2, eqGuard, binOp, Op.intArith, bind, pure, Sem.run, Sem.bind, ne_eq, not_true, if_false, Bool.not_eq_true]
 rw [IntWalk.i64_left]
 exact ⟨.int _ _, ho, .refl _ _⟩

end
end
section
open Go.RowKit
end
section
open Go.RowKit

def SeesX (H Hs : Heap) (free : List Nat) (i : Nat) (H' : Heap) : Prop := Over H H' ∨ (i ∈ free ∧ Over Hs H')

def RX (C : Ctx) (H Hs : Heap) (free : List Nat) (ops : List Oper) : List (Oper × Nat) → Env → (Env → Prop) → Prop
 | [], e, K => K e
 | (o, i) :: rest, e, K => dstOk C.N o.dst = true ∧
   GuardIs ops e o (∃ d, (∀ H', SeesX H Hs free i H' → Sta C.P H' (e.mask o) o d) ∧ RX C H Hs free ops rest (e.putO o.dst d) K) (RX C H Hs free ops rest (e.putO o.dst (.tup [])) K)

def RY (C : Ctx) (Hs : Heap) (ops : List Oper) : List (Oper × Nat) → Env → Heap → (Env → Heap → Prop) → Prop
 | [], e, H, K => K e H
 | (o, i) :: rest, e, H, K => dstOk C.N o.dst = true ∧
   GuardIs ops e o (OpD C.P H (e.mask o) o fun d H' => Over Hs H' ∧ RY C Hs ops rest (e.putO o.dst d) H' K) (RY C Hs ops rest (e.putO o.dst (.tup [])) H K)

def StaX (C : Ctx) (H Hs : Heap) (free : List Nat) (ops : List Oper) (e : Env) (x : Oper × Nat) (d : D) : Prop :=
 dstOk C.N x.1.dst = true ∧ GuardIs ops e x.1 (∀ H', SeesX H Hs free x.2 H' → Sta C.P H' (e.mask x.1) x.1 d) (d = .tup [])

theorem RX.trace {C : Ctx} {H Hs : Heap} {free : List Nat} {ops : List Oper} : ∀ (l : List (Oper × Nat)) (e : Env) (K : Env → Prop), RX C H Hs free ops l e K →
  ∃ (es : Nat → Env) (ds : Nat → D), es 0 = e ∧ (∀ k x, l[k]? = some x → StaX C H Hs free ops (es k) x (ds k) ∧ es (k + 1) = (es k).putO x.1.dst (ds k)) ∧ K (es l.length)
 | [], e, K, h => ⟨fun _ => e, fun _ => .nil, rfl, fun i o hi => by simp at hi, h⟩
 | (o, i) :: rest, e, K, ⟨hd, hg⟩ => by
  have step : ∀ d, GuardIs ops e o (∀ H', SeesX H Hs free i H' → Sta C.P H' (e.mask o) o d) (d = .tup []) → RX C H Hs free ops rest (e.putO o.dst d) K →
    ∃ (es : Nat → Env) (ds : Nat → D), es 0 = e ∧ (∀ k x, ((o, i) :: rest)[k]? = some x → StaX C H Hs free ops (es k) x (ds k) ∧ es (k + 1) = (es k).putO x.1.dst (ds k)) ∧ K (es ((o, i) :: rest).length) := by
   intro d hgd hr
   obtain ⟨es, ds, h0, hi, hK⟩ := RX.trace rest _ K hr
   refine ⟨fun k => match k with | 0 => e | k + 1 => es k, fun k => match k with | 0 => d | k + 1 => ds k, rfl, fun k x hx => ?_, hK⟩
   cases k with
   | zero =>
    simp at hx
    subst hx
    exact ⟨⟨hd, hgd⟩, h0⟩
   | succ k => exact hi k x (by simpa using hx)
  unfold GuardIs at hg
  cases hgu : o.guard with
  | none =>
   rw [hgu] at hg
   obtain ⟨d, h1, h2⟩ := hg
   exact step d (by unfold GuardIs; rw [hgu]; exact h1) h2
  | some jw =>
   obtain ⟨j, want⟩ := jw
   rw [hgu] at hg
   obtain ⟨b, hb, hy, hn⟩ := hg
   by_cases hbw : b = some want
   ·obtain ⟨d, h1, h2⟩ := hy hbw
    exact step d (by unfold GuardIs; rw [hgu]; exact ⟨b, hb, fun _ => h1, fun h => absurd hbw h⟩) h2
   ·exact step (.tup []) (by unfold GuardIs; rw [hgu]; exact ⟨b, hb, fun h => absurd h hbw, fun _ => rfl⟩) (hn hbw)

def ordX (ops : List Oper) (st free : List Nat) : Bool :=
 let ms := masks [] ops
 let before (i j : Nat) : Bool := (ms.getD i 0).testBit j
 (ops.zipIdx.all fun (o, i) => o.after.toList.all fun e => !Region.binds .any e || Nat.blt e.on i) &&
 (ops.zipIdx.all fun (o, i) => (opTmps o ++ guardTmp ops o).all fun t => ops.zipIdx.all fun (p, k) => p.dst != some t || (Nat.blt k i && before i k && (st.contains k || !st.contains i)) || (!st.contains k && Nat.blt i k && before k i)) &&
 (ops.zipIdx.all fun (o, i) => o.dst == none || ops.zipIdx.all fun (p, k) => Nat.beq k i || p.dst != o.dst) &&
 (ops.zipIdx.all fun (o, i) => (List.range ops.length).all fun j => (st.contains i || st.contains j || !Nat.blt j i || before i j) && (st.contains i || !st.contains j || free.contains j || before i j)) &&
 ops.all fun o => match o.op with | .select .. => false | _ => true

structure OrdX (ops : List Oper) (st free : List Nat) : Prop where
 lt : ∀ (i : Nat) (o : Oper), ops[i]? = some o → ∀ e ∈ o.after.toList, Region.binds .any e = true → e.on < i
 dep : ∀ (i : Nat) (o : Oper), ops[i]? = some o → ∀ t ∈ opTmps o ++ guardTmp ops o, ∀ (k : Nat) (p : Oper), ops[k]? = some p → p.dst = some t → (k < i ∧ ((masks [] ops).getD i 0).testBit k = true ∧ (i ∈ st → k ∈ st)) ∨ (k ∉ st ∧ i < k ∧ ((masks [] ops).getD k 0).testBit i = true)
 dist : ∀ (i k : Nat) (o p : Oper) (t : Nat), ops[i]? = some o → ops[k]? = some p → o.dst = some t → p.dst = some t → i = k
 chain : ∀ (i j : Nat), i < ops.length → j < i → i ∉ st → j ∉ st → ((masks [] ops).getD i 0).testBit j = true
 nfree : ∀ (i j : Nat), i < ops.length → j < ops.length → i ∉ st → j ∈ st → j ∉ free → ((masks [] ops).getD i 0).testBit j = true
 sel : ∀ (i : Nat) (o : Oper), ops[i]? = some o → ∀ cs b, o.op ≠ .select cs b

theorem ordX_spec {ops : List Oper} {st free : List Nat} (h : ordX ops st free = true) : OrdX ops st free := by
 unfold ordX at h
 simp only [Bool.and_eq_true] at h
 obtain ⟨⟨⟨⟨h1, h2⟩, h3⟩, h4⟩, h5⟩ := h
 refine ⟨fun i o ho e he hb => ?_, fun i o ho t ht k p hp hpt => ?_, fun i k o p t ho hp hot hpt => ?_, fun i j hi hj hi2 hj2 => ?_, fun i j hi hj hi2 hj2 hj3 => ?_, fun i o ho cs b hop => ?_⟩
 ·have := zipIdx_all h1 i o ho
  simp only at this
  have := List.all_eq_true.1 this e he
  simp only [hb, Bool.not_true, Bool.false_or] at this
  simpa [Nat.blt_eq] using this
 ·have h := zipIdx_all h2 i o ho
  simp only at h
  have h := List.all_eq_true.1 h t ht
  have h := zipIdx_all h k p hp
  simp only [hpt, Bool.or_eq_true, Bool.and_eq_true] at h
  rcases h with (h | ⟨⟨ha, hb⟩, hc⟩) | ⟨⟨ha, hb⟩, hc⟩
  ·simp at h
  ·refine .inl ⟨by simpa [Nat.blt_eq] using ha, hb, fun hi => ?_⟩
   rcases hc with hc | hc
   ·simpa using hc
   ·simp [hi] at hc
  ·exact .inr ⟨by simpa using ha, by simpa [Nat.blt_eq] using hb, hc⟩
 ·have h := zipIdx_all h3 i o ho
  simp only [hot, Bool.or_eq_true] at h
  rcases h with h | h
  ·simp at h
  ·have h := zipIdx_all h k p hp
   simp only [hpt, Bool.or_eq_true] at h
   rcases h with h | h
   ·exact (Nat.eq_of_beq_eq_true h).symm
   ·simp at h
 ·have ho : ops[i]? = some ops[i] := by simp
  have h := zipIdx_all h4 i _ ho
  simp only at h
  have h := List.all_eq_true.1 h j (List.mem_range.2 (show j < ops.length by omega))
  simp only [Bool.and_eq_true, Bool.or_eq_true] at h
  rcases h.1 with ((h | h) | h) | h
  ·exact absurd (by simpa using h) hi2
  ·exact absurd (by simpa using h) hj2
  ·have hlt : Nat.blt j i = true := by rw [Nat.blt_eq]; exact hj
   rw [hlt] at h
   simp at h
  ·exact h
 ·have ho : ops[i]? = some ops[i] := by simp
  have h := zipIdx_all h4 i _ ho
  simp only at h
  have h := List.all_eq_true.1 h j (List.mem_range.2 (show j < ops.length by omega))
  simp only [Bool.and_eq_true, Bool.or_eq_true] at h
  rcases h.2 with ((h | h) | h) | h
  ·exact absurd (by simpa using h) hi2
  ·simp [hj2] at h
  ·exact absurd (by simpa using h) hj3
  ·exact h
 ·have h := List.all_eq_true.1 h5 o (List.mem_of_getElem? ho)
  rw [hop] at h
  cases h

def pickS (ops : List Oper) (st : List Nat) : List (Oper × Nat) := ops.zipIdx.filter fun x => st.contains x.2
def pickD (ops : List Oper) (st : List Nat) : List (Oper × Nat) := ops.zipIdx.filter fun x => !st.contains x.2

theorem pickS_mem {ops : List Oper} {st : List Nat} {o : Oper} {i : Nat} : (o, i) ∈ pickS ops st ↔ ops[i]? = some o ∧ i ∈ st := by
 unfold pickS
 rw [List.mem_filter, List.mem_zipIdx_iff_getElem?]
 simp

theorem pickD_mem {ops : List Oper} {st : List Nat} {o : Oper} {i : Nat} : (o, i) ∈ pickD ops st ↔ ops[i]? = some o ∧ i ∉ st := by
 unfold pickD
 rw [List.mem_filter, List.mem_zipIdx_iff_getElem?]
 simp

theorem zipIdx_sorted : ∀ (l : List Oper) (n : Nat), (l.zipIdx n).Pairwise fun a b => a.2 < b.2
 | [], n => by simp
 | o :: l, n => by
  rw [List.zipIdx_cons, List.pairwise_cons]
  refine ⟨fun b hb => ?_, zipIdx_sorted l (n + 1)⟩
  have := List.le_snd_of_mem_zipIdx hb
  show n < b.2
  omega

theorem pickS_sorted (ops : List Oper) (st : List Nat) : (pickS ops st).Pairwise fun a b => a.2 < b.2 := (zipIdx_sorted ops 0).filter _
theorem pickD_sorted (ops : List Oper) (st : List Nat) : (pickD ops st).Pairwise fun a b => a.2 < b.2 := (zipIdx_sorted ops 0).filter _

theorem sorted_lt {l : List (Oper × Nat)} (h : l.Pairwise fun a b => a.2 < b.2) {j k : Nat} {x y : Oper × Nat} (hj : l[j]? = some x) (hk : l[k]? = some y) : x.2 < y.2 ↔ j < k := by
 rw [List.pairwise_iff_getElem] at h
 obtain ⟨hj1, rfl⟩ := List.getElem?_eq_some_iff.1 hj
 obtain ⟨hk1, rfl⟩ := List.getElem?_eq_some_iff.1 hk
 constructor
 ·intro hlt
  rcases Nat.lt_trichotomy j k with h1 | h1 | h1
  ·exact h1
  ·subst h1; omega
  ·have := h k j hk1 hj1 h1; omega
 ·exact fun h1 => h j k hj1 hk1 h1

theorem traceX_get {l : List (Oper × Nat)} {e : Env} {es : Nat → Env} {ds : Nat → D} (h0 : es 0 = e) (hi : ∀ (k : Nat) (x : Oper × Nat), l[k]? = some x → es (k + 1) = (es k).putO x.1.dst (ds k)) :
  ∀ (n k : Nat), k + n ≤ l.length → ∀ (t : Nat), (∀ (j : Nat) (x : Oper × Nat), k ≤ j → j < k + n → l[j]? = some x → x.1.dst ≠ some t) → (es (k + n)).get t = (es k).get t
 | 0, k, _, t, _ => rfl
 | n + 1, k, hle, t, hn => by
  have ih := traceX_get h0 hi n k (by omega) t fun j x h1 h2 => hn j x h1 (by omega)
  have hx : l[k + n]? = some (l[k + n]'(by omega)) := by simp
  rw [show k + (n + 1) = k + n + 1 by omega, hi _ _ hx]
  have hne := hn (k + n) _ (by omega) (by omega) hx
  cases hd : (l[k + n]'(by omega)).1.dst with
  | none => exact ih
  | some s =>
   rw [hd] at hne
   simp only [Env.putO, Env.get_cons]
   rw [if_neg (fun h => hne (by rw [h]))]
   exact ih

structure InvX (C : Ctx) (H Hs : Heap) (ops : List Oper) (st : List Nat) (es : Nat → Env) (ds : Nat → D) (K : Env → Heap → Prop) (L : Nat → Prop) (a : Act) (w : World) : Prop where
 size : a.tmps.size = C.N
 defers : Marks C.w0 a.defers w
 rest : ∃ (Hc : Heap) (ed : Env) (m : Nat), HOK w Hc ∧ Ext C.w0 C.H0 w Hc ∧ Over Hs Hc ∧ ((m = 0 → Hc = H) ∧ m ≤ (pickD ops st).length) ∧
  (∀ (t : Nat) (d : D), ed.get t = some d → (∀ i p, (p, i) ∈ pickS ops st → p.dst = some t → L i) → ∃ v, a.tmps[t]? = some v ∧ Rep w Hc v d) ∧
  (∀ (k : Nat) (x : Oper × Nat) (t : Nat), (pickS ops st)[k]? = some x → x.1.dst = some t → ed.get t = some (ds k)) ∧
  (∀ (k t : Nat) (d : D), k ≤ (pickS ops st).length → (es k).get t = some d → (∀ (j : Nat) (x : Oper × Nat), (pickS ops st)[j]? = some x → x.1.dst = some t → j < k) → (∀ x ∈ pickD ops st, x.1.dst = some t → ¬ L x.2) → ed.get t = some d) ∧
  (∀ (j : Nat) (x : Oper × Nat), (pickD ops st)[j]? = some x → (L x.2 ↔ j < m)) ∧ RY C Hs ops ((pickD ops st).drop m) ed Hc K

theorem agree_mask {a : Act} {w : World} {H : Heap} {e : Env} {o : Oper} (h : ∀ t ∈ opTmps o, ∀ d, e.get t = some d → ∃ v, a.tmps[t]? = some v ∧ Rep w H v d) : Agree a.eval w H (e.mask o) := by
 refine ⟨fun x d hx => ?_, fun v => rfl⟩
 cases x with
 | tmp t =>
  have hx' : e.get t = some d := Env.only_get _ _ t d hx
  have ht : t ∈ opTmps o := by
   have : ∀ (ts : List Nat) (d : D), (e.only ts).get t = some d → t ∈ ts := by
    intro ts
    induction ts with
    | nil => intro d h; simp [Env.only, Env.get] at h
    | cons s ts ih =>
     intro d h
     simp only [Env.only] at h
     split at h
     ·rw [Env.get_cons] at h
      split at h
      ·rename_i hst; subst hst; simp
      ·exact List.mem_cons_of_mem _ (ih d h)
     ·exact List.mem_cons_of_mem _ (ih d h)
   exact this _ d hx
  obtain ⟨v, hv, hr⟩ := h t ht d hx'
  simpa [Act.eval, Array.getD_eq_getD_getElem?, hv] using hr
 | const v => exact rep_const hx
 | global g => simp [Env.ev] at hx
 | func f =>
  simp only [Env.ev, Option.some.injEq] at hx
  subst hx
  exact RepsA.fn f ⟨rfl, fun j x hx => by simp at hx⟩

theorem guard_of {a : Act} {w : World} {H : Heap} {e : Env} {ops : List Oper} {o : Oper} {j : Nat} {want : Bool} {b : Option Bool} (hgu : o.guard = some (j, want)) (h : ∀ t ∈ guardTmp ops o, ∀ d, e.get t = some d → ∃ v, a.tmps[t]? = some v ∧ Rep w H v d) (hb : guardD ops e j = some b) : yielded ops.toArray a.tmps j = b := by
 unfold guardD at hb
 unfold yielded
 simp only [List.getElem?_toArray]
 cases hj : (ops[j]?).bind (·.dst) with
 | none => rw [hj] at hb; cases hb
 | some t =>
  rw [hj] at hb
  simp only [Option.bind_some]
  have ht : t ∈ guardTmp ops o := by simp [guardTmp, hgu, hj]
  simp only at hb
  cases hx : e.get t with
  | none => rw [hx] at hb; cases hb
  | some d =>
   obtain ⟨v, hv, hr⟩ := h t ht d hx
   rw [hx] at hb
   rw [hv]
   split at hb
   ·rename_i c hc
    cases hc
    rw [rep_bool hr]
    exact Option.some.inj hb
   ·rename_i hc
    cases hc
    obtain ⟨vs, rfl, _⟩ := rep_tup hr
    exact Option.some.inj hb
   ·cases hb

theorem phaseX {C : Ctx} {H Hs : Heap} {free st : List Nat} {e : Env} {ops : List Oper} {es : Nat → Env} {ds : Nat → D} {K : Env → Heap → Prop} {Q : Exit → Act → World → Prop} (hQ : ∀ e H a w, K e H → St C a w e H → Q .normal a w) (hHs : Over Hs H)
  (hok : OrdX ops st free) (h0 : es 0 = e) (hes : ∀ k x, (pickS ops st)[k]? = some x → StaX C H Hs free ops (es k) x (ds k) ∧ es (k + 1) = (es k).putO x.1.dst (ds k)) :
  ∀ (fuel : Nat) (listed : Array Bool) (a : Act) (w : World), listed.size = ops.length → Shut ops (LA listed) → ((List.range ops.length).filter fun j => !listed.getD j false).length ≤ fuel → InvX C H Hs ops st es ds K (LA listed) a w → wpAny C.P .any ops.toArray Q fuel listed a w := by
 have ending : ∀ (listed : Array Bool) (a : Act) (w : World), (∀ j, j < ops.length → LA listed j) → InvX C H Hs ops st es ds K (LA listed) a w → Q .normal a w := fun listed a w hall ⟨hsz, hdf, Hc, ed, m, i1, i2, i3, ⟨i4, _⟩, i5, i6, i7, i8, i9⟩ => by
  have hm : (pickD ops st).drop m = [] := by
   rw [List.drop_eq_nil_iff]
   refine Classical.byContradiction fun hn => ?_
   have hml : m < (pickD ops st).length := by omega
   have hx : (pickD ops st)[m]? = some (pickD ops st)[m] := by simp
   have hmem := pickD_mem.1 (List.mem_of_getElem? hx)
   have := (i8 m _ hx).1 (hall _ (List.getElem?_eq_some_iff.1 hmem.1).1)
   omega
  rw [hm] at i9
  refine hQ ed Hc a w i9 ⟨hsz, hdf, fun t d hd => i5 t d hd fun i p hp _ => ?_, i1, i2⟩
  exact hall i (List.getElem?_eq_some_iff.1 (pickS_mem.1 hp).1).1
 have ready_none : ∀ (listed : Array Bool), listed.size = ops.length → Region.ready .any ops.toArray listed = [] → ∀ j, j < ops.length → LA listed j := fun listed hsz hr => by
  refine fun j hj => Classical.byContradiction fun hn => ?_
  obtain ⟨q, ⟨hq, hqn⟩, hqmin⟩ := exists_least (fun j => j < ops.length ∧ ¬ LA listed j) ⟨j, hj, hn⟩
  have hqo : ops[q]? = some ops[q] := by simp
  have : q ∈ Region.ready .any ops.toArray listed := by
   rw [mem_ready]
   refine ⟨?_, ops[q], by simp, fun e he hb => ?_⟩
   ·have hqs : q < listed.size := by omega
    unfold LA at hqn
    simp [hqs] at hqn ⊢
    exact hqn
   ·have hlt := hok.lt q _ hqo e (Array.mem_toList_iff.2 he) hb
    refine Classical.byContradiction fun hn => ?_
    have := hqmin e.on ⟨by omega, hn⟩
    omega
  rw [hr] at this
  cases this
 intro fuel
 induction fuel with
 | zero =>
  intro listed a w hsz hshut hcount hinv
  have hall : ∀ j, j < ops.length → LA listed j := fun j hj => by
   by_cases h : listed.getD j false = true
   ·exact h
   ·have hm : j ∈ (List.range ops.length).filter fun j => !listed.getD j false := List.mem_filter.2 ⟨List.mem_range.2 hj, by simpa using h⟩
    have := List.length_pos_of_mem hm
    omega
  refine ⟨?_, ending listed a w hall hinv⟩
  rw [List.eq_nil_iff_forall_not_mem]
  intro j hj
  rw [mem_ready] at hj
  obtain ⟨hn, o, ho, _⟩ := hj
  have hlt : j < ops.length := by
   have := (Array.getElem?_eq_some_iff.1 ho).1
   simpa using this
  have hla := hall j hlt
  have hjs : j < listed.size := by omega
  unfold LA at hla
  simp [hjs] at hla hn
  rw [hla] at hn
  cases hn
 | succ fuel ih =>
  intro listed a w hsz hshut hcount hinv
  refine ⟨fun hr => ending listed a w (ready_none listed hsz hr) hinv, fun i hi => ?_⟩
  rw [mem_ready] at hi
  obtain ⟨hn, o, ho, ha⟩ := hi
  have ho' : ops[i]? = some o := by simpa using ho
  have hil := (List.getElem?_eq_some_iff.1 ho').1
  have his : i < listed.size := by omega
  have hni : ¬ LA listed i := fun h => by
   unfold LA at h
   simp [his] at h hn
   rw [h] at hn
   cases hn
  have hafter : ∀ e ∈ o.after.toList, Region.binds .any e = true → LA listed e.on := fun e he hb => ha e (Array.mem_toList_iff.1 he) hb
  have hshut' : Shut ops (LA (listed.setIfInBounds i true)) := fun k p hp hk e he hb => by
   by_cases hki : k = i
   ·subst hki
    rw [ho'] at hp
    cases hp
    exact getD_set_true (hafter e he hb)
   ·have hk' : LA listed k := by
     unfold LA at hk ⊢
     rwa [getD_set_ne false (Ne.symm hki)] at hk
    exact getD_set_true (hshut k p hp hk' e he hb)
  have hLA : ∀ j, LA (listed.setIfInBounds i true) j ↔ (LA listed j ∨ j = i) := fun j => by
   unfold LA
   by_cases hji : j = i
   ·subst hji
    simp [his]
   ·rw [getD_set_ne false (Ne.symm hji)]
    simp [hji]
  have hcnt := count_set (m := ops.length) (listed := listed) hil (by omega) (by unfold LA at hni; simpa using hni)
  have next : ∀ a' w', InvX C H Hs ops st es ds K (fun j => LA listed j ∨ j = i) a' w' → wpAny C.P .any ops.toArray Q fuel (listed.setIfInBounds i true) a' w' := fun a' w' hinv' => by
   refine ih _ a' w' (by simpa using hsz) hshut' (by omega) ?_
   have hfun : LA (listed.setIfInBounds i true) = fun j => LA listed j ∨ j = i := funext fun j => propext (hLA j)
   rw [hfun]
   exact hinv'
  have bef : ∀ k, ((masks [] ops).getD i 0).testBit k = true → LA listed k := fun k hk => before_of hshut ho' hafter hk
  obtain ⟨hsz2, hdf, Hc, ed, m, i1, i2, i3, ⟨i4, i4m⟩, i5, i6, i7, i8, i9⟩ := hinv
  have hdst : dstOk C.N o.dst = true → ∀ t, o.dst = some t → t < a.tmps.size := fun hd t ht => by
   rw [ht] at hd
   rw [hsz2]
   simpa [dstOk, Nat.blt_eq] using hd
  unfold wpOp
  rw [ho]
  simp only []
  by_cases hst : i ∈ st
  ·-- a static one
   obtain ⟨k, hkl, hk⟩ := List.mem_iff_getElem.1 (pickS_mem.2 ⟨ho', hst⟩)
   have hk' : (pickS ops st)[k]? = some (o, i) := by rw [List.getElem?_eq_getElem hkl, hk]
   obtain ⟨⟨hd, hg⟩, _⟩ := hes k _ hk'
   have hread : ∀ t ∈ opTmps o ++ guardTmp ops o, ∀ d, (es k).get t = some d → ∃ v, a.tmps[t]? = some v ∧ Rep w Hc v d := fun t ht d hdt => by
    have hw := hok.dep i o ho' t ht
    refine i5 t d (i7 k t d (by omega) hdt (fun j x hx hxt => ?_) fun x hx hxt => ?_) fun q p hp hpt => ?_
    ·obtain ⟨x1, x2⟩ := x
     have hm := pickS_mem.1 (List.mem_of_getElem? hx)
     have := ((hw x2 x1 hm.1 hxt).resolve_right fun h => h.1 hm.2).1
     exact (sorted_lt (pickS_sorted ops st) hx hk').1 this
    ·obtain ⟨x1, x2⟩ := x
     have hm := pickD_mem.1 hx
     rcases hw x2 x1 hm.1 hxt with h | h
     ·exact absurd (h.2.2 hst) hm.2
     ·intro hl
      exact hni (before_of (ops := ops) hshut hm.1 (fun e he hb => hshut _ _ hm.1 hl e he hb) h.2.2)
    ·exact bef q ((hw q p (pickS_mem.1 hp).1 hpt).resolve_right fun h => h.1 (pickS_mem.1 hp).2).2.1
   have hag := agree_mask (a := a) (w := w) (H := Hc) (e := es k) (o := o) fun t ht => hread t (List.mem_append_left _ ht)
   have hsee : SeesX H Hs free i Hc := by
    by_cases hf : i ∈ free
    ·exact .inr ⟨hf, i3⟩
    ·refine .inl ?_
     have hm0 : m = 0 := by
      refine Classical.byContradiction fun hm0 => ?_
      -- an operation that is not static has run: this one, too
      by_cases hdl : (pickD ops st).length = 0
      ·omega
      ·have hx : (pickD ops st)[0]? = some ((pickD ops st)[0]'(by omega)) := by simp
       have hm := pickD_mem.1 (List.mem_of_getElem? hx)
       have hl0 : LA listed ((pickD ops st)[0]'(by omega)).2 := (i8 0 _ hx).2 (by omega)
       have hbit := hok.nfree _ i (List.getElem?_eq_some_iff.1 hm.1).1 hil hm.2 hst hf
       have := before_of (ops := ops) hshut hm.1 (fun e he hb => hshut _ _ hm.1 hl0 e he hb) hbit
       exact hni this
     rw [i4 hm0]
     exact Over.refl _
   have after : ∀ (v : Value) (w' : World), Rep w' Hc v (ds k) → HOK w' Hc → Ext w Hc w' Hc → InvX C H Hs ops st es ds K (fun j => LA listed j ∨ j = i) (a.put o.dst v) w' := fun v w' hr hok' hex => by
    refine ⟨?_, by rw [Act.put_defers']; exact hdf.ext i1 hex, Hc, ed, m, hok', i2.trans hex, i3, ⟨i4, i4m⟩, fun t d hdt hall => ?_, i6, fun k' t' d' hk'' h1 h2 h3 => i7 k' t' d' hk'' h1 h2 fun x hx hxt hl => h3 x hx hxt (.inl hl), fun j x hx => ?_, i9⟩
    ·cases hd' : o.dst with
     | none => exact hsz2
     | some t => simp [Act.put, hsz2]
    ·by_cases hto : o.dst = some t
     ·have : d = ds k := by
       have := i6 k _ t hk' hto
       rw [hdt] at this
       exact Option.some.inj this
      subst this
      rw [hto]
      exact ⟨v, put_tmps_self (hdst hd t hto), hr⟩
     ·obtain ⟨u, hu, hur⟩ := i5 t d hdt fun q p hp hpt => by
       rcases hall q p hp hpt with h | h
       ·exact h
       ·subst h
        have := (pickS_mem.1 hp).1
        rw [ho'] at this
        cases this
        exact absurd hpt hto
      exact ⟨u, put_tmps hu hto, hur.ext hex⟩
    ·obtain ⟨x1, x2⟩ := x
     have hm := pickD_mem.1 (List.mem_of_getElem? hx)
     have hne : x2 ≠ i := fun h => hm.2 (h ▸ hst)
     have := i8 j _ hx
     simp only at this ⊢
     rw [← this]
     constructor
     ·exact fun h => h.resolve_right hne
     ·exact .inl
   have yes : (∀ H', SeesX H Hs free i H' → Sta C.P H' ((es k).mask o) o (ds k)) → o.wp C.P a w (wpAny C.P .any ops.toArray Q fuel (listed.setIfInBounds i true)) Q := fun hs =>
    wp_of_opTo ((hs Hc hsee).go a.eval w hag i1) fun v w' ⟨hr, hok', hex⟩ => next _ _ (after v w' hr hok' hex)
   have no : ds k = .tup [] → wpAny C.P .any ops.toArray Q fuel (listed.setIfInBounds i true) (a.put o.dst undef) w := fun hd' => by
    refine next _ _ (after undef w ?_ i1 (.refl _ _))
    rw [hd']
    exact RepsA.tup (vs := #[]) (ds := []) ⟨rfl, fun j x hx => by simp at hx⟩
   unfold GuardIs at hg
   cases hgu : o.guard with
   | none =>
    simp only [hgu] at hg
    rw [if_pos (by simp [Region.wanted, hgu])]
    exact .inl (yes hg)
   | some jw =>
    obtain ⟨j, want⟩ := jw
    simp only [hgu] at hg
    obtain ⟨b, hb, hy, hn'⟩ := hg
    have hyield := guard_of (ops := ops) hgu (fun t ht => hread t (List.mem_append_right _ ht)) hb
    by_cases hbw : b = some want
    ·rw [if_pos (by simp only [Region.wanted, hgu, hyield, hbw]; exact beq_self_eq_true _)]
     exact .inl (yes (hy hbw))
    ·rw [if_neg (by simp only [Region.wanted, hgu, hyield]; intro hx; exact hbw (by simpa using hx))]
     exact no (hn' hbw)
  ·-- one of the others: the next one
   obtain ⟨k, hkl, hk⟩ := List.mem_iff_getElem.1 (pickD_mem.2 ⟨ho', hst⟩)
   have hk' : (pickD ops st)[k]? = some (o, i) := by rw [List.getElem?_eq_getElem hkl, hk]
   have hkm : k = m := by
    have h1 : ¬ k < m := fun h => hni ((i8 k _ hk').2 h)
    rcases Nat.lt_or_ge m k with h2 | h2
    ·have hx : (pickD ops st)[m]? = some ((pickD ops st)[m]'(by omega)) := by simp
     have hm := pickD_mem.1 (List.mem_of_getElem? hx)
     have hlt := (sorted_lt (pickD_sorted ops st) hx hk').2 h2
     have hbit := hok.chain i _ hil hlt hst hm.2
     have := (i8 m _ hx).1 (bef _ hbit)
     omega
    ·omega
   subst hkm
   have hdrop : (pickD ops st).drop k = (o, i) :: (pickD ops st).drop (k + 1) := by rw [List.drop_eq_getElem_cons hkl, hk]
   rw [hdrop] at i9
   obtain ⟨hd, hg⟩ := i9
   have hread : ∀ t ∈ opTmps o ++ guardTmp ops o, ∀ d, ed.get t = some d → ∃ v, a.tmps[t]? = some v ∧ Rep w Hc v d := fun t ht d hdt =>
    i5 t d hdt fun q p hp hpt => bef q ((hok.dep i o ho' t ht q p (pickS_mem.1 hp).1 hpt).resolve_right fun h => h.1 (pickS_mem.1 hp).2).2.1
   have hag := agree_mask (a := a) (w := w) (H := Hc) (e := ed) (o := o) fun t ht => hread t (List.mem_append_left _ ht)
   have after : ∀ (v : Value) (w' : World) (d : D) (H' : Heap), Rep w' H' v d → HOK w' H' → Ext w Hc w' H' → Over Hs H' → RY C Hs ops ((pickD ops st).drop (k + 1)) (ed.putO o.dst d) H' K → InvX C H Hs ops st es ds K (fun j => LA listed j ∨ j = i) (a.put o.dst v) w' := fun v w' d H' hr hok' hex hov hry => by
    have hget : ∀ t, o.dst ≠ some t → (ed.putO o.dst d).get t = ed.get t := fun t hne => by
     cases hd' : o.dst with
     | none => rfl
     | some s =>
      rw [hd'] at hne
      simp only [Env.putO, Env.get_cons]
      rw [if_neg (fun h => hne (by rw [h]))]
    have hself : ∀ t, o.dst = some t → (ed.putO o.dst d).get t = some d := fun t ht => by
     rw [ht]
     simp [Env.putO, Env.get_cons]
    refine ⟨?_, by rw [Act.put_defers']; exact hdf.ext i1 hex, H', ed.putO o.dst d, k + 1, hok', i2.trans hex, hov, ⟨fun h => by omega, by omega⟩, fun t d' hdt hall => ?_, fun q x t hx hxt => ?_, fun q t d' hq hqt hs hdd => ?_, fun j x hx => ?_, hry⟩
    ·cases hd' : o.dst with
     | none => exact hsz2
     | some t => simp [Act.put, hsz2]
    ·by_cases hto : o.dst = some t
     ·rw [hself t hto] at hdt
      cases hdt
      rw [hto]
      exact ⟨v, put_tmps_self (hdst hd t hto), hr⟩
     ·rw [hget t hto] at hdt
      obtain ⟨u, hu, hur⟩ := i5 t d' hdt fun q p hp hpt => by
       rcases hall q p hp hpt with h | h
       ·exact h
       ·subst h; exact absurd (pickS_mem.1 hp).2 hst
      exact ⟨u, put_tmps hu hto, hur.ext hex⟩
    ·obtain ⟨x1, x2⟩ := x
     have hm := pickS_mem.1 (List.mem_of_getElem? hx)
     rw [hget t (fun h => ?_)]
     ·exact i6 q _ t hx hxt
     ·have := hok.dist i x2 o x1 t ho' hm.1 h hxt
      exact hst (this ▸ hm.2)
    ·rw [hget t (fun h => hdd _ (pickD_mem.2 ⟨ho', hst⟩) h (.inr rfl))]
     exact i7 q t d' hq hqt hs fun x hx hxt hl => hdd x hx hxt (.inl hl)
    ·obtain ⟨x1, x2⟩ := x
     have := i8 j _ hx
     simp only at this ⊢
     constructor
     ·rintro (h | h)
      ·have := this.1 h; omega
      ·subst h
       have := (pickD_sorted ops st)
       rcases Nat.lt_trichotomy j k with h1 | h1 | h1
       ·omega
       ·omega
       ·have := (sorted_lt (pickD_sorted ops st) hk' hx).2 h1
        simp at this
     ·intro h
      by_cases hjk : j = k
      ·subst hjk
       rw [hk'] at hx
       cases hx
       exact .inr rfl
      ·exact .inl (this.2 (by omega))
   have yes : (OpD C.P Hc (ed.mask o) o fun d H' => Over Hs H' ∧ RY C Hs ops ((pickD ops st).drop (k + 1)) (ed.putO o.dst d) H' K) → o.wp C.P a w (wpAny C.P .any ops.toArray Q fuel (listed.setIfInBounds i true)) Q := fun hs =>
    wp_of_opTo (hs.go a.eval w hag i1) fun v w' ⟨d, H', ⟨hov, hry⟩, hr, hok', hex⟩ => next _ _ (after v w' d H' hr hok' hex hov hry)
   have no : RY C Hs ops ((pickD ops st).drop (k + 1)) (ed.putO o.dst (.tup [])) Hc K → wpAny C.P .any ops.toArray Q fuel (listed.setIfInBounds i true) (a.put o.dst undef) w := fun hry =>
    next _ _ (after undef w (.tup []) Hc (RepsA.tup (vs := #[]) (ds := []) ⟨rfl, fun j x hx => by simp at hx⟩) i1 (.refl _ _) i3 hry)
   unfold GuardIs at hg
   cases hgu : o.guard with
   | none =>
    rw [hgu] at hg
    rw [if_pos (by simp [Region.wanted, hgu])]
    exact .inl (yes hg)
   | some jw =>
    obtain ⟨j, want⟩ := jw
    rw [hgu] at hg
    obtain ⟨b, hb, hy, hn'⟩ := hg
    have hyield := guard_of (ops := ops) hgu (fun t ht => hread t (List.mem_append_right _ ht)) hb
    by_cases hbw : b = some want
    ·rw [if_pos (by simp only [Region.wanted, hgu, hyield, hbw]; exact beq_self_eq_true _)]
     exact .inl (yes (hy hbw))
    ·rw [if_neg (by simp only [Region.wanted, hgu, hyield]; intro hx; exact hbw (by simpa using hx))]
     exact no (hn' hbw)

theorem DW.drawX {C : Ctx} {e : Env} {H : Heap} {Q : Post} {id : Nat} {l : List Oper} (st free : List Nat) (Hs : Heap) (hm : C.P.follows .mixedOrders = true) (hok : ordX l st free = true) (hHs : Over Hs H)
  (h : RX C H Hs free l (pickS l st) e fun ef => RY C Hs l (pickD l st) ef H fun e' H' => Q .normal e' H') : DW C (.region id l.toArray true) e H Q := by
 have hX := ordX_spec hok
 refine .mk fun a w hs => wp_region_any hm ?_
 obtain ⟨es, ds, h0, hes, hK⟩ := RX.trace _ e _ h
 have hnone : ∀ j, ¬ LA (Array.replicate l.toArray.size false) j := fun j hj => by
  unfold LA at hj
  rw [Array.getD_eq_getD_getElem?, Array.getElem?_replicate] at hj
  split at hj <;> simp at hj
 have hes2 : ∀ k x, (pickS l st)[k]? = some x → es (k + 1) = (es k).putO x.1.dst (ds k) := fun k x hx => (hes k x hx).2
 refine phaseX (K := fun e' H' => Q .normal e' H') (fun e' H' a' w' hk hs' => ⟨e', H', hk, hs'⟩) hHs hX h0 hes _ _ a _ (by simp) (fun i o _ hi => absurd hi (hnone i)) ?_ ?_
 ·have := List.length_filter_le (fun j => !(Array.replicate l.toArray.size false).getD j false) (List.range l.length)
  simp only [List.length_range, List.size_toArray] at this ⊢
  omega
 ·have hex : Ext w H { w with drawn := w.drawn + 1 } H := Ext.drew w H _
  have hsd : ∀ (j k : Nat) (x y : Oper × Nat) (t : Nat), (pickS l st)[j]? = some x → (pickS l st)[k]? = some y → x.1.dst = some t → y.1.dst = some t → j = k := fun j k x y t hx hy hxt hyt => by
   obtain ⟨x1, x2⟩ := x
   obtain ⟨y1, y2⟩ := y
   have h1 := pickS_mem.1 (List.mem_of_getElem? hx)
   have h2 := pickS_mem.1 (List.mem_of_getElem? hy)
   have h3 := hX.dist x2 y2 x1 y1 t h1.1 h2.1 hxt hyt
   rcases Nat.lt_trichotomy j k with h | h | h
   ·have := (sorted_lt (pickS_sorted l st) hx hy).2 h
    simp only at this; omega
   ·exact h
   ·have := (sorted_lt (pickS_sorted l st) hy hx).2 h
    simp only at this; omega
  refine ⟨hs.size, hs.defers.ext hs.heap hex, H, es (pickS l st).length, 0, hs.heap.drew _, hs.ext.trans hex, hHs, ⟨fun _ => rfl, Nat.zero_le _⟩, fun t d hd hall => ?_, fun k x t hx hxt => ?_, fun k t d hk hkt hj _ => ?_, fun j x hx => ?_, by simpa using hK⟩
  ·-- a slot that no static one writes
   have hnw : ∀ (j : Nat) (x : Oper × Nat), (pickS l st)[j]? = some x → x.1.dst ≠ some t := fun j x hx hxt => by
    obtain ⟨x1, x2⟩ := x
    exact hnone _ (hall x2 x1 (List.mem_of_getElem? hx) hxt)
   have := traceX_get h0 hes2 (pickS l st).length 0 (by omega) t fun j x _ _ hx => hnw j x hx
   rw [Nat.zero_add] at this
   rw [this, h0] at hd
   obtain ⟨v, hv, hr⟩ := hs.env t d hd
   exact ⟨v, hv, hr.ext hex⟩
  ·have hkl := (List.getElem?_eq_some_iff.1 hx).1
   have := traceX_get h0 hes2 ((pickS l st).length - (k + 1)) (k + 1) (by omega) t fun j y h1 h2 hy hyt => by
    have := hsd k j x y t hx hy hxt hyt
    omega
   rw [show k + 1 + ((pickS l st).length - (k + 1)) = (pickS l st).length by omega] at this
   rw [this, hes2 k x hx, hxt]
   simp [Env.putO, Env.get_cons]
  ·have := traceX_get h0 hes2 ((pickS l st).length - k) k (by omega) t fun j y h1 h2 hy hyt => by
    have := hj j y hy hyt
    omega
   rw [show k + ((pickS l st).length - k) = (pickS l st).length by omega] at this
   rw [this, hkt]
  ·exact ⟨fun h => absurd h (hnone _), fun h => absurd h (Nat.not_lt_zero _)⟩

theorem Over.nul (H : Heap) : Over (fun _ => Option.none) H := fun b x h => by cases h

theorem RX.nil {C : Ctx} {H Hs : Heap} {free : List Nat} {ops : List Oper} {e : Env} {K : Env → Prop} (h : K e) : RX C H Hs free ops [] e K := h
theorem RY.nil {C : Ctx} {Hs : Heap} {ops : List Oper} {e : Env} {H : Heap} {K : Env → Heap → Prop} (h : K e H) : RY C Hs ops [] e H K := h

section
variable {C : Ctx} {e : Env} {H Hs : Heap} {free : List Nat} {ops : List Oper} {rest : List (Oper × Nat)} {i : Nat} {dst : Option Tmp} {op : Op} {ty : TypeId} {pos : String} {af : Array Edge} {d : D}

theorem RX.sta {K : Env → Prop} (hi : free.contains i = false) (h : ∀ H', Over H H' → Sta C.P H' (e.mask ⟨dst, op, ty, pos, af, none⟩) ⟨dst, op, ty, pos, af, none⟩ d) (hd : dstOk C.N dst = true) (hk : RX C H Hs free ops rest (e.putO dst d) K) :
  RX C H Hs free ops ((⟨dst, op, ty, pos, af, none⟩, i) :: rest) e K := ⟨hd, d, fun H' hs => h H' (hs.elim id fun hx => absurd hx.1 (by simpa using hi)), hk⟩

theorem RX.fre {K : Env → Prop} (hHs : Over Hs H) (h : ∀ H', Over Hs H' → Sta C.P H' (e.mask ⟨dst, op, ty, pos, af, none⟩) ⟨dst, op, ty, pos, af, none⟩ d) (hd : dstOk C.N dst = true) (hk : RX C H Hs free ops rest (e.putO dst d) K) :
  RX C H Hs free ops ((⟨dst, op, ty, pos, af, none⟩, i) :: rest) e K := ⟨hd, d, fun H' hs => h H' (hs.elim (fun ho b x hx => ho b x (hHs b x hx)) (fun hx => hx.2)), hk⟩

theorem RX.any {K : Env → Prop} (h : ∀ H', Sta C.P H' (e.mask ⟨dst, op, ty, pos, af, none⟩) ⟨dst, op, ty, pos, af, none⟩ d) (hd : dstOk C.N dst = true) (hk : RX C H Hs free ops rest (e.putO dst d) K) :
  RX C H Hs free ops ((⟨dst, op, ty, pos, af, none⟩, i) :: rest) e K := ⟨hd, d, fun H' hs => h H', hk⟩

theorem RY.dyn {K : Env → Heap → Prop} (hd : dstOk C.N dst = true) (h : OpD C.P H (e.mask ⟨dst, op, ty, pos, af, none⟩) ⟨dst, op, ty, pos, af, none⟩ fun d H' => Over Hs H' ∧ RY C Hs ops rest (e.putO dst d) H' K) :
  RY C Hs ops ((⟨dst, op, ty, pos, af, none⟩, i) :: rest) e H K := ⟨hd, h⟩

theorem RY.sta {K : Env → Heap → Prop} (hov : Over Hs H) (h : Sta C.P H (e.mask ⟨dst, op, ty, pos, af, none⟩) ⟨dst, op, ty, pos, af, none⟩ d) (hd : dstOk C.N dst = true) (hk : RY C Hs ops rest (e.putO dst d) H K) :
  RY C Hs ops ((⟨dst, op, ty, pos, af, none⟩, i) :: rest) e H K := ⟨hd, OpD.of_sta h ⟨hov, hk⟩⟩

theorem RX.A {K : Env → Prop} (hk : RX C H Hs free ops rest (e.putO dst d) K) (h : ∀ H', Sta C.P H' (e.mask ⟨dst, op, ty, pos, af, none⟩) ⟨dst, op, ty, pos, af, none⟩ d := by (first | (intro H'; (first | exact sta_move rfl | exact sta_assign rfl | exact s_cmp rfl rfl rfl | (refine s_arith rfl rfl rfl ?_ ?_ <;> omega) | (refine sta_rem rfl rfl ?_ ?_ <;> omega) | exact s_lenM rfl | exact s_len rfl rfl | exact s_field rfl | (refine s_indexM rfl rfl ?_; omega) | (refine s_indexM0 rfl rfl ?_; omega) | (refine s_loadM (fun _ => rfl) rfl ?_; omega) | (refine s_loadTm rfl ?_; omega) | (refine s_loadC rfl ?_; omega) | (refine s_loadE rfl ?_; omega) | exact s_load rfl rfl | exact s_loadAgg rfl rfl rfl | exact sta_not rfl | exact sta_extract rfl rfl | exact s_pickT rfl rfl | exact s_pickF rfl rfl | exact sta_box (k := 1) rfl rfl | exact sta_box (k := 4) rfl rfl | exact sta_box (k := 2) rfl rfl | exact s_fn rfl | exact s_lit1 (k := 1) (by decide) rfl rfl | exact s_lit1 (k := 2) (by decide) rfl rfl | exact s_litEmpty | exact s_fieldMut rfl | exact s_loadMut rfl (Heap.set_self _ _ _) rfl | exact s_loadMutAgg rfl (Heap.set_self _ _ _) rfl rfl)) | exact x_loadM (fun _ => rfl) rfl (by omega) | exact x_loadTm rfl (by omega) | exact x_loadC rfl (by omega) | exact x_loadE rfl (by omega))) (hd : dstOk C.N dst = true := by exact rfl) :
  RX C H Hs free ops ((⟨dst, op, ty, pos, af, none⟩, i) :: rest) e K := RX.any h hd hk
theorem RY.S {K : Env → Heap → Prop} (hk : RY C Hs ops rest (e.putO dst d) H K) (hov : Over Hs H := by exact Over.nul _) (h : Sta C.P H (e.mask ⟨dst, op, ty, pos, af, none⟩) ⟨dst, op, ty, pos, af, none⟩ d := by (first | exact sta_move rfl | exact sta_assign rfl | exact s_cmp rfl rfl rfl | (refine s_arith rfl rfl rfl ?_ ?_ <;> omega) | (refine sta_rem rfl rfl ?_ ?_ <;> omega) | exact s_lenM rfl | exact s_len rfl rfl | exact s_field rfl | (refine s_indexM rfl rfl ?_; omega) | (refine s_indexM0 rfl rfl ?_; omega) | (refine s_loadM (fun _ => rfl) rfl ?_; omega) | (refine s_loadTm rfl ?_; omega) | (refine s_loadC rfl ?_; omega) | (refine s_loadE rfl ?_; omega) | exact s_load rfl rfl | exact s_loadAgg rfl rfl rfl | exact sta_not rfl | exact sta_extract rfl rfl | exact s_pickT rfl rfl | exact s_pickF rfl rfl | exact sta_box (k := 1) rfl rfl | exact sta_box (k := 4) rfl rfl | exact sta_box (k := 2) rfl rfl | exact s_fn rfl | exact s_lit1 (k := 1) (by decide) rfl rfl | exact s_lit1 (k := 2) (by decide) rfl rfl | exact s_litEmpty | exact s_fieldMut rfl | exact s_loadMut rfl (Heap.set_self _ _ _) rfl | exact s_loadMutAgg rfl (Heap.set_self _ _ _) rfl rfl)) (hd : dstOk C.N dst = true := by exact rfl) :
  RY C Hs ops ((⟨dst, op, ty, pos, af, none⟩, i) :: rest) e H K := RY.sta hov h hd hk

end
end
end Go.Proofs.YtfjmdhemlfafbaaGreat
