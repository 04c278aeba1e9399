/-
  A function whose result is a cell. No condition.
-/
import Derived.Test.YtejpadofecboiaaE15
namespace Go.Proofs.Ytejpadofecboiaa
open Go.RowKit
set_option linter.unusedVariables false
set_option linter.unusedSimpArgs false

theorem PureH.of_bodyCell {P : Program} {H : Heap} {f : FuncId} {fn : Func} {c : Code} {ds cells : List D} {r : Tmp} {t T0 : TypeId} [AggT P t cells.length] (hf : P.funcs[f]? = some fn) (hb : fn.body = some c) (hn : (fn.name == "runtime.NumGoroutine") = false) (hds : ds.length ≤ fn.ntmps)
    (hres : fn.results = #[.cell r t])
    (h : ∀ w0 : World, DW ⟨P, fn.ntmps, w0, H⟩ c (argEnv 0 ds) H fun x e H' => (x = .ret ∨ x = .normal) ∧ ∃ b, e.get r = some (.ptr b 0) ∧ H' b = some (T0, cells) ∧ Over H H' ∧ H b = none) : PureH P H f ds (.agg cells) := by
  refine ⟨⟨fn, hf, hn, by rw [hb]; rfl⟩, fun w args ho ha => ?_⟩
  refine calls_of_wp hf hb ?_
  have hst : St ⟨P, fn.ntmps, w, H⟩ { tmps := args ++ Array.replicate (fn.ntmps - args.size) undef, defers := [] } w (argEnv 0 ds) H := by
    refine ⟨by simp [ha.1]; omega, rfl, fun t d hd => ?_, ho, .refl _ _⟩
    obtain ⟨_, hd'⟩ := argEnv_get ds 0 t d hd
    obtain ⟨v, hv, hr⟩ := ha.2 t d (by simpa using hd')
    exact ⟨v, by rw [Array.getElem?_append_left (Array.getElem?_eq_some_iff.1 hv).1]; exact hv, hr⟩
  refine wp_mono ((h w).go _ w hst) fun x a' w' hx => ?_
  obtain ⟨e', H', ⟨hxx, b, hget, hHb, hov, hbn⟩, s⟩ := hx
  obtain ⟨v, hv, hrep⟩ := s.env r _ hget
  have hvp := rep_ptr hrep
  subst hvp
  have hvd : a'.tmps.getD r undef = .pointer (some ⟨b, 0, none⟩) := by simp [Array.getD_eq_getD_getElem?, hv]
  obtain ⟨td, inf, hu, hd, hi, hs⟩ := AggT.h (P := P) (t := t) (k := cells.length)
  obtain ⟨cs, hcb, hcl, hcr⟩ := s.heap b T0 cells hHb
  have hvs : ∀ (m : Nat) (v : Value), ((List.range inf.size).map fun m => cs.getD m undef)[m]? = some v → w'.cell? ((⟨b, 0, none⟩ : Addr).add m) = some v := fun m v hm => by
    simp only [List.getElem?_map, Option.map_eq_some_iff] at hm
    obtain ⟨m', hm', rfl⟩ := hm
    have hlt : m < inf.size := by
      have := (List.getElem?_eq_some_iff.1 hm').1
      simpa using this
    rw [List.getElem?_range hlt] at hm'
    cases hm'
    have hy : cells[m]? = some (cells[m]'(by omega)) := by simp
    obtain ⟨_, u, hu', _⟩ := hcr m _ hy
    rw [addr_add, cell_of_row w' b (0 + m) cs T0 (0, 0) hcb, Nat.zero_add, hu']
    simp [Array.getD_eq_getD_getElem?, hu']
  have hload := run_load_agg hu hd hi w' (by simp) hvs
  simp only [Instr.loadAt, Instr.sureAddr, Sem.run_bind, Sem.run_pure, Result.andThen_ok] at hload
  have hsem : (results fn a'.tmps).run P w' = .ok (.agg ((List.range inf.size).map fun m => cs.getD m undef).toArray) w' := by
    rw [results_eq, hres]
    rw [show (#[ResultVar.cell r t] : Array ResultVar) = [ResultVar.cell r t].toArray from rfl, List.mapM_toArray, Sem.run_bind, Sem.run_map, List.mapM_cons, List.mapM_nil]
    simp [resSem, hvd, asAddr, hload]
  have hsub : H.sub H' := fun c x hc => hov c x hc
  have fin : a'.defers = [] ∧ ∃ v, (results fn a'.tmps).run P w' = .ok v w' ∧ ∃ v', Ending.returned v = .returned v' ∧ Rep w' H v' (.agg cells) ∧ HOK w' H ∧ Ext w H w' H := by
    refine ⟨s.defers, _, hsem, _, rfl, RepsA.agg ⟨by simp [hs], fun m y hy => ?_⟩, s.heap.sub hsub, s.ext.sub hsub⟩
    have hlt : m < inf.size := by rw [hs]; exact (List.getElem?_eq_some_iff.1 hy).1
    obtain ⟨_, u, hu', hrep⟩ := hcr m y hy
    exact ⟨u, by simp [hlt, Array.getD_eq_getD_getElem?, hu'], hrep.kept (.sub hsub)⟩
  rcases hxx with rfl | rfl
  · exact fin
  · exact fin

/-- A struct type that is built. -/
class BuildT (P : Program) (t : TypeId) (zd : outParam (List D)) (pl : outParam (Array (Nat × Nat))) : Prop where
  is : ∃ inf fs, P.info? t = some inf ∧ inf.zero = some (.agg (zd.map litV).toArray) ∧ P.underlying t = some (.struct fs) ∧ placesOf P fs = some pl
  lit : zd.all litOk = true

theorem BuildT.of {P : Program} {t : TypeId} {zd : List D} {pl : Array (Nat × Nat)} {fs : Array Field} (h1 : (P.info? t).bind (·.zero) = some (.agg (zd.map litV).toArray)) (hu : P.underlying t = some (.struct fs)) (h2 : placesOf P fs = some pl) (h3 : zd.all litOk = true) : BuildT P t zd pl := by
  cases hi : P.info? t with
  | none => rw [hi] at h1; cases h1
  | some inf => rw [hi] at h1; exact ⟨⟨inf, fs, hi, h1, hu, h2⟩, h3⟩

theorem s_buildT {P : Program} {H : Heap} {e : Env} {dst : Option Tmp} {ty : TypeId} {pos : String} {af : Array Edge} {gd : Option (Nat × Bool)} {t : TypeId} {zd out : List D} {pl : Array (Nat × Nat)} {parts : Array (Nat × Operand)} {pd : List (Nat × D)} [BuildT P t zd pl]
    (hp : evParts e parts.toList = some pd) (ho : fillD (pl[·]?) zd pd = some out) : Sta P H e ⟨dst, .build t parts, ty, pos, af, gd⟩ (.agg out) := by
  obtain ⟨inf, fs, h1, h2, h3, h4⟩ := BuildT.is (P := P) (t := t)
  exact sta_build h1 h2 h3 h4 rfl (BuildT.lit (P := P) (t := t) (pl := pl)) hp ho

end Go.Proofs.Ytejpadofecboiaa
