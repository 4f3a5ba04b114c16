/- What the rows of this seat share: the listed variable as the walks find it; a world for the witness. -/
import Derived.Test.YtdmhjnnogcpccaaGreatDoorJOpn
import Derived.Test.YtdmhjnnogcpccaaGreatDoorJCud
import Derived.Test.YtdmhjnnogcpccaaGreatDoorCards
import Derived.Test.YtdmhjnnogcpccaaGreatDoorTie
import Derived.WalkKit
import Derived.ProofKit
import Derived.ChangeOld
import Derived.ShutString
import Derived.RowKitTokens
import Derived.LaidLaws
import Derived.LaidHandle
import Derived.Deep.DeepHandedRow
import Derived.Lib.LaidTab
namespace Go.Proofs.YtdmhjnnogcpccaaGreatDoor
open Go.ChangeShapes Go.WideShapes Go.ChangeAt Go.RowKit
open Mu (Cl Bs Nd Ru Gr Tk)
set_option linter.unusedVariables false

theorem row_own : ownKnob Tryz.prog.godebug = none := by kernel_rfl
theorem row_laidOut : laidOutB Tryz.prog = true := by kernel_rfl
theorem row_et : Tryz.prog.globalNamed "errors.errorType" = some 0 := by kernel_rfl
theorem row_rt : (Tryz.prog.cutTypes.find? (·.1 == "internal/reflectlite.rtype")).map (·.2) = some 174 := by kernel_rfl
theorem row_size : Tryz.prog.types.size = 287 := by kernel_rfl
theorem row_one : ((List.range 287).filter fun t => Tryz.prog.rowNamed t [101, 114, 114, 111, 114]) = [35] := by kernel_rfl

/-- WHAT THE CONDITION GIVES A WALK: the variable's one cell. -/
theorem handle_of_laid {W : World} (h : laidMetH Tryz.prog [("errors.errorType", Rows.laid_errors_errorType)] W) : ErrT W := by
  have h' : laidMet Tryz.prog [] W ∧ handlesMet Tryz.prog [("errors.errorType", Rows.laid_errors_errorType)] W := h
  obtain ⟨name, u, ty, e1, e2, e3, e4, e5⟩ := h'.2 _ (List.mem_singleton.2 rfl)
  have en : name = [101, 114, 114, 111, 114] := (Option.some.inj e1).symm
  subst en
  obtain rfl := Option.some.inj (row_rt.symm.trans e2)
  have hm : ty ∈ (List.range 287).filter fun t => Tryz.prog.rowNamed t [101, 114, 114, 111, 114] := List.mem_filter.2 ⟨List.mem_range.2 (by rw [← row_size]; exact e3), e4⟩
  rw [row_one] at hm
  obtain rfl := List.mem_singleton.1 hm
  have hh : typeHandle Tryz.prog 35 = .pointer (some ⟨2, 35, none⟩) := by kernel_rfl
  rw [hh] at e5
  have hc : W.cell? ⟨0, 0, none⟩ = some (.iface 174 (.agg #[.pointer (some ⟨2, 35, none⟩)])) := by simpa using World.var?_cell row_et e5 0
  refine ⟨hc, ?_⟩
  rcases Nat.eq_zero_or_pos W.heap.size with h0 | h
  · simp [World.cell?, h0] at hc
  · exact h

/-- A world that meets the condition: the settled one, the variable's cell laid. -/
noncomputable def laidWorld (os : Os) : World :=
  let w0 := World.holding Tryz.prog os ⟨#[], #[], []⟩
  { w0 with heap := w0.heap.modify 0 fun
      | .cells _ t frozen => .cells #[.iface 174 (.agg #[.pointer (some ⟨2, 35, none⟩)])] t frozen
      | o => o }
theorem laidWorld_met (os : Os) (args : Array Value) : laidMetH Tryz.prog [("errors.errorType", Rows.laid_errors_errorType)] ((laidWorld os).forCall (fun _ _ => 0) ⟨#[], args, []⟩).memory :=
  laidMetH_of_parts (laidMet_nil _ _) (by kernel_rfl)

section
variable {H : Type} {enc : TypeId × Value → H} {W : World}

set_option maxRecDepth 100000 in
/-- a grammar among the arguments -/
theorem open_grammar {base : Nat} {r : Reach} {v : Value} {d : DataW H} {p : List MemPlace} (hv : Value.okWide Tryz.prog W r base 24 v) (h : DataW.Trod enc Tryz.prog W 0 (fun _ => true) true 24 v d p) (hb : Rows.uptoBulk d ≤ 1048576) :
    ∃ (a : Option Addr) (b off cap : Nat) (g : Gr) (S : Nat → Value), v = .agg #[.slice a g.length cap] ∧ RRs W (fun k => k < W.heap.size) a b off g S ∧ szg g + 1 ≤ Rows.uptoBulk d ∧ g.length ≤ 1048576 := by
  obtain ⟨cs, rfl, hsz⟩ := okWide_struct Tryz.underlying24 hv
  obtain ⟨fuel, hf⟩ := h
  obtain ⟨xs, m, _, hx0, hl, hx, hi⟩ := DataW.trod_struct Tryz.underlying24 hf
  have h0 := hi 0 _ rfl
  obtain ⟨l⟩ := cs
  rw [Tryz.cells24] at hsz
  match l, hsz with
  | [c0], _ =>
    match xs, hx with
    | [x0], _ =>
      simp [Value.cells, Tryz.cells22] at h0
      simp only [Prod.mk.injEq] at hx0
      have hd : Rows.uptoBulk d = Rows.uptoBulk x0.1 + 1 := by rw [hx0.1]; simp [Rows.uptoBulk, Rows.uptoBulkAll]
      obtain ⟨a, b, off, cap, g, S, hcs, hr, hs, hgl⟩ := read_rules m _ _ h0 (by omega)
      obtain rfl : c0 = .slice a g.length cap := by simpa using hcs
      exact ⟨a, b, off, cap, g, S, rfl, hr, by omega, hgl⟩

set_option maxRecDepth 100000 in
/-- a tree among the arguments -/
theorem open_tree1 {base : Nat} {r : Reach} {v : Value} {d : DataW H} {p : List MemPlace} (hv : Value.okWide Tryz.prog W r base 30 v) (h : DataW.Trod enc Tryz.prog W 0 (fun _ => true) true 30 v d p) (hb : Rows.uptoBulk d ≤ 1048576) :
    ∃ n : Nd, RN W (fun k => k < W.heap.size) v n ∧ Mu.sz n ≤ Rows.uptoBulk d := by
  obtain ⟨cs, rfl, hsz⟩ := okWide_struct Tryz.underlying30 hv
  obtain ⟨fuel, hf⟩ := h
  have := read_node fuel _ _ hf hb
  simpa [Value.cells] using this
end
end Go.Proofs.YtdmhjnnogcpccaaGreatDoor
