/- lex.cutter: fault, wrong, add. Frames: what a step leaves of the rest; a block of a result whose cells are all written. -/
import Derived.Test.YtdmhjnnogcpccaaGreatDoorJEas
import Derived.Deep.AppendLies
import Derived.Deep.RegionLaw
import Derived.Deep.DrawnRows
import Derived.Test.YtdmhjnnogcpccaaGreatDoorJSgn
section
namespace Go.Proofs.YtdmhjnnogcpccaaGreatDoor
open Go.RowKit
open Mu (Cl Bs Nd Ru Gr Tk)
set_option linter.unusedSimpArgs false
set_option linter.unusedVariables false

attribute [local irreducible] wpQuiet wpStill

attribute [local go_sem ↓] Go.wp_at_zero Go.wp_at_succ

theorem new_at (w : World) (o : Obj) (n : Nat) (hn : n = w.heap.size) : (w.alloc o).heap[n]? = some o := by
  subst hn
  exact last_block w o

/-- a token's cells -/
abbrev tkCells (t : Tk) : List Value := [.int .i64 (t.kind : Int), .string (ba t.text), .int .u64 (t.cls.a.toNat : Int), .int .u64 (t.cls.b.toNat : Int), .int .u64 (t.cls.c.toNat : Int), .int .u64 (t.cls.d.toNat : Int), .int .i64 (t.place : Int)]

abbrev tkv (t : Tk) : Value := .agg #[.int .i64 (t.kind : Int), .string (ba t.text), .int .u64 (t.cls.a.toNat : Int), .int .u64 (t.cls.b.toNat : Int), .int .u64 (t.cls.c.toNat : Int), .int .u64 (t.cls.d.toNat : Int), .int .i64 (t.place : Int)]

def toksCells (l : List Tk) : List Value := l.flatMap tkCells

theorem toksCells_snoc (l : List Tk) (t : Tk) : toksCells (l ++ [t]) = toksCells l ++ tkCells t := by simp [toksCells]

/-- the cutter lies in block b: its text, its place, its tokens in a row of its own -/
def IsCut (b : Nat) (s : Bs) (k : Nat) (l : List Tk) (w : World) : Prop :=
  ∃ v, w.heap[b]? = some (.cells #[.string (ba s), .int .i64 (k : Int), v] 145) ∧ w.ownsRow (b + 1) 112 7 v l.length (toksCells l)

theorem IsCut.keep {b : Nat} {s : Bs} {k : Nat} {l : List Tk} {w w' : World} (h : IsCut b s k l w) (hb : Below w.heap.size w w') : IsCut b s k l w' := by
  obtain ⟨v, h1, h2⟩ := h
  exact ⟨v, by rw [hb.block _ (lt_of_block h1)]; exact h1, owns_below h2 hb⟩

theorem IsCut.lt {b : Nat} {s : Bs} {k : Nat} {l : List Tk} {w : World} (h : IsCut b s k l w) : b < w.heap.size := by
  obtain ⟨v, h1, h2⟩ := h
  exact lt_of_block h1

/-- a writer of bytes leaves the cutter alone -/
theorem IsCut.wr {b c : Nat} {s : Bs} {k : Nat} {l : List Tk} {w w' : World} (h : IsCut b s k l w) (hw : Wr c w w') (hb : b ≠ c) (hc : ∀ j cs fz, w.heap[j]? = some (.cells cs 112 fz) → j ≠ c) : IsCut b s k l w' := by
  obtain ⟨v, h1, h2, h3⟩ := h
  refine ⟨v, hw.keep h1 hb (by intro c fz e; cases e), h2, ?_⟩
  rcases h3 with h3 | ⟨g, cap, cur, hv, hg, hh, r⟩
  · exact .inl h3
  · exact .inr ⟨g, cap, cur, hv, hg, hw.keep hh (hc _ _ _ hh) (by intro c fz e; cases e), r⟩

theorem IsCut.moved {b : Nat} {s : Bs} {k : Nat} {l : List Tk} {w : World} (h : IsCut b s k l w) (m : Nat) (x : Int) (hx : x = (m : Int)) : IsCut b s m l (w.setCell ⟨b, 1, none⟩ (.int .i64 x)) := by
  obtain ⟨v, h1, h2⟩ := h
  subst hx
  exact ⟨v, by rw [block_set h1]; rfl, ownsRow_setCell_below h2 (by simp) _⟩

theorem IsCut.cells {b : Nat} {s : Bs} {k : Nat} {l : List Tk} {w : World} (h : IsCut b s k l w) : w.cell? ⟨b, 0, none⟩ = some (.string (ba s)) ∧ w.cell? ⟨b, 1, none⟩ = some (.int .i64 (k : Int)) ∧ w.frozen? ⟨b, 1, none⟩ = false ∧ b < w.heap.size := by
  obtain ⟨v, h1, h2⟩ := h
  exact ⟨cell_at h1 0, cell_at h1 1, unfrozen_at h1 1, lt_of_block h1⟩

set_option maxHeartbeats 1000000 in
theorem lex_fault (c p : Int) (w : World) : Calls Tryz.prog 76 #[.int .i64 c, .int .i64 p] w fun e w' => ∃ v, e = .returned v ∧ IsFlt w.heap.size v ⟨c, p⟩ w' ∧ Below w.heap.size w w' := by
  go_enter Tryz.func76, Tryz.ntmps76
  go_wp2_with fail
  go_ret
  exact ⟨_, rfl, ⟨_, Nat.le_refl _, rfl, last_block _ _⟩, by (repeat' (first | exact Below.refl _ _ | assumption | refine Below.drew ?_ | refine Below.drewN' ?_ _ | refine Below.setCell ?_ (by first | (simp; done) | omega | (simp; omega)) _ | refine Below.alloc ?_ (by first | (simp; done) | omega | (simp; omega)) _ | refine Below.step ?_ (by assumption) (by first | (simp; done) | omega | (simp; omega))))⟩

/-- what cannot stand at place 'p' of a text -/
def cutWrong (n p : Nat) : Mu.Flt := if n ≤ p then ⟨3, n⟩ else ⟨4, p⟩

set_option maxHeartbeats 1000000 in
set_option maxRecDepth 20000 in
theorem cut_wrong (b : Nat) (s : Bs) (k : Nat) (l : List Tk) (p : Nat) (w : World) (h : IsCut b s k l w) (hn : s.length ≤ 100000) (hp : p ≤ 100010) :
    Calls Tryz.prog 150 #[.pointer (some ⟨b, 0, none⟩), .int .i64 (p : Int)] w fun e w' => ∃ v, e = .returned v ∧ IsFlt w.heap.size v (cutWrong s.length p) w' ∧ Below w.heap.size w w' := by
  obtain ⟨c0, c1, f1, hlt⟩ := h.cells
  have hsz : (ba s).size = s.length := rfl
  clear h
  by_cases hl : s.length ≤ p
  · have hcw : cutWrong s.length p = ⟨3, (s.length : Int)⟩ := if_pos hl
    rw [hcw]
    clear hcw
    go_enter Tryz.func150, Tryz.ntmps150
    go_wp2_with fail
    refine (lex_fault 3 s.length w).mono ?_
    rintro e w1 ⟨v, rfl, hv, hb⟩
    have HV := Lib.hid hv
    clear hv
    go_wp2_with fail
    go_ret
    exact ⟨_, rfl, HV.out, hb⟩
  · have hcw : cutWrong s.length p = ⟨4, (p : Int)⟩ := if_neg hl
    rw [hcw]
    clear hcw
    go_enter Tryz.func150, Tryz.ntmps150
    go_wp2_with fail
    refine (lex_fault 4 p w).mono ?_
    rintro e w1 ⟨v, rfl, hv, hb⟩
    have HV := Lib.hid hv
    clear hv
    go_wp2_with fail
    go_ret
    exact ⟨_, rfl, HV.out, hb⟩

theorem Tryz.infoTok : (Tryz.prog.info? 112).map (fun i => (i.zero, i.size, i.bytes)) = some (some (.agg #[.int .i64 0, .string ⟨#[]⟩, .int .u64 0, .int .u64 0, .int .u64 0, .int .u64 0, .int .i64 0]), 7, 64) := by kernel_rfl

set_option maxHeartbeats 4000000 in
set_option maxRecDepth 20000 in
theorem cut_add (b : Nat) (s : Bs) (k : Nat) (l : List Tk) (t : Tk) (m : Nat) (w : World) (h : IsCut b s k l w) (hl : l.length ≤ 100000) :
    Calls Tryz.prog 79 #[.pointer (some ⟨b, 0, none⟩), tkv t, .int .i64 (m : Int)] w fun e w' => e = .returned (.tuple #[]) ∧ IsCut b s m (l ++ [{ t with place := k }]) w' ∧ Below b w w' := by
  obtain ⟨v, hbk, hown⟩ := h
  have c0 : w.cell? ⟨b, 0, none⟩ = some (.string (ba s)) := cell_at hbk 0
  have c1 : w.cell? ⟨b, 1, none⟩ = some (.int .i64 (k : Int)) := cell_at hbk 1
  have c2 : w.cell? ⟨b, 2, none⟩ = some v := cell_at hbk 2
  have f1 := unfrozen_at hbk 1
  have f2 := unfrozen_at hbk 2
  have hlt := lt_of_block hbk
  have HBK := Lib.hid hbk
  have HO := Lib.hid hown
  clear hbk hown
  have hvb : some b ≠ v.ownBlock := fun e => by have := owns_base HO.out b e.symm; omega
  go_enter Tryz.func79, Tryz.ntmps79
  go_wp2_with fail
  obtain ⟨i0, hi, hz0, hz1, hz2⟩ := info_parts Tryz.infoTok
  go_region_law ((refine step_append_lies _ (by rfl) _ _ 105 (by rfl) (b + 1) 112 i0 _ 7 64 Tryz.underlying105 hi hz0 hz1 hz2 (by rfl) (by decide) v l.length (toksCells l) (by rfl) (owns_below HO.out (by (repeat' (first | exact Below.refl _ _ | assumption | refine Below.drew ?_ | refine Below.drewN' ?_ _ | refine Below.setCell ?_ (by first | (simp; done) | omega | (simp; omega)) _ | refine Below.alloc ?_ (by first | (simp; done) | omega | (simp; omega)) _ | refine Below.step ?_ (by assumption) (by first | (simp; done) | omega | (simp; omega)))))) ⟨w.heap.size + 1, 0, none⟩ 1 1 (tkCells { t with place := k }) (by rfl) (by rfl) (World.news_of_block (new_at _ _ _ (by simp))) (by simp [Value.oneCell']) (by decide) (by unfold maxLen; omega) (by omega) (by simp; omega) (w.heap.size + 1 + 1) (by simp) ?_; intro g cap w1 hown1 hgrow hat hlt1; have hb1 := (hgrow.block b (by simp; omega) hvb).trans ((Below.block (by (repeat' (first | exact Below.refl _ _ | assumption | refine Below.drew ?_ | refine Below.drewN' ?_ _ | refine Below.setCell ?_ (by first | (simp; done) | omega | (simp; omega)) _ | refine Below.alloc ?_ (by first | (simp; done) | omega | (simp; omega)) _ | refine Below.step ?_ (by assumption) (by first | (simp; done) | omega | (simp; omega)))) : Below w.heap.size w _) b hlt).trans HBK.out); have d1 := cell_at hb1 1; have d2 := cell_at hb1 2; have e1 := unfrozen_at hb1 1; have e2 := unfrozen_at hb1 2; have HB1 := Lib.hid hb1; have HO1 := Lib.hid hown1; have HG := Lib.hid hgrow; clear hb1 hown1 hgrow hat))
  all_goals
    go_wp2_with fail
    go_end0
    refine ⟨rfl, ⟨.slice (some ⟨g, 0, none⟩) (l.length + 1) cap, by rw [block_set (block_set HB1.out _)]; rfl, ?_⟩, ?_⟩
    · have h9 := ownsRow_setCell_below (ownsRow_setCell_below HO1.out (a := ⟨b, 2, none⟩) (by simp) (.slice (some ⟨g, 0, none⟩) (l.length + 1) cap)) (a := ⟨b, 1, none⟩) (by simp) (.int .i64 (m : Int))
      rw [toksCells_snoc, List.length_append]
      exact h9
    · exact ((Below.grown (by (repeat' (first | exact Below.refl _ _ | assumption | refine Below.drew ?_ | refine Below.drewN' ?_ _ | refine Below.setCell ?_ (by first | (simp; done) | omega | (simp; omega)) _ | refine Below.alloc ?_ (by first | (simp; done) | omega | (simp; omega)) _ | refine Below.step ?_ (by assumption) (by first | (simp; done) | omega | (simp; omega)))) : Below b w _) HG.out (by simp; omega) (fun j hj => by have := owns_base HO.out j hj; omega)).setCell (p := ⟨b, 2, none⟩) (Nat.le_refl b) _).setCell (p := ⟨b, 1, none⟩) (Nat.le_refl b) _

end Go.Proofs.YtdmhjnnogcpccaaGreatDoor
end

section
namespace Go.Proofs.YtdmhjnnogcpccaaGreatDoor
open Go.RowKit
open Mu (Cl Bs Nd Ru Gr Tk)
set_option linter.unusedSimpArgs false
set_option linter.unusedVariables false

theorem Rf.setNew {b : Nat} {w w1 : World} (h : Rf b w w1) {a : Addr} (ha : w.heap.size ≤ a.block) (hb : b ≤ w.heap.size) (v : Value) : Rf b w (w1.setCell a v) :=
  ⟨h.below.setCell (p := a) (by omega) v, fun k hk hne => (Below.heap_setCell w1 a v k (by omega)).trans (h.others k hk hne)⟩
theorem Rf.alloc {b : Nat} {w w1 : World} (h : Rf b w w1) (hb : b ≤ w.heap.size) (o : Obj) : Rf b w (w1.alloc o) :=
  ⟨h.below.alloc (Nat.le_trans hb h.size) o, fun k hk hne => (Below.heap_alloc w1 o k (Nat.lt_of_lt_of_le hk h.size)).trans (h.others k hk hne)⟩
theorem Rf.drew {b : Nat} {w w1 : World} (h : Rf b w w1) : Rf b w w1.drew := ⟨h.below.drew, h.others⟩
theorem Rf.drewN {b : Nat} {w w1 : World} (h : Rf b w w1) (n : Nat) : Rf b w (w1.drewN n) := ⟨h.below.drewN' n, h.others⟩
theorem Rf.step {b : Nat} {w w1 w2 : World} (h : Rf b w w1) (hb : b ≤ w.heap.size) (k : Below w1.heap.size w1 w2) : Rf b w w2 :=
  h.trans (Rf.of_below k (Nat.le_trans hb h.size))
theorem Rf.setOwn {b : Nat} {w w1 : World} (h : Rf b w w1) (o : Nat) (v : Value) : Rf b w (w1.setCell ⟨b, o, none⟩ v) := h.trans (Rf.set w1 o v)

/-- one block turned: it holds these cells now -/
structure Row (B : Nat) (cs : Array Value) (t : TypeId) (w w' : World) : Prop where
  block : w'.heap[B]? = some (.cells cs t)
  only : ∀ k, k ≠ B → w'.heap[k]? = w.heap[k]?
  size : w'.heap.size = w.heap.size
  os : w'.os = w.os
  tape : w'.tape = w.tape
  output : w'.output = w.output

theorem Row.below {n B : Nat} {cs : Array Value} {t : TypeId} {w0 w w' : World} (hr : Row B cs t w w') (h : Below n w0 w) (hn : n ≤ B) : Below n w0 w' :=
  ⟨hr.os.trans h.os, hr.tape.trans h.tape, hr.output.trans h.output, by rw [hr.size]; exact h.size, fun k hk => (hr.only k (by omega)).trans (h.block k hk)⟩

theorem Row.rf {b B : Nat} {cs : Array Value} {t : TypeId} {w0 w w' : World} (hr : Row B cs t w w') (h : Rf b w0 w) (hn : w0.heap.size ≤ B) (hb : b ≤ w0.heap.size) : Rf b w0 w' :=
  ⟨hr.below h.below (by omega), fun k hk hne => (hr.only k (by omega)).trans (h.others k hk hne)⟩

theorem Row.keeps {B : Nat} {cs : Array Value} {t : TypeId} {w w' : World} (hr : Row B cs t w w') {F : Nat → Prop} (hF : ∀ k, F k → k ≠ B) : Keeps F w w' := fun k hk => hr.only k (hF k hk)

theorem Row.set {B i : Nat} {cs : Array Value} {t : TypeId} {w w' : World} (hr : Row B cs t w w') (v : Value) : Row B (cs.setIfInBounds i v) t w (w'.setCell ⟨B, i, none⟩ v) :=
  ⟨block_set hr.block v, fun k hk => (Below.heap_setCell w' ⟨B, i, none⟩ v k hk).trans (hr.only k hk), by simp [hr.size], hr.os, hr.tape, hr.output⟩

theorem Row.refl {B : Nat} {cs : Array Value} {t : TypeId} {w : World} (h : w.heap[B]? = some (.cells cs t)) : Row B cs t w w := ⟨h, fun _ _ => rfl, rfl, rfl, rfl, rfl⟩

theorem Row.cell {B : Nat} {cs : Array Value} {t : TypeId} {w w' : World} (hr : Row B cs t w w') (j : Nat) : w'.cell? ⟨B, j, none⟩ = cs[j]? := cell_at hr.block j

theorem ret_row7 {P : Program} {f : Func} {R : Ending → World → Prop} {e : Exit} {a : Act} {w : World} {B : Nat} {a0 a1 a2 a3 a4 a5 a6 v0 v1 v2 v3 v4 v5 v6 : Value} {t : TypeId}
    (hq : w.heap[B]? = some (.cells #[a0, a1, a2, a3, a4, a5, a6] t)) (h : ∀ W, Row B #[v0, v1, v2, v3, v4, v5, v6] t w W → bodyPost P f R e a W) :
    bodyPost P f R e a (((((((w.setCell ⟨B, 0, none⟩ v0).setCell ⟨B, 1, none⟩ v1).setCell ⟨B, 2, none⟩ v2).setCell ⟨B, 3, none⟩ v3).setCell ⟨B, 4, none⟩ v4).setCell ⟨B, 5, none⟩ v5).setCell ⟨B, 6, none⟩ v6) := by
  have g := Row.refl hq
  replace g := g.set (i := 0) v0
  simp only [List.setIfInBounds_toArray, List.set_cons_zero, List.set_cons_succ] at g
  replace g := g.set (i := 1) v1
  simp only [List.setIfInBounds_toArray, List.set_cons_zero, List.set_cons_succ] at g
  replace g := g.set (i := 2) v2
  simp only [List.setIfInBounds_toArray, List.set_cons_zero, List.set_cons_succ] at g
  replace g := g.set (i := 3) v3
  simp only [List.setIfInBounds_toArray, List.set_cons_zero, List.set_cons_succ] at g
  replace g := g.set (i := 4) v4
  simp only [List.setIfInBounds_toArray, List.set_cons_zero, List.set_cons_succ] at g
  replace g := g.set (i := 5) v5
  simp only [List.setIfInBounds_toArray, List.set_cons_zero, List.set_cons_succ] at g
  replace g := g.set (i := 6) v6
  simp only [List.setIfInBounds_toArray, List.set_cons_zero, List.set_cons_succ] at g
  exact h _ g

theorem ret_row8 {P : Program} {f : Func} {R : Ending → World → Prop} {e : Exit} {a : Act} {w : World} {B : Nat} {a0 a1 a2 a3 a4 a5 a6 a7 v0 v1 v2 v3 v4 v5 v6 v7 : Value} {t : TypeId}
    (hq : w.heap[B]? = some (.cells #[a0, a1, a2, a3, a4, a5, a6, a7] t)) (h : ∀ W, Row B #[v0, v1, v2, v3, v4, v5, v6, v7] t w W → bodyPost P f R e a W) :
    bodyPost P f R e a ((((((((w.setCell ⟨B, 0, none⟩ v0).setCell ⟨B, 1, none⟩ v1).setCell ⟨B, 2, none⟩ v2).setCell ⟨B, 3, none⟩ v3).setCell ⟨B, 4, none⟩ v4).setCell ⟨B, 5, none⟩ v5).setCell ⟨B, 6, none⟩ v6).setCell ⟨B, 7, none⟩ v7) := by
  have g := Row.refl hq
  replace g := g.set (i := 0) v0
  simp only [List.setIfInBounds_toArray, List.set_cons_zero, List.set_cons_succ] at g
  replace g := g.set (i := 1) v1
  simp only [List.setIfInBounds_toArray, List.set_cons_zero, List.set_cons_succ] at g
  replace g := g.set (i := 2) v2
  simp only [List.setIfInBounds_toArray, List.set_cons_zero, List.set_cons_succ] at g
  replace g := g.set (i := 3) v3
  simp only [List.setIfInBounds_toArray, List.set_cons_zero, List.set_cons_succ] at g
  replace g := g.set (i := 4) v4
  simp only [List.setIfInBounds_toArray, List.set_cons_zero, List.set_cons_succ] at g
  replace g := g.set (i := 5) v5
  simp only [List.setIfInBounds_toArray, List.set_cons_zero, List.set_cons_succ] at g
  replace g := g.set (i := 6) v6
  simp only [List.setIfInBounds_toArray, List.set_cons_zero, List.set_cons_succ] at g
  replace g := g.set (i := 7) v7
  simp only [List.setIfInBounds_toArray, List.set_cons_zero, List.set_cons_succ] at g
  exact h _ g

theorem Row.cells7 {B : Nat} {v0 v1 v2 v3 v4 v5 v6 : Value} {t : TypeId} {w w' : World} (hr : Row B #[v0, v1, v2, v3, v4, v5, v6] t w w') :
    w'.cell? ⟨B, 0, none⟩ = some v0 ∧ w'.cell? ⟨B, 1, none⟩ = some v1 ∧ w'.cell? ⟨B, 2, none⟩ = some v2 ∧ w'.cell? ⟨B, 3, none⟩ = some v3 ∧ w'.cell? ⟨B, 4, none⟩ = some v4 ∧ w'.cell? ⟨B, 5, none⟩ = some v5 ∧ w'.cell? ⟨B, 6, none⟩ = some v6 :=
  ⟨hr.cell 0, hr.cell 1, hr.cell 2, hr.cell 3, hr.cell 4, hr.cell 5, hr.cell 6⟩

theorem Row.cells8 {B : Nat} {v0 v1 v2 v3 v4 v5 v6 v7 : Value} {t : TypeId} {w w' : World} (hr : Row B #[v0, v1, v2, v3, v4, v5, v6, v7] t w w') :
    w'.cell? ⟨B, 0, none⟩ = some v0 ∧ w'.cell? ⟨B, 1, none⟩ = some v1 ∧ w'.cell? ⟨B, 2, none⟩ = some v2 ∧ w'.cell? ⟨B, 3, none⟩ = some v3 ∧ w'.cell? ⟨B, 4, none⟩ = some v4 ∧ w'.cell? ⟨B, 5, none⟩ = some v5 ∧ w'.cell? ⟨B, 6, none⟩ = some v6 ∧ w'.cell? ⟨B, 7, none⟩ = some v7 :=
  ⟨hr.cell 0, hr.cell 1, hr.cell 2, hr.cell 3, hr.cell 4, hr.cell 5, hr.cell 6, hr.cell 7⟩

theorem rf_fresh {b B : Nat} {w w1 w2 : World} {o : Obj} (h : Rf b w1 w2) (hq : w1.heap[B]? = some o) (hb : B ≠ b) : w2.heap[B]? = some o := h.keep hq hb

end Go.Proofs.YtdmhjnnogcpccaaGreatDoor
end
