/- syntax.reader: part. -/
import Derived.Test.YtdmhjnnogcpccaaGreatDoorJSyc
import Derived.Deep.DeepCutAuto
import Derived.Deep.CutBlock
import Derived.Laws.OwnMore
import Derived.Deep.RegionLaw
import Derived.Deep.AppendLies
namespace Go.Proofs.YtdmhjnnogcpccaaGreatDoor
open Go.RowKit
open Mu (Cl Bs Nd Ru Gr Tk)
set_option linter.unusedSimpArgs false
set_option linter.unusedVariables false

attribute [local irreducible] wpQuiet wpStill
attribute [local go_sem ↓] Go.wp_at_zero Go.wp_at_succ

/-- what a part leaves: all below B but the reader's block, and the row's variable -/
structure Pf (B b c : Nat) (w w' : World) : Prop where
  os : w'.os = w.os
  tape : w'.tape = w.tape
  output : w'.output = w.output
  size : w.heap.size ≤ w'.heap.size
  block : ∀ k, k < B → k ≠ b → k ≠ c → w'.heap[k]? = w.heap[k]?

theorem Pf.of_rf {B b c : Nat} {w w' : World} (h : Rf b w w') (hB : B ≤ w.heap.size) : Pf B b c w w' := ⟨h.below.os, h.below.tape, h.below.output, h.size, fun k hk hb _ => h.others k (by omega) hb⟩

def PartEnd (B b g c : Nat) (L : List Tk) (i d : Nat) (v : Value) (ns : List Nd) (w : World) (RES : Except Mu.Flt (Option Nd × List Tk)) (e : Ending) (w' : World) : Prop := Pf B b c w w' ∧
  ((∃ f, RES = .error f ∧ Thrown w.heap.size f e w') ∨
   (RES = .ok (none, L.drop i) ∧ e = .returned (.bool false) ∧ IsRdr b g L i d w' ∧ w'.heap[c]? = some (.cells #[v] 28) ∧ NdRow B v ns w') ∨
   (∃ n v' i', RES = .ok (some n, L.drop i') ∧ i < i' ∧ i' < L.length ∧ e = .returned (.bool true) ∧ IsRdr b g L i' d w' ∧ w'.heap[c]? = some (.cells #[v'] 28) ∧ NdRow B v' (ns ++ [n]) w'))

theorem kindOf_cases (s : Bs) : Mu.kindOf s = 11 ∧ s = [38] ∨ Mu.kindOf s = 12 ∧ s = [33] ∨ Mu.kindOf s = 0 ∧ s ≠ [38] ∧ s ≠ [33] := by
  unfold Mu.kindOf
  by_cases h1 : s = [38]
  · simp [h1]
  · by_cases h2 : s = [33]
    · simp [h2]
    · simp [h1, h2]

/-- the tree of a part so far lies in block nb -/
def PartAt (b g nb base : Nat) (L : List Tk) (d : Nat) (w0 : World) (i : Nat) (m : Nd) (wx : World) : Prop := Rf b w0 wx ∧ IsRdr b g L i d wx ∧
  ∃ s7, wx.heap[nb]? = some (.cells (ndv m.kind m.text m.cls s7 m.place).cells 30) ∧ RN wx (fun k => base ≤ k ∧ k < wx.heap.size ∧ k ≠ nb) (ndv m.kind m.text m.cls s7 m.place) m

theorem row8_at {Q : World → Prop} {w : World} {B : Nat} {a0 a1 a2 a3 a4 a5 a6 a7 v0 v1 v2 v3 v4 v5 v6 v7 : Value} {t : TypeId}
    (hq : w.heap[B]? = some (.cells #[a0, a1, a2, a3, a4, a5, a6, a7] t)) (h : ∀ W, Row B #[v0, v1, v2, v3, v4, v5, v6, v7] t w W → Q W) :
    Q ((((((((w.setCell ⟨B, 0, none⟩ v0).setCell ⟨B, 1, none⟩ v1).setCell ⟨B, 2, none⟩ v2).setCell ⟨B, 3, none⟩ v3).setCell ⟨B, 4, none⟩ v4).setCell ⟨B, 5, none⟩ v5).setCell ⟨B, 6, none⟩ v6).setCell ⟨B, 7, none⟩ v7) := by
  have g := Row.refl hq
  replace g := g.set (i := 0) v0
  simp only [List.setIfInBounds_toArray, List.set_cons_zero, List.set_cons_succ] at g
  replace g := g.set (i := 1) v1
  simp only [List.setIfInBounds_toArray, List.set_cons_zero, List.set_cons_succ] at g
  replace g := g.set (i := 2) v2
  simp only [List.setIfInBounds_toArray, List.set_cons_zero, List.set_cons_succ] at g
  replace g := g.set (i := 3) v3
  simp only [List.setIfInBounds_toArray, List.set_cons_zero, List.set_cons_succ] at g
  replace g := g.set (i := 4) v4
  simp only [List.setIfInBounds_toArray, List.set_cons_zero, List.set_cons_succ] at g
  replace g := g.set (i := 5) v5
  simp only [List.setIfInBounds_toArray, List.set_cons_zero, List.set_cons_succ] at g
  replace g := g.set (i := 6) v6
  simp only [List.setIfInBounds_toArray, List.set_cons_zero, List.set_cons_succ] at g
  replace g := g.set (i := 7) v7
  simp only [List.setIfInBounds_toArray, List.set_cons_zero, List.set_cons_succ] at g
  exact h _ g

theorem Row.alloc {B : Nat} {cs : Array Value} {t : TypeId} {w W : World} (h : Row B cs t w W) (o : Obj) : Row B cs t (w.alloc o) (W.alloc o) := by
  have hp : ∀ (v : World) (k : Nat), (v.alloc o).heap[k]? = if k = v.heap.size then some o else v.heap[k]? := fun v k => by
    show (v.heap.push o)[k]? = _
    rw [Array.getElem?_push]
  have hl := lt_of_block h.block
  refine ⟨?_, fun k hk => ?_, by simp [h.size], h.os, h.tape, h.output⟩
  · rw [hp, if_neg (by omega)]
    exact h.block
  · rw [hp, hp, h.size, h.only k hk]

theorem row8_at' {Q : World → Prop} {w : World} {B : Nat} {a0 a1 a2 a3 a4 a5 a6 a7 v0 v1 v2 v3 v4 v5 v6 v7 : Value} {t : TypeId} {o : Obj}
    (hq : w.heap[B]? = some (.cells #[a0, a1, a2, a3, a4, a5, a6, a7] t)) (h : ∀ W, Row B #[v0, v1, v2, v3, v4, v5, v6, v7] t (w.alloc o) W → Q W) :
    Q (((((((((w.setCell ⟨B, 0, none⟩ v0).setCell ⟨B, 1, none⟩ v1).setCell ⟨B, 2, none⟩ v2).setCell ⟨B, 3, none⟩ v3).setCell ⟨B, 4, none⟩ v4).setCell ⟨B, 5, none⟩ v5).setCell ⟨B, 6, none⟩ v6).setCell ⟨B, 7, none⟩ v7).alloc o) :=
  row8_at (Q := fun W => Q (W.alloc o)) hq fun W hW => h _ (hW.alloc o)

/-- a tree in a block of its own as another one's only part -/
theorem RN.wrap {w : World} {F : Nat → Prop} {v : Value} {n : Nd} (h : RN w F v n) {sb : Nat} {cs : Array Value} {t : TypeId} (hb : w.heap[sb]? = some (.cells cs t)) (hcs : cs = v.cells) (k p : Int) (hF : F sb) :
    RN w F (ndz k (.slice (some ⟨sb, 0, none⟩) 1 1) p) (.mk k [] Cl.zero [n] p) := by
  have := RN.mk (w := w) (F := F) k [] Cl.zero p (some ⟨sb, 0, none⟩) sb 0 1 1 [n] (fun _ => v) rfl (.inr rfl) (fun _ => hF) (by unfold maxSubs; omega) (by simp)
    (fun i hi j hj => by
      obtain rfl : i = 0 := by omega
      rw [cell_at hb, hcs]
      simp)
    (fun i hi => by
      obtain rfl : i = 0 := by simp at hi; omega
      exact h)
  exact this

/-- what becomes of a part's tree when it is wrapped in its block -/
theorem PartAt.wrap {b g nb base : Nat} {L : List Tk} {d : Nat} {w0 : World} {i : Nat} {m : Nd} {w4 : World} {nv : Value} {F : Nat → Prop}
    (hB : Rf b w0 w4) (hb0 : b < w0.heap.size) (hI : IsRdr b g L i d w4) (hF : ∀ k, F k → base ≤ k ∧ k < w4.heap.size ∧ k ≠ nb) (hRN : RN w4 F nv m) (hnb : nb < w4.heap.size) (hbn : b ≠ nb) (hgn : g ≠ nb) (hw0 : w0.heap.size ≤ nb) (hbase : base ≤ w4.heap.size)
    (k p : Int) {cs : Array Value} (hcs : cs = nv.cells) {W : World} (hW : Row nb #[.int .i64 k, .string ⟨#[]⟩, .int .u64 0, .int .u64 0, .int .u64 0, .int .u64 0, .slice (some ⟨w4.heap.size, 0, none⟩) 1 1, .int .i64 p] 30 (w4.alloc (.cells cs 30)) W) :
    PartAt b g nb base L d w0 i (.mk k [] Cl.zero [m] p) W := by
  have hs : W.heap.size = w4.heap.size + 1 := by rw [hW.size]; simp
  refine ⟨hW.rf (hB.alloc (by omega) _) hw0 (by omega), ((hI.keep ((Below.refl _ _).alloc (Nat.le_refl _) _))).row hW hbn hgn, .slice (some ⟨w4.heap.size, 0, none⟩) 1 1, hW.block, ?_⟩
  have h1 : RN (w4.alloc (.cells cs 30)) F nv m := hRN.keep fun k hk => Below.heap_alloc _ _ _ (hF k hk).2.1
  have h2 : RN W F nv m := h1.keep fun k hk => hW.only k (hF k hk).2.2
  have h3 : RN W (fun k => base ≤ k ∧ k < W.heap.size ∧ k ≠ nb) nv m := h2.mono fun k hk => ⟨(hF k hk).1, by have := (hF k hk).2.1; omega, (hF k hk).2.2⟩
  have h4 : W.heap[w4.heap.size]? = some (.cells cs 30) := (hW.only _ (by omega)).trans (last_block _ _)
  exact h3.wrap h4 hcs k p ⟨hbase, by omega, by omega⟩

theorem after_plus {n : Nd} {L : List Tk} {i : Nat} (h : Mu.signOf (L.drop i) = [43]) : Mu.after n (L.drop i) = (.mk 10 [] Cl.zero [n] n.place, L.drop (i + 1)) := by simp [Mu.after, h, List.tail_drop]
theorem after_star {n : Nd} {L : List Tk} {i : Nat} (h : Mu.signOf (L.drop i) = [42]) : Mu.after n (L.drop i) = (.mk 9 [] Cl.zero [n] n.place, L.drop (i + 1)) := by simp [Mu.after, h, List.tail_drop]
theorem after_opt {n : Nd} {L : List Tk} {i : Nat} (h : Mu.signOf (L.drop i) = [63]) : Mu.after n (L.drop i) = (.mk 8 [] Cl.zero [n] n.place, L.drop (i + 1)) := by simp [Mu.after, h, List.tail_drop]
theorem after_none {n : Nd} {L : List Tk} {i : Nat} (h1 : Mu.signOf (L.drop i) ≠ [43]) (h2 : Mu.signOf (L.drop i) ≠ [42]) (h3 : Mu.signOf (L.drop i) ≠ [63]) : Mu.after n (L.drop i) = (n, L.drop i) := by simp [Mu.after, h1, h2, h3]
theorem sign_kind {L : List Tk} {i : Nat} {t : Tk} (ht : L[i]? = some t) (h : Mu.signOf (L.drop i) ≠ []) : t.kind ≠ 6 := by
  intro h6
  simp [Mu.signOf, tk0_drop ht, h6] at h

theorem part_mirror (One : List Tk → Except Mu.Flt (Option Nd × List Tk)) (L : List Tk) (i : Nat) (t : Tk) (ht : L[i]? = some t) (k : Int) (hk : Mu.kindOf (Mu.signOf (L.drop i)) = k) :
    Mu.partWith One (L.drop i) = match One (L.drop (if k = 0 then i else i + 1)) with
      | .error e => .error e
      | .ok (none, q) => if k = 0 then .ok (none, q) else .error (Mu.wrong q)
      | .ok (some n, q) => .ok (some (if k = 0 then (Mu.after n q).1 else .mk k [] Cl.zero [(Mu.after n q).1] t.place), (Mu.after n q).2) := by
  unfold Mu.partWith
  simp only [hk, tk0_drop ht, List.tail_drop]
  by_cases h0 : k = 0
  · simp only [h0, if_true]
    rcases One (L.drop i) with e | ⟨_ | n, q⟩ <;> simp
  · simp only [if_neg h0]
    rcases One (L.drop (i + 1)) with e | ⟨_ | n, q⟩ <;> simp

theorem set_tail (xs ys : List Value) (k j i : Nat) (v : Value) (hk : xs.length = k) (hi : i = k + j) : (xs ++ ys).set i v = xs ++ ys.set j v := by
  subst hk
  subst hi
  rw [List.set_append_right _ _ (by omega)]
  simp

theorem owns_fill8 {w : World} {B g m cap k : Nat} {e : TypeId} {xs : List Value} {z0 z1 z2 z3 z4 z5 z6 z7 v0 v1 v2 v3 v4 v5 v6 v7 : Value} (h : w.ownsRow B e 8 (.slice (some ⟨g, 0, none⟩) m cap) m (xs ++ [z0, z1, z2, z3, z4, z5, z6, z7])) (hk : xs.length = k) :
    ((((((((w.setCell ⟨g, k, none⟩ v0).setCell ⟨g, k + 1, none⟩ v1).setCell ⟨g, k + 2, none⟩ v2).setCell ⟨g, k + 3, none⟩ v3).setCell ⟨g, k + 4, none⟩ v4).setCell ⟨g, k + 5, none⟩ v5).setCell ⟨g, k + 6, none⟩ v6).setCell ⟨g, k + 7, none⟩ v7).ownsRow B e 8 (.slice (some ⟨g, 0, none⟩) m cap) m (xs ++ [v0, v1, v2, v3, v4, v5, v6, v7]) := by
  replace h := (h.stored (k + 0) v0).1
  rw [set_tail _ _ k 0 _ _ hk rfl] at h
  simp only [List.set_cons_zero, List.set_cons_succ] at h
  replace h := (h.stored (k + 1) v1).1
  rw [set_tail _ _ k 1 _ _ hk rfl] at h
  simp only [List.set_cons_zero, List.set_cons_succ] at h
  replace h := (h.stored (k + 2) v2).1
  rw [set_tail _ _ k 2 _ _ hk rfl] at h
  simp only [List.set_cons_zero, List.set_cons_succ] at h
  replace h := (h.stored (k + 3) v3).1
  rw [set_tail _ _ k 3 _ _ hk rfl] at h
  simp only [List.set_cons_zero, List.set_cons_succ] at h
  replace h := (h.stored (k + 4) v4).1
  rw [set_tail _ _ k 4 _ _ hk rfl] at h
  simp only [List.set_cons_zero, List.set_cons_succ] at h
  replace h := (h.stored (k + 5) v5).1
  rw [set_tail _ _ k 5 _ _ hk rfl] at h
  simp only [List.set_cons_zero, List.set_cons_succ] at h
  replace h := (h.stored (k + 6) v6).1
  rw [set_tail _ _ k 6 _ _ hk rfl] at h
  simp only [List.set_cons_zero, List.set_cons_succ] at h
  replace h := (h.stored (k + 7) v7).1
  rw [set_tail _ _ k 7 _ _ hk rfl] at h
  simp only [List.set_cons_zero, List.set_cons_succ] at h
  exact h

theorem owns_tail8 {w : World} {B g m cap k : Nat} {e : TypeId} {xs : List Value} {z0 z1 z2 z3 z4 z5 z6 z7 : Value} (h : w.ownsRow B e 8 (.slice (some ⟨g, 0, none⟩) m cap) m (xs ++ [z0, z1, z2, z3, z4, z5, z6, z7])) (hk : xs.length = k) :
    w.cell? ⟨g, k, none⟩ = some z0 ∧ w.cell? ⟨g, k + 1, none⟩ = some z1 ∧ w.cell? ⟨g, k + 2, none⟩ = some z2 ∧ w.cell? ⟨g, k + 3, none⟩ = some z3 ∧ w.cell? ⟨g, k + 4, none⟩ = some z4 ∧ w.cell? ⟨g, k + 5, none⟩ = some z5 ∧ w.cell? ⟨g, k + 6, none⟩ = some z6 ∧ w.cell? ⟨g, k + 7, none⟩ = some z7 ∧ (∀ j, w.frozen? ⟨g, j, none⟩ = false) ∧ B ≤ g := by
  have hl := h.1
  simp at hl
  have hc : ∀ j, j < 8 → w.cell? ⟨g, k + j, none⟩ = [z0, z1, z2, z3, z4, z5, z6, z7][j]? := fun j hj => by
    rw [h.cellAt (k + j) (by omega), List.getElem?_append_right (by omega), hk]
    congr 1
    omega
  refine ⟨hc 0 (by omega), hc 1 (by omega), hc 2 (by omega), hc 3 (by omega), hc 4 (by omega), hc 5 (by omega), hc 6 (by omega), hc 7 (by omega), fun j => h.frozenAt j, ?_⟩
  exact (h.lt g rfl).1

theorem grown_undrew {w w1 : World} {r : Option Nat} (h : w.drew.grownBy w1 r) : w.grownBy w1 r := ⟨h.os, h.tape, h.output, h.size, h.block⟩

/-- two blocks turned -/
structure Two (g c : Nat) (w W : World) : Prop where
  os : W.os = w.os
  tape : W.tape = w.tape
  output : W.output = w.output
  size : W.heap.size = w.heap.size
  block : ∀ k, k ≠ g → k ≠ c → W.heap[k]? = w.heap[k]?

theorem Two.refl (g c : Nat) (w : World) : Two g c w w := ⟨rfl, rfl, rfl, rfl, fun _ _ _ => rfl⟩
theorem Two.setL {g c : Nat} {w W : World} (h : Two g c w W) (i : Nat) (v : Value) : Two g c w (W.setCell ⟨g, i, none⟩ v) := ⟨h.os, h.tape, h.output, by simp [h.size], fun k h1 h2 => (Below.heap_setCell W ⟨g, i, none⟩ v k h1).trans (h.block k h1 h2)⟩
theorem Two.setR {g c : Nat} {w W : World} (h : Two g c w W) (i : Nat) (v : Value) : Two g c w (W.setCell ⟨c, i, none⟩ v) := ⟨h.os, h.tape, h.output, by simp [h.size], fun k h1 h2 => (Below.heap_setCell W ⟨c, i, none⟩ v k h2).trans (h.block k h1 h2)⟩

theorem part_close {B b g c : Nat} {L : List Tk} {i d : Nat} {v : Value} {ns : List Nd} {w wc w1 W : World} {o : Obj} {vs : List Value} {m : Nd} {mv : Value} {g' cap nb : Nat}
    (hBw : Rf b w wc) (hcB : c < B) (hbB : b < B) (hgB : g < B) (hcb : c ≠ b) (hgc : g ≠ c) (hB : B ≤ w.heap.size) (hl : ∀ j, v.ownBlock = some j → B ≤ j ∧ j < w.heap.size)
    (hI : IsRdr b g L i d wc) (hvl : vs.length = ns.length) (hvr : ∀ i (h : i < ns.length), RN wc (fun k => B ≤ k ∧ k < wc.heap.size ∧ some k ≠ v.ownBlock) (vs.getD i .nilIface) ns[i])
    (hm : RN wc (fun k => w.heap.size ≤ k ∧ k < wc.heap.size ∧ k ≠ nb) mv m)
    (hg : (wc.alloc o).grownBy w1 v.ownBlock) (hat : v.ownBlock = some g' ∨ g' = wc.heap.size + 1) (hT : Two g' c w1 W)
    (hc : W.heap[c]? = some (.cells #[.slice (some ⟨g', 0, none⟩) (ns.length + 1) cap] 28))
    (hown : W.ownsRow B 30 8 (.slice (some ⟨g', 0, none⟩) (ns.length + 1) cap) (ns.length + 1) (cellsOf vs ++ mv.cells.toList)) :
    Pf B b c w W ∧ IsRdr b g L i d W ∧ W.heap[c]? = some (.cells #[.slice (some ⟨g', 0, none⟩) (ns.length + 1) cap] 28) ∧ NdRow B (.slice (some ⟨g', 0, none⟩) (ns.length + 1) cap) (ns ++ [m]) W := by
  have hgB' : B ≤ g' := by
    rcases hat with h | h
    · exact (hl _ h).1
    · have := hBw.size; omega
  have hs := hg.size
  have hs1 := hT.size
  have hs2 := hBw.size
  simp at hs
  -- a block of wc that is neither the reader's row, nor c, is as it was
  have hk : ∀ k, k < wc.heap.size → some k ≠ v.ownBlock → k ≠ c → W.heap[k]? = wc.heap[k]? := fun k h1 h2 h3 => by
    have hne : k ≠ g' := by
      rintro rfl
      rcases hat with h | h
      · exact h2 h.symm
      · omega
    exact ((hT.block k hne h3).trans (hg.block k (by simp; omega) h2)).trans (Below.heap_alloc _ _ _ h1)
  have hno : ∀ k, k < B → some k ≠ v.ownBlock := fun k h1 h2 => by have := (hl k h2.symm).1; omega
  refine ⟨⟨hT.os.trans (hg.os.trans hBw.below.os), hT.tape.trans (hg.tape.trans hBw.below.tape), hT.output.trans (hg.output.trans hBw.below.output), by omega, fun k h1 h2 h3 => (hk k (by omega) (hno k h1) h3).trans (hBw.others k (by omega) h2)⟩, ?_, hc, ?_⟩
  · obtain ⟨cap', h1, h2, h3, h4⟩ := hI
    exact ⟨cap', (hk b (lt_of_block h1) (hno b hbB) (by omega)).trans h1, h2.keep (hk g h2.lt (hno g hgB) hgc), h3, h4⟩
  · refine ⟨vs ++ [mv], by simp [hvl], ?_, ?_⟩
    · have e : cellsOf (vs ++ [mv]) = cellsOf vs ++ mv.cells.toList := by simp [cellsOf]
      rw [e, List.length_append]
      exact hown
    · intro j hj
      have hfin : ∀ k, B ≤ k → k < wc.heap.size → some k ≠ v.ownBlock → B ≤ k ∧ k < W.heap.size ∧ some k ≠ (Value.slice (some ⟨g', 0, none⟩) (ns.length + 1) cap).ownBlock := fun k h1 h2 h3 => by
        refine ⟨h1, by omega, ?_⟩
        simp only [Value.ownBlock, ne_eq, Option.some.injEq]
        rintro rfl
        rcases hat with h | h
        · exact h3 h.symm
        · omega
      by_cases hjl : j < ns.length
      · have e1 : (vs ++ [mv]).getD j .nilIface = vs.getD j .nilIface := by simp [List.getD_eq_getElem?_getD, List.getElem?_append_left (show j < vs.length by omega)]
        have e2 : (ns ++ [m])[j] = ns[j] := List.getElem_append_left hjl
        rw [e1, e2]
        exact ((hvr j hjl).keep fun k hF => hk k hF.2.1 hF.2.2 (by omega)).mono fun k hF => hfin k hF.1 hF.2.1 hF.2.2
      · have hje : j = ns.length := by simp at hj; omega
        subst hje
        have e1 : (vs ++ [mv]).getD ns.length .nilIface = mv := by simp [List.getD_eq_getElem?_getD, ← hvl]
        have e2 : (ns ++ [m])[ns.length] = m := by simp
        rw [e1, e2]
        have hno2 : ∀ k, w.heap.size ≤ k → some k ≠ v.ownBlock := fun k h1 h2 => by have := (hl k h2.symm).2; omega
        exact (hm.keep fun k hF => hk k hF.2.1 (hno2 k hF.1) (by omega)).mono fun k hF => hfin k (by omega) hF.2.1 (hno2 k hF.1)

theorem part_closeA {B b g c : Nat} {L : List Tk} {i i' d : Nat} {v : Value} {ns : List Nd} {w wc w1 : World} {o : Obj} {vs : List Value} {m : Nd} {mv old : Value} {g' cap nb : Nat} {RES : Except Mu.Flt (Option Nd × List Tk)}
    {z0 z1 z2 z3 z4 z5 z6 z7 v0 v1 v2 v3 v4 v5 v6 v7 : Value}
    (hBw : Rf b w wc) (hcB : c < B) (hbB : b < B) (hgB : g < B) (hcb : c ≠ b) (hgc : g ≠ c) (hB : B ≤ w.heap.size) (hl : ∀ j, v.ownBlock = some j → B ≤ j ∧ j < w.heap.size)
    (hI : IsRdr b g L i' d wc) (hvl : vs.length = ns.length) (hvr : ∀ i (h : i < ns.length), RN wc (fun k => B ≤ k ∧ k < wc.heap.size ∧ some k ≠ v.ownBlock) (vs.getD i .nilIface) ns[i])
    (hm : RN wc (fun k => w.heap.size ≤ k ∧ k < wc.heap.size ∧ k ≠ nb) mv m)
    (hg : (wc.alloc o).grownBy w1 v.ownBlock) (hat : v.ownBlock = some g' ∨ g' = wc.heap.size + 1)
    (hcl : (cellsOf vs).length = ns.length * 8) (hownr : w1.ownsRow B 30 8 (.slice (some ⟨g', 0, none⟩) (ns.length + 1) cap) (ns.length + 1) (cellsOf vs ++ [z0, z1, z2, z3, z4, z5, z6, z7]))
    (hmv : mv.cells.toList = [v0, v1, v2, v3, v4, v5, v6, v7]) (hcw : w1.heap[c]? = some (.cells #[old] 28)) (hcg : c ≠ g') (hres : RES = .ok (some m, L.drop i')) (hi1 : i < i') (hi2 : i' < L.length) :
    PartEnd B b g c L i d v ns w RES (.returned (.bool true)) (((((((((w1.setCell ⟨g', ns.length * 8, none⟩ v0).setCell ⟨g', ns.length * 8 + 1, none⟩ v1).setCell ⟨g', ns.length * 8 + 2, none⟩ v2).setCell ⟨g', ns.length * 8 + 3, none⟩ v3).setCell ⟨g', ns.length * 8 + 4, none⟩ v4).setCell ⟨g', ns.length * 8 + 5, none⟩ v5).setCell ⟨g', ns.length * 8 + 6, none⟩ v6).setCell ⟨g', ns.length * 8 + 7, none⟩ v7).setCell ⟨c, 0, none⟩ (.slice (some ⟨g', 0, none⟩) (ns.length + 1) cap)) := by
  have hown := ownsRow_setCell_below (owns_fill8 (v0 := v0) (v1 := v1) (v2 := v2) (v3 := v3) (v4 := v4) (v5 := v5) (v6 := v6) (v7 := v7) hownr hcl) (a := ⟨c, 0, none⟩) hcB (.slice (some ⟨g', 0, none⟩) (ns.length + 1) cap)
  rw [← hmv] at hown
  obtain ⟨y1, y2, y3, y4⟩ := part_close hBw hcB hbB hgB hcb hgc hB hl hI hvl hvr hm hg hat ((((((((((Two.refl g' c w1).setL _ _).setL _ _).setL _ _).setL _ _).setL _ _).setL _ _).setL _ _).setL _ _).setR _ _) (by rw [block_set (by rw [Below.heap_setCell _ _ _ _ hcg, Below.heap_setCell _ _ _ _ hcg, Below.heap_setCell _ _ _ _ hcg, Below.heap_setCell _ _ _ _ hcg, Below.heap_setCell _ _ _ _ hcg, Below.heap_setCell _ _ _ _ hcg, Below.heap_setCell _ _ _ _ hcg, Below.heap_setCell _ _ _ _ hcg]; exact hcw)]; rfl) hown
  exact ⟨y1, .inr (.inr ⟨m, _, i', hres, hi1, hi2, rfl, y2, y3, y4⟩)⟩

theorem part_closeB {B b g c : Nat} {L : List Tk} {i i' d : Nat} {v : Value} {ns : List Nd} {w wc w1 : World} {o : Obj} {vs : List Value} {m : Nd} {mv old : Value} {g' cap nb : Nat} {RES : Except Mu.Flt (Option Nd × List Tk)}
    {z0 z1 z2 z3 z4 z5 z6 z7 v0 v1 v2 v3 v4 v5 v6 v7 : Value}
    (hBw : Rf b w wc) (hcB : c < B) (hbB : b < B) (hgB : g < B) (hcb : c ≠ b) (hgc : g ≠ c) (hB : B ≤ w.heap.size) (hl : ∀ j, v.ownBlock = some j → B ≤ j ∧ j < w.heap.size)
    (hI : IsRdr b g L i' d wc) (hvl : vs.length = ns.length) (hvr : ∀ i (h : i < ns.length), RN wc (fun k => B ≤ k ∧ k < wc.heap.size ∧ some k ≠ v.ownBlock) (vs.getD i .nilIface) ns[i])
    (hm : RN wc (fun k => w.heap.size ≤ k ∧ k < wc.heap.size ∧ k ≠ nb) mv m)
    (hg : (wc.alloc o).grownBy w1 v.ownBlock) (hat : v.ownBlock = some g' ∨ g' = wc.heap.size + 1)
    (hcl : (cellsOf vs).length = ns.length * 8) (hownr : w1.ownsRow B 30 8 (.slice (some ⟨g', 0, none⟩) (ns.length + 1) cap) (ns.length + 1) (cellsOf vs ++ [z0, z1, z2, z3, z4, z5, z6, z7]))
    (hmv : mv.cells.toList = [v0, v1, v2, v3, v4, v5, v6, v7]) (hcw : w1.heap[c]? = some (.cells #[old] 28)) (hcg : c ≠ g') (hres : RES = .ok (some m, L.drop i')) (hi1 : i < i') (hi2 : i' < L.length) :
    PartEnd B b g c L i d v ns w RES (.returned (.bool true)) (((((((((w1.setCell ⟨c, 0, none⟩ (.slice (some ⟨g', 0, none⟩) (ns.length + 1) cap)).setCell ⟨g', ns.length * 8, none⟩ v0).setCell ⟨g', ns.length * 8 + 1, none⟩ v1).setCell ⟨g', ns.length * 8 + 2, none⟩ v2).setCell ⟨g', ns.length * 8 + 3, none⟩ v3).setCell ⟨g', ns.length * 8 + 4, none⟩ v4).setCell ⟨g', ns.length * 8 + 5, none⟩ v5).setCell ⟨g', ns.length * 8 + 6, none⟩ v6).setCell ⟨g', ns.length * 8 + 7, none⟩ v7) := by
  have hown := owns_fill8 (v0 := v0) (v1 := v1) (v2 := v2) (v3 := v3) (v4 := v4) (v5 := v5) (v6 := v6) (v7 := v7) (ownsRow_setCell_below hownr (a := ⟨c, 0, none⟩) hcB (.slice (some ⟨g', 0, none⟩) (ns.length + 1) cap)) hcl
  rw [← hmv] at hown
  obtain ⟨y1, y2, y3, y4⟩ := part_close hBw hcB hbB hgB hcb hgc hB hl hI hvl hvr hm hg hat (((((((((((Two.refl g' c w1).setR _ _).setL _ _).setL _ _).setL _ _).setL _ _).setL _ _).setL _ _).setL _ _).setL _ _)) (by rw [Below.heap_setCell _ _ _ _ hcg, Below.heap_setCell _ _ _ _ hcg, Below.heap_setCell _ _ _ _ hcg, Below.heap_setCell _ _ _ _ hcg, Below.heap_setCell _ _ _ _ hcg, Below.heap_setCell _ _ _ _ hcg, Below.heap_setCell _ _ _ _ hcg, Below.heap_setCell _ _ _ _ hcg]; rw [block_set hcw]; rfl) hown
  exact ⟨y1, .inr (.inr ⟨m, _, i', hres, hi1, hi2, rfl, y2, y3, y4⟩)⟩

theorem Tryz.infoNode : (Tryz.prog.info? 30).map (fun i => (i.zero, i.size, i.bytes)) = some (some (.agg #[.int .i64 0, .string ⟨#[]⟩, .int .u64 0, .int .u64 0, .int .u64 0, .int .u64 0, .slice none 0 0, .int .i64 0]), 8, 88) := by kernel_rfl

set_option maxHeartbeats 4000000 in
set_option maxRecDepth 20000 in
theorem part_any (d : Nat) (One : List Tk → Except Mu.Flt (Option Nd × List Tk))
    (hO : ∀ (b g : Nat) (L : List Tk) (i : Nat) (w : World), IsRdr b g L i d w → Ends L → i < L.length → Calls Tryz.prog 153 #[.pointer (some ⟨b, 0, none⟩)] w (OneEnd b g L i d w (One (L.drop i))))
    (B b g c : Nat) (L : List Tk) (i : Nat) (v : Value) (ns : List Nd) (w : World) (h : IsRdr b g L i d w) (hE : Ends L) (hi : i < L.length)
    (hc : w.heap[c]? = some (.cells #[v] 28)) (hcb : c ≠ b) (hcB : c < B) (hbB : b < B) (hgB : g < B) (hgc : g ≠ c) (hB : B ≤ w.heap.size) (hr : NdRow B v ns w) (hl : ns.length ≤ 100000) :
    Calls Tryz.prog 115 #[.pointer (some ⟨b, 0, none⟩), .pointer (some ⟨c, 0, none⟩)] w (PartEnd B b g c L i d v ns w (Mu.partWith One (L.drop i))) := by
  obtain ⟨t, ht⟩ : ∃ t, L[i]? = some t := ⟨L[i], List.getElem?_eq_some_iff.2 ⟨hi, rfl⟩⟩
  obtain ⟨n, cap, HN, c0, c1, hnc, hnl, f0, f1, hlt, hlg, hgb, t0, t1, t2, t3, t4, t5, t6⟩ := h.all ht
  have H := Lib.hid h
  have HT := Lib.hid ht
  have HC := Lib.hid hc
  have HR := Lib.hid hr
  generalize hs : Mu.signOf (L.drop i) = s
  have HS := Lib.hid hs
  clear h ht hc hr hs
  go_enter Tryz.func115, Tryz.ntmps115
  go_upto_block 0 with (go_at_call 83; refine (rdr_sign b g L i d t _ (H.out.keep (by (repeat' (first | exact Below.refl _ _ | assumption | refine Below.drew ?_ | refine Below.drewN' ?_ _ | refine Below.setCell ?_ (by first | (simp; done) | omega | (simp; omega)) _ | refine Below.alloc ?_ (by first | (simp; done) | omega | (simp; omega)) _ | refine Below.step ?_ (by assumption) (by first | (simp; done) | omega | (simp; omega)))))) HT.out).mono ?_; rintro e w1 ⟨rfl, rfl⟩; rw [HS.out])
  go_cut [6] (fun s6 wx => s6 = .int .i64 (Mu.kindOf s) ∧ wx = w.alloc (.cells #[.int .i64 (t.kind : Int), .string (ba t.text), .int .u64 (t.cls.a.toNat : Int), .int .u64 (t.cls.b.toNat : Int), .int .u64 (t.cls.c.toNat : Int), .int .u64 (t.cls.d.toNat : Int), .int .i64 (t.place : Int)] 112))
  case first =>
    have HO := Lib.hid hO
    clear hO
    rcases kindOf_cases s with ⟨hk, rfl⟩ | ⟨hk, rfl⟩ | ⟨hk, hn1, hn2⟩
    · clear hk
      go_wp2_with fail
      go_meet
      exact ⟨rfl, rfl⟩
    · clear hk
      go_wp2_with fail
      go_meet
      exact ⟨rfl, rfl⟩
    · have h1 : (s == [38]) = false := by simpa using hn1
      have h2 : (s == [33]) = false := by simpa using hn2
      have HK := Lib.hid hk
      clear hk hn1 hn2
      go_wp2_with fail
      go_meet
      exact ⟨by rw [HK.out], rfl⟩
  case rest =>
    obtain ⟨rfl, rfl⟩ := hcut
    have hkc : Mu.kindOf s = 0 ∨ Mu.kindOf s ≠ 0 ∧ s ≠ [] := by
      rcases kindOf_cases s with ⟨hk, rfl⟩ | ⟨hk, rfl⟩ | ⟨hk, hn1, hn2⟩
      · exact .inr ⟨by decide, by decide⟩
      · exact .inr ⟨by decide, by decide⟩
      · exact .inl hk
    have hM := part_mirror One L i t HT.out (Mu.kindOf s) (by rw [HS.out])
    have hW1 : Rf b w (w.alloc (.cells #[.int .i64 (t.kind : Int), .string (ba t.text), .int .u64 (t.cls.a.toNat : Int), .int .u64 (t.cls.b.toNat : Int), .int .u64 (t.cls.c.toNat : Int), .int .u64 (t.cls.d.toNat : Int), .int .i64 (t.place : Int)] 112)) := (Rf.refl b w).alloc (by omega) _
    have hp6 : (w.alloc (.cells #[.int .i64 (t.kind : Int), .string (ba t.text), .int .u64 (t.cls.a.toNat : Int), .int .u64 (t.cls.b.toNat : Int), .int .u64 (t.cls.c.toNat : Int), .int .u64 (t.cls.d.toNat : Int), .int .i64 (t.place : Int)] 112)).heap[w.heap.size]? = some (.cells #[.int .i64 (t.kind : Int), .string (ba t.text), .int .u64 (t.cls.a.toNat : Int), .int .u64 (t.cls.b.toNat : Int), .int .u64 (t.cls.c.toNat : Int), .int .u64 (t.cls.d.toNat : Int), .int .i64 (t.place : Int)] 112) := last_block _ _
    have hH1 := H.out.keep (by (repeat' (first | exact Below.refl _ _ | assumption | refine Below.drew ?_ | refine Below.drewN' ?_ _ | refine Below.setCell ?_ (by first | (simp; done) | omega | (simp; omega)) _ | refine Below.alloc ?_ (by first | (simp; done) | omega | (simp; omega)) _ | refine Below.step ?_ (by assumption) (by first | (simp; done) | omega | (simp; omega)))) : Below w.heap.size w (w.alloc (.cells #[.int .i64 (t.kind : Int), .string (ba t.text), .int .u64 (t.cls.a.toNat : Int), .int .u64 (t.cls.b.toNat : Int), .int .u64 (t.cls.c.toNat : Int), .int .u64 (t.cls.d.toNat : Int), .int .i64 (t.place : Int)] 112)))
    have hs1 : w.heap.size < (w.alloc (.cells #[.int .i64 (t.kind : Int), .string (ba t.text), .int .u64 (t.cls.a.toNat : Int), .int .u64 (t.cls.b.toNat : Int), .int .u64 (t.cls.c.toNat : Int), .int .u64 (t.cls.d.toNat : Int), .int .i64 (t.place : Int)] 112)).heap.size := by simp
    generalize w.alloc (.cells #[.int .i64 (t.kind : Int), .string (ba t.text), .int .u64 (t.cls.a.toNat : Int), .int .u64 (t.cls.b.toNat : Int), .int .u64 (t.cls.c.toNat : Int), .int .u64 (t.cls.d.toNat : Int), .int .i64 (t.place : Int)] 112) = w1 at hW1 hp6 hH1 hs1 ⊢
    generalize Mu.kindOf s = k at hkc hM ⊢
    have HM := Lib.hid hM
    have HW1 := Lib.hid hW1
    have HP6 := Lib.hid hp6
    have H1 := Lib.hid hH1
    have HKC := Lib.hid hkc
    have HO := Lib.hid hO
    clear hM hW1 hp6 hH1 c0 c1 f0 f1 t0 t1 t2 t3 t4 t5 t6 hO hkc
    go_upto_if 23 with (fail)
    go_cut [] (fun wx => Rf b w1 wx ∧ IsRdr b g L (if k = 0 then i else i + 1) d wx)
    case first =>
      rcases HKC.out with rfl | ⟨hk0, hs0⟩
      · go_wp2_with fail
        go_meet
        exact ⟨Rf.refl _ _, by simpa using H1.out⟩
      · have hkb : (k != 0) = true := by simpa using hk0
        have hnx := (hE.2 i t HT.out).2.2 (sign_kind HT.out (by rw [HS.out]; exact hs0))
        have HK0 := Lib.hid hk0
        clear hk0 hs0
        go_wp2_with fail
        refine (rdr_next b g L i d t w1 H1.out HT.out hnx hE.1).mono ?_
        rintro e w2 ⟨rfl, hr, hb⟩
        have HR2 := Lib.hid hr
        have HB2 := Lib.hid hb
        clear hr hb
        go_wp2_with fail
        go_meet
        exact ⟨HB2.out, by rw [if_neg HK0.out]; exact HR2.out⟩
    case rest =>
      obtain ⟨hB2, hI2⟩ := hcut
      have hi1 : (if k = 0 then i else i + 1) < L.length := by
        rcases HKC.out with h0 | ⟨h0, hs0⟩
        · rw [if_pos h0]; exact hi
        · rw [if_neg h0]; exact (hE.2 i t HT.out).2.2 (sign_kind HT.out (by rw [HS.out]; exact hs0))
      have hi1' : i ≤ (if k = 0 then i else i + 1) := by split <;> omega
      have hi10 : k = 0 → (if k = 0 then i else i + 1) = i := fun h => if_pos h
      generalize (if k = 0 then i else i + 1) = i1 at hI2 hi1 hi1' hi10 HM
      have hBw := HW1.out.trans hB2
      have hw1s := HW1.out.size
      have hwcs := hB2.size
      have HB2 := Lib.hid hB2
      have HI2 := Lib.hid hI2
      have HBw := Lib.hid hBw
      have HI10 := Lib.hid hi10
      have hlc : c < w.heap.size := lt_of_block HC.out
      have hgne := HI2.out.ne
      clear hB2 hI2 hBw hi10
      go_wp2_with fail
      refine (HO.out b g L i1 wc HI2.out hE hi1).mono ?_
      rintro e w2 ⟨hb2, ⟨f, hf, v', rfl, hv⟩ | ⟨hres, rfl, hr2⟩ | ⟨nd, nv, i2, hres, hi2, hi2l, rfl, hrn, hr2⟩⟩
      · have HV := Lib.hid hv
        have HF := Lib.hid hf
        have HB3 := Lib.hid (HBw.out.trans hb2)
        clear hv hf hb2
        go_wp2_with fail
        exact ⟨rfl, Pf.of_rf HB3.out hB, .inl ⟨f, by rw [HM.out, HF.out], _, rfl, HV.out.mono (by omega)⟩⟩
      · have HRES := Lib.hid hres
        have HR2 := Lib.hid hr2
        have HB3 := Lib.hid (HBw.out.trans hb2)
        have hs2 := hb2.size
        clear hres hr2 hb2
        rcases HKC.out with rfl | ⟨hk0, hs0⟩
        · go_wp2_with fail
          go_ret
          have hf : Rf b w (w2.alloc (.cells #[.int .i64 0, .string ⟨#[]⟩, .int .u64 0, .int .u64 0, .int .u64 0, .int .u64 0, .slice none 0 0, .int .i64 0] 30)) := HB3.out.alloc (by omega) _
          have he := HI10.out (by trivial)
          subst he
          exact ⟨Pf.of_rf hf hB, .inr (.inl ⟨by rw [HM.out, HRES.out]; simp, rfl, HR2.out.keep (by (repeat' (first | exact Below.refl _ _ | assumption | refine Below.drew ?_ | refine Below.drewN' ?_ _ | refine Below.setCell ?_ (by first | (simp; done) | omega | (simp; omega)) _ | refine Below.alloc ?_ (by first | (simp; done) | omega | (simp; omega)) _ | refine Below.step ?_ (by assumption) (by first | (simp; done) | omega | (simp; omega))))), hf.keep HC.out hcb, HR.out.same hf.size fun k h1 h2 => hf.others k h2 (by omega)⟩)⟩
        · have hkb : (k != 0) = true := by simpa using hk0
          have HK0 := Lib.hid hk0
          obtain ⟨tq, htq⟩ : ∃ tq, L[i1]? = some tq := ⟨L[i1], List.getElem?_eq_some_iff.2 ⟨hi1, rfl⟩⟩
          have HTQ := Lib.hid htq
          clear hk0 hs0 htq
          go_wp2_with fail
          refine (rdr_wrong b g L i1 d tq _ (HR2.out.keep (by (repeat' (first | exact Below.refl _ _ | assumption | refine Below.drew ?_ | refine Below.drewN' ?_ _ | refine Below.setCell ?_ (by first | (simp; done) | omega | (simp; omega)) _ | refine Below.alloc ?_ (by first | (simp; done) | omega | (simp; omega)) _ | refine Below.step ?_ (by assumption) (by first | (simp; done) | omega | (simp; omega)))))) HTQ.out).mono ?_
          rintro e w4 ⟨⟨v', rfl, hv⟩, hb4⟩
          have HV := Lib.hid hv
          have hf := (HB3.out.alloc (by omega) _).step (by omega) hb4
          have HF := Lib.hid hf
          clear hv hb4 hf
          go_wp2_with fail
          exact ⟨rfl, Pf.of_rf HF.out hB, .inl ⟨_, by rw [HM.out, HRES.out]; simp [HK0.out], _, rfl, HV.out.mono (by simp; omega)⟩⟩
      · obtain ⟨a, sb, off, nc, C, hv, hns, htl⟩ := hrn.open
        subst hv
        obtain ⟨tq, htq⟩ : ∃ tq, L[i2]? = some tq := ⟨L[i2], List.getElem?_eq_some_iff.2 ⟨hi2l, rfl⟩⟩
        have hcase : ∃ m i3, Mu.after nd (L.drop i2) = (m, L.drop i3) ∧ ((Mu.signOf (L.drop i2) = [43] ∧ m = .mk 10 [] Cl.zero [nd] nd.place ∧ i3 = i2 + 1) ∨ (Mu.signOf (L.drop i2) = [42] ∧ m = .mk 9 [] Cl.zero [nd] nd.place ∧ i3 = i2 + 1) ∨ (Mu.signOf (L.drop i2) = [63] ∧ m = .mk 8 [] Cl.zero [nd] nd.place ∧ i3 = i2 + 1) ∨
            ((Mu.signOf (L.drop i2) ≠ [43] ∧ Mu.signOf (L.drop i2) ≠ [42] ∧ Mu.signOf (L.drop i2) ≠ [63]) ∧ m = nd ∧ i3 = i2)) := by
          by_cases h1 : Mu.signOf (L.drop i2) = [43]
          · exact ⟨_, _, after_plus h1, .inl ⟨h1, rfl, rfl⟩⟩
          · by_cases h2 : Mu.signOf (L.drop i2) = [42]
            · exact ⟨_, _, after_star h2, .inr (.inl ⟨h2, rfl, rfl⟩)⟩
            · by_cases h3 : Mu.signOf (L.drop i2) = [63]
              · exact ⟨_, _, after_opt h3, .inr (.inr (.inl ⟨h3, rfl, rfl⟩))⟩
              · exact ⟨_, _, after_none h1 h2 h3, .inr (.inr (.inr ⟨⟨h1, h2, h3⟩, rfl, rfl⟩))⟩
        have hnx2 : Mu.signOf (L.drop i2) ≠ [] → i2 + 1 < L.length := fun h => (hE.2 i2 tq htq).2.2 (sign_kind htq h)
        obtain ⟨m, i3, haf, hcase⟩ := hcase
        generalize hsg : Mu.signOf (L.drop i2) = s2 at hcase hnx2
        have hB3 := HB2.out.trans hb2
        have hs2 := hb2.size
        have HRN := Lib.hid hrn
        have HRES := Lib.hid hres
        have HR2 := Lib.hid hr2
        have HB3 := Lib.hid hB3
        have HTQ := Lib.hid htq
        have HSG := Lib.hid hsg
        have HAF := Lib.hid haf
        have HCA := Lib.hid hcase
        have HNX := Lib.hid hnx2
        clear hrn hres hr2 hb2 hB3 htq hns hsg haf hcase hnx2
        go_upto_block 1 with (go_at_call 83; refine (rdr_sign b g L i2 d tq _ (HR2.out.keep (by (repeat' (first | exact Below.refl _ _ | assumption | refine Below.drew ?_ | refine Below.drewN' ?_ _ | refine Below.setCell ?_ (by first | (simp; done) | omega | (simp; omega)) _ | refine Below.alloc ?_ (by first | (simp; done) | omega | (simp; omega)) _ | refine Below.step ?_ (by assumption) (by first | (simp; done) | omega | (simp; omega)))))) HTQ.out).mono ?_; rintro e w3 ⟨rfl, rfl⟩; rw [HSG.out])
        go_cut [] (fun wx => PartAt b g w2.heap.size w.heap.size L d w1 i3 m wx)
        case first =>
          rcases HCA.out with ⟨rfl, hmm, hi3⟩ | ⟨rfl, hmm, hi3⟩ | ⟨rfl, hmm, hi3⟩ | ⟨⟨hn1, hn2, hn3⟩, hmm, hi3⟩
          · subst hmm
            subst hi3
            have hnx := HNX.out (by decide)
            go_wp2_with fail
            refine (rdr_next b g L i2 d tq _ (HR2.out.keep (by (repeat' (first | exact Below.refl _ _ | assumption | refine Below.drew ?_ | refine Below.drewN' ?_ _ | refine Below.setCell ?_ (by first | (simp; done) | omega | (simp; omega)) _ | refine Below.alloc ?_ (by first | (simp; done) | omega | (simp; omega)) _ | refine Below.step ?_ (by assumption) (by first | (simp; done) | omega | (simp; omega)))))) HTQ.out hnx hE.1).mono ?_
            rintro e w4 ⟨rfl, hr4, hb4⟩
            have hs4 : w2.heap.size + 1 ≤ w4.heap.size := by have := hb4.size; simpa using this
            have hs4' : w2.heap.size < w4.heap.size := by omega
            have hB4 := (HB3.out.alloc (by omega) _).trans hb4
            have hp4 := hb4.keep (k := w2.heap.size) (last_block _ _) (by omega)
            obtain ⟨p0, p1, p2, p3, p4, p5, p6, p7⟩ := (Row.refl hp4).cells8
            have z0 := unfrozen_at hp4
            have HK : Hid (Keeps (Fresh wc w2) w2 w4) := Lib.hid fun k hk => (hb4.others k (by have := hk.2; simp; omega) (by have := hk.1; omega)).trans (Below.heap_alloc _ _ _ hk.2)
            have HR4 := Lib.hid hr4
            have HB4 := Lib.hid hB4
            have HP4 := Lib.hid hp4
            clear hr4 hB4 hb4 hp4
            go_wp2_with fail
            go_meet
            refine row8_at' (Q := PartAt b g w2.heap.size w.heap.size L d w1 (i2 + 1) (.mk 10 [] Cl.zero [nd] nd.place)) HP4.out ?_
            intro W hW
            exact PartAt.wrap HB4.out (by omega) HR4.out (F := Fresh wc w2) (fun k hk => ⟨by have := hk.1; omega, by have := hk.2; omega, by have := hk.2; omega⟩) (HRN.out.keep HK.out) (by omega) (by omega) (by omega) (by omega) (by omega) 10 nd.place rfl hW
          · subst hmm
            subst hi3
            have hnx := HNX.out (by decide)
            go_wp2_with fail
            refine (rdr_next b g L i2 d tq _ (HR2.out.keep (by (repeat' (first | exact Below.refl _ _ | assumption | refine Below.drew ?_ | refine Below.drewN' ?_ _ | refine Below.setCell ?_ (by first | (simp; done) | omega | (simp; omega)) _ | refine Below.alloc ?_ (by first | (simp; done) | omega | (simp; omega)) _ | refine Below.step ?_ (by assumption) (by first | (simp; done) | omega | (simp; omega)))))) HTQ.out hnx hE.1).mono ?_
            rintro e w4 ⟨rfl, hr4, hb4⟩
            have hs4 : w2.heap.size + 1 ≤ w4.heap.size := by have := hb4.size; simpa using this
            have hs4' : w2.heap.size < w4.heap.size := by omega
            have hB4 := (HB3.out.alloc (by omega) _).trans hb4
            have hp4 := hb4.keep (k := w2.heap.size) (last_block _ _) (by omega)
            obtain ⟨p0, p1, p2, p3, p4, p5, p6, p7⟩ := (Row.refl hp4).cells8
            have z0 := unfrozen_at hp4
            have HK : Hid (Keeps (Fresh wc w2) w2 w4) := Lib.hid fun k hk => (hb4.others k (by have := hk.2; simp; omega) (by have := hk.1; omega)).trans (Below.heap_alloc _ _ _ hk.2)
            have HR4 := Lib.hid hr4
            have HB4 := Lib.hid hB4
            have HP4 := Lib.hid hp4
            clear hr4 hB4 hb4 hp4
            go_wp2_with fail
            go_meet
            refine row8_at' (Q := PartAt b g w2.heap.size w.heap.size L d w1 (i2 + 1) (.mk 9 [] Cl.zero [nd] nd.place)) HP4.out ?_
            intro W hW
            exact PartAt.wrap HB4.out (by omega) HR4.out (F := Fresh wc w2) (fun k hk => ⟨by have := hk.1; omega, by have := hk.2; omega, by have := hk.2; omega⟩) (HRN.out.keep HK.out) (by omega) (by omega) (by omega) (by omega) (by omega) 9 nd.place rfl hW
          · subst hmm
            subst hi3
            have hnx := HNX.out (by decide)
            go_wp2_with fail
            refine (rdr_next b g L i2 d tq _ (HR2.out.keep (by (repeat' (first | exact Below.refl _ _ | assumption | refine Below.drew ?_ | refine Below.drewN' ?_ _ | refine Below.setCell ?_ (by first | (simp; done) | omega | (simp; omega)) _ | refine Below.alloc ?_ (by first | (simp; done) | omega | (simp; omega)) _ | refine Below.step ?_ (by assumption) (by first | (simp; done) | omega | (simp; omega)))))) HTQ.out hnx hE.1).mono ?_
            rintro e w4 ⟨rfl, hr4, hb4⟩
            have hs4 : w2.heap.size + 1 ≤ w4.heap.size := by have := hb4.size; simpa using this
            have hs4' : w2.heap.size < w4.heap.size := by omega
            have hB4 := (HB3.out.alloc (by omega) _).trans hb4
            have hp4 := hb4.keep (k := w2.heap.size) (last_block _ _) (by omega)
            obtain ⟨p0, p1, p2, p3, p4, p5, p6, p7⟩ := (Row.refl hp4).cells8
            have z0 := unfrozen_at hp4
            have HK : Hid (Keeps (Fresh wc w2) w2 w4) := Lib.hid fun k hk => (hb4.others k (by have := hk.2; simp; omega) (by have := hk.1; omega)).trans (Below.heap_alloc _ _ _ hk.2)
            have HR4 := Lib.hid hr4
            have HB4 := Lib.hid hB4
            have HP4 := Lib.hid hp4
            clear hr4 hB4 hb4 hp4
            go_wp2_with fail
            go_meet
            refine row8_at' (Q := PartAt b g w2.heap.size w.heap.size L d w1 (i2 + 1) (.mk 8 [] Cl.zero [nd] nd.place)) HP4.out ?_
            intro W hW
            exact PartAt.wrap HB4.out (by omega) HR4.out (F := Fresh wc w2) (fun k hk => ⟨by have := hk.1; omega, by have := hk.2; omega, by have := hk.2; omega⟩) (HRN.out.keep HK.out) (by omega) (by omega) (by omega) (by omega) (by omega) 8 nd.place rfl hW
          · subst hmm
            subst hi3
            have h1 : (s2 == [43]) = false := by simpa using hn1
            have h2 : (s2 == [42]) = false := by simpa using hn2
            have h3 : (s2 == [63]) = false := by simpa using hn3
            clear hn1 hn2 hn3
            go_wp2_with fail
            go_meet
            exact ⟨HB3.out.alloc (by omega) _, HR2.out.keep (by (repeat' (first | exact Below.refl _ _ | assumption | refine Below.drew ?_ | refine Below.drewN' ?_ _ | refine Below.setCell ?_ (by first | (simp; done) | omega | (simp; omega)) _ | refine Below.alloc ?_ (by first | (simp; done) | omega | (simp; omega)) _ | refine Below.step ?_ (by assumption) (by first | (simp; done) | omega | (simp; omega))))), .slice a m.subs.length nc, last_block _ _, (HRN.out.keep fun k hk => Below.heap_alloc _ _ _ hk.2).mono fun k hk => ⟨by have := hk.1; omega, by have := hk.2; simp; omega, by have := hk.2; omega⟩⟩
        case rest =>
          have HCUT := Lib.hid hcut
          clear hcut
          go_upto_if 59 with (fail)
          go_cut [] (fun wx => PartAt b g w2.heap.size w.heap.size L d w1 i3 (if k = 0 then m else .mk k [] Cl.zero [m] t.place) wx)
          case first =>
            rcases HKC.out with rfl | ⟨hk0, hs0⟩
            · go_wp2_with fail
              go_meet
              rw [if_pos trivial]
              exact HCUT.out
            · have hkb : (k != 0) = true := by simpa using hk0
              have HK0 := Lib.hid hk0
              obtain ⟨hB5, hI5, s7, hnb, hRN5⟩ := HCUT.out
              have hp5 := hB5.keep HP6.out (by omega)
              have hs5 := hB5.size
              have hl5 := lt_of_block hnb
              obtain ⟨p0, p1, p2, p3, p4, p5, p6, p7⟩ := (Row.refl hnb).cells8
              obtain ⟨y0, y1, y2, y3, y4, y5, y6⟩ := (Row.refl hp5).cells7
              have z0 := unfrozen_at hnb
              have HB5 := Lib.hid hB5
              have HI5 := Lib.hid hI5
              have HNB := Lib.hid hnb
              have HRN5 := Lib.hid hRN5
              have hl6 := lt_of_block hp5
              clear hB5 hI5 hnb hRN5 hp5 hk0 hs0
              go_wp2_with fail
              go_meet
              rw [if_neg HK0.out]
              refine row8_at' (Q := PartAt b g w2.heap.size w.heap.size L d w1 i3 (.mk k [] Cl.zero [m] t.place)) HNB.out ?_
              intro W hW
              exact PartAt.wrap HB5.out (by omega) HI5.out (fun k hk => hk) HRN5.out (by omega) (by omega) (by omega) (by omega) (by omega) k t.place rfl hW
          case rest =>
            have hM2 : Mu.partWith One (L.drop i) = .ok (some (if k = 0 then m else .mk k [] Cl.zero [m] t.place), L.drop i3) := by
              rw [HM.out, HRES.out]
              simp only [HAF.out]
            have hi3 : i1 < i3 ∧ i3 < L.length := by
              rcases HCA.out with ⟨h0, _, h3⟩ | ⟨h0, _, h3⟩ | ⟨h0, _, h3⟩ | ⟨_, _, h3⟩
              · have := HNX.out (by rw [h0]; decide); omega
              · have := HNX.out (by rw [h0]; decide); omega
              · have := HNX.out (by rw [h0]; decide); omega
              · omega
            generalize (if k = 0 then m else Nd.mk k [] Cl.zero [m] t.place) = m2 at hcut hM2
            obtain ⟨hB5, hI5, s7, hnb, hRN5⟩ := hcut
            obtain ⟨a7', sb7, off7, nc7, C7, hv7, _⟩ := hRN5.open
            have hs7 : s7 = .slice a7' m2.subs.length nc7 := by
              simp only [ndv, Value.agg.injEq] at hv7
              have := congrArg (fun z : Array Value => z[6]?) hv7
              simpa using this
            subst hs7
            clear hv7
            have hs5 := hB5.size
            have hl5 := lt_of_block hnb
            have hBw5 := HW1.out.trans hB5
            have hc5 := hBw5.keep HC.out hcb
            have hr5 := HR.out.same hBw5.size fun k h1 h2 => hBw5.others k h2 (by omega)
            obtain ⟨p0, p1, p2, p3, p4, p5, p6, p7⟩ := (Row.refl hnb).cells8
            have e0 := cell_at hc5 0
            have ef := unfrozen_at hc5 0
            obtain ⟨vs, hvl, hown, hvr⟩ := hr5
            have hlc5 : c < wc.heap.size := lt_of_block hc5
            have HBw5 := Lib.hid hBw5
            have HI5 := Lib.hid hI5
            have HNB := Lib.hid hnb
            have HRN5 := Lib.hid hRN5
            have HC5 := Lib.hid hc5
            have HVR := Lib.hid hvr
            have HOWN := Lib.hid hown
            have HM2 := Lib.hid hM2
            clear hB5 hI5 hnb hRN5 hM2 hBw5 hc5 hvr hown
            go_wp2_with fail
            obtain ⟨i0, hti, hz0, hz1, hz2⟩ := info_parts Tryz.infoNode
            have hob : ∀ j, v.ownBlock = some j → B ≤ j ∧ j < w.heap.size := by
              obtain ⟨vs', _, ho', _⟩ := HR.out
              exact ho'.lt
            have hcl : (cellsOf vs).length = ns.length * 8 := HOWN.out.1
            have HCL := Lib.hid hcl
            have HOB := Lib.hid hob
            obtain ⟨av, cv, rfl⟩ : ∃ av cv, v = .slice av ns.length cv := by
              rcases HOWN.out.2 with ⟨h1, h2⟩ | ⟨g2, cap2, cur2, h1, _⟩
              · exact ⟨none, 0, by rw [h1, h2]⟩
              · exact ⟨_, _, h1⟩
            have hlen : (ns.length : Int) < (ns.length : Int) + 1 := by omega
            clear hcl hob
            go_region_law ((refine step_append_lies _ (by rfl) _ _ 28 (by rfl) B 30 i0 _ 8 88 Tryz.underlying28 hti hz0 hz1 hz2 (by rfl) (by decide) (.slice av ns.length cv) ns.length (cellsOf vs) (by rfl) (owns_below HOWN.out (by (repeat' (first | exact Below.refl _ _ | assumption | refine Below.drew ?_ | refine Below.drewN' ?_ _ | refine Below.setCell ?_ (by first | (simp; done) | omega | (simp; omega)) _ | refine Below.alloc ?_ (by first | (simp; done) | omega | (simp; omega)) _ | refine Below.step ?_ (by assumption) (by first | (simp; done) | omega | (simp; omega)))))) ⟨wc.heap.size, 0, none⟩ 1 1 [.int .i64 0, .string ⟨#[]⟩, .int .u64 0, .int .u64 0, .int .u64 0, .int .u64 0, .slice none 0 0, .int .i64 0] (by rfl) (by rfl) (World.news_of_block (new_at _ _ _ (by simp))) (by simp [Value.oneCell']) (by decide) (by unfold maxLen; omega) (by omega) (by simp; omega) (wc.heap.size + 1) (by simp) ?_; intro g' cap' wr hownr hgrow hat hltr; obtain ⟨a0, a1, a2, a3, a4, a5, a6, a7, af, hgB'⟩ := owns_tail8 hownr HCL.out; have hcw : wr.heap[c]? = some (.cells #[.slice av ns.length cv] 28) := ((hgrow.block c (by simp; omega) (fun e => by have := HOB.out c e.symm; omega)).trans (Below.heap_alloc _ _ _ hlc5)).trans HC5.out; have r0 := cell_at hcw 0; have rf := unfrozen_at hcw 0; have hcg : ¬ c = g' := (by omega); have hgc' : ¬ g' = c := (by omega); have HOWNR := Lib.hid hownr; have HG := Lib.hid hgrow; have HAT := Lib.hid hat; have HCW := Lib.hid hcw; clear hownr hgrow hat hcw))
            all_goals
              go_wp2_with fail
              refine bodyPost_ret (v := .bool true) (by simp [results, Tryz.results115, go_sem]) rfl ?_
              first
                | ((with_reducible refine part_closeA HBw5.out hcB hbB hgB hcb hgc hB HOB.out HI5.out hvl HVR.out HRN5.out (grown_undrew HG.out) HAT.out HCL.out HOWNR.out ?_ HCW.out hcg HM2.out (Nat.lt_of_le_of_lt hi1' hi3.1) hi3.2); rfl)
                | ((with_reducible refine part_closeB HBw5.out hcB hbB hgB hcb hgc hB HOB.out HI5.out hvl HVR.out HRN5.out (grown_undrew HG.out) HAT.out HCL.out HOWNR.out ?_ HCW.out hcg HM2.out (Nat.lt_of_le_of_lt hi1' hi3.1) hi3.2); rfl)

end Go.Proofs.YtdmhjnnogcpccaaGreatDoor
