/- A region that draws its order, by an invariant of what has been done: serves where the region may panic in a function that defers. syntax.Parse. -/
import Derived.Test.YtdmhjnnogcpccaaGreatDoorJBas
import Derived.Orders
import Derived.Test.YtdmhjnnogcpccaaGreatDoorJCuf
import Derived.RegionTactic
import Derived.Deep.RegionHeld3
import Derived.Deep.RegionWith
import Derived.Deep.RegionLaw
import Derived.Deep.AppendLies
section
namespace Go.Proofs.YtdmhjnnogcpccaaGreatDoor
open Go Go.RowKit

def notYet (n : Nat) (listed : Array Bool) : Nat := (List.range n).countP fun i => !listed.getD i true

theorem ready_sub {md : Region.Mode} {ops : Array Oper} {listed : Array Bool} {i : Nat} (h : i ∈ Region.ready md ops listed) : i < ops.size ∧ listed.getD i true = false := by
  unfold Region.ready at h
  rw [List.mem_filter, List.mem_range] at h
  refine ⟨h.1, ?_⟩
  have := h.2
  simp only [Bool.and_eq_true, Bool.not_eq_true'] at this
  exact this.1

theorem notYet_set (listed : Array Bool) (i : Nat) : ∀ n, i < n → listed.getD i true = false → notYet n (listed.setIfInBounds i true) + 1 ≤ notYet n listed := by
  intro n hi hl
  have hlt : i < listed.size := by
    rcases Nat.lt_or_ge i listed.size with h | h
    · exact h
    · simp [Array.getElem?_eq_none h] at hl
  have hmono : ∀ (l : List Nat), l.countP (fun j => !(listed.setIfInBounds i true).getD j true) + (if i ∈ l then 1 else 0) ≤ l.countP (fun j => !listed.getD j true) := by
    intro l
    induction l with
    | nil => simp
    | cons x l ih =>
      by_cases hx : x = i
      · subst hx
        have e1 : (!(listed.setIfInBounds x true).getD x true) = false := by simp [hlt]
        have e2 : (!listed.getD x true) = true := by simpa using hl
        rw [List.countP_cons, List.countP_cons, e1, e2]
        have h0 : l.countP (fun j => !(listed.setIfInBounds x true).getD j true) ≤ l.countP (fun j => !listed.getD j true) := by omega
        simp
        simpa using h0
      · have e1 : (listed.setIfInBounds i true).getD x true = listed.getD x true := getD_set_ne true (Ne.symm hx)
        rw [List.countP_cons, List.countP_cons, e1]
        have hm : (i ∈ x :: l) = (i ∈ l) := by simp [Ne.symm hx]
        simp only [hm]
        omega
  have := hmono (List.range n)
  rw [if_pos (List.mem_range.2 hi)] at this
  exact this

theorem wpAny_inv {P : Program} {ops : Array Oper} {Q : Exit → Act → World → Prop} {md : Region.Mode} (Inv : Array Bool → Act → World → Prop)
    (hstep : ∀ listed a w, Inv listed a w → ∀ i, i ∈ Region.ready md ops listed → wpOp P ops Q i (fun a' w' => Inv (listed.setIfInBounds i true) a' w') a w)
    (hfin : ∀ listed a w, Inv listed a w → Region.ready md ops listed = [] → Q .normal a w) :
    ∀ (fuel : Nat) (listed : Array Bool) (a : Act) (w : World), notYet ops.size listed ≤ fuel → Inv listed a w → wpAny P md ops Q fuel listed a w := by
  intro fuel
  induction fuel with
  | zero =>
    intro listed a w hf hi
    have hr : Region.ready md ops listed = [] := by
      apply List.eq_nil_iff_forall_not_mem.2
      intro i h
      obtain ⟨h1, h2⟩ := ready_sub h
      have := notYet_set listed i ops.size h1 h2
      omega
    exact ⟨hr, hfin _ _ _ hi hr⟩
  | succ fuel ih =>
    intro listed a w hf hi
    refine ⟨hfin _ _ _ hi, fun i h => ?_⟩
    obtain ⟨h1, h2⟩ := ready_sub h
    have := notYet_set listed i ops.size h1 h2
    exact wpOp_mono (fun a' w' h' => ih _ a' w' (by omega) h') (hstep _ _ _ hi i h)

theorem wp_region_inv {P : Program} {id : Nat} {ops : Array Oper} {Q : Exit → Act → World → Prop} {a : Act} {w : World} (hm : P.follows .mixedOrders = true) (Inv : Array Bool → Act → World → Prop)
    (h0 : Inv (Array.replicate ops.size false) a w.drew)
    (hstep : ∀ listed a w, Inv listed a w → ∀ i, i ∈ Region.ready .any ops listed → wpOp P ops Q i (fun a' w' => Inv (listed.setIfInBounds i true) a' w') a w)
    (hfin : ∀ listed a w, Inv listed a w → Region.ready .any ops listed = [] → Q .normal a w) : (Code.region id ops true).wp P Q a w :=
  wp_region_any hm (wpAny_inv Inv hstep hfin _ _ _ _ (by
    unfold notYet
    exact Nat.le_trans List.countP_le_length (by simp)) h0)

end Go.Proofs.YtdmhjnnogcpccaaGreatDoor
end

section
namespace Go.Proofs.YtdmhjnnogcpccaaGreatDoor
open Go.RowKit
open Mu (Cl Bs Nd Ru Gr Tk)
set_option linter.unusedSimpArgs false
set_option linter.unusedVariables false

attribute [local irreducible] wpQuiet wpStill

/-- Q, and no panic -/
def onlyNormal (Q : Exit → Act → World → Prop) : Exit → Act → World → Prop
 | .normal, a, w => Q .normal a w
 | _, _, _ => False

theorem only_of {Q : Exit → Act → World → Prop} : ∀ e a w, onlyNormal Q e a w → Q e a w := by
  intro e a w h
  cases e with
  | normal => exact h
  | _ => exact h.elim


/-- a rule's value -/
abbrev ruOf (r : Ru) (S : Value) : Value := ruv r.name r.body.kind r.body.text r.body.cls S r.body.place r.place

/-- a row of rules that the call owns, in blocks from B on -/
def RuRow (B : Nat) (v : Value) (g : Gr) (w : World) : Prop := ∃ vs : List Value, vs.length = g.length ∧ w.ownsRow B 60 10 v g.length (cellsOf vs) ∧
  ∀ i (h : i < g.length), ∃ S, vs.getD i .nilIface = ruOf g[i] S ∧ g[i].name.length ≤ 255 ∧ RN w (fun k => B ≤ k ∧ k < w.heap.size ∧ some k ≠ v.ownBlock) (ndv g[i].body.kind g[i].body.text g[i].body.cls S g[i].body.place) g[i].body

theorem RuRow.nil (B : Nat) (w : World) : RuRow B (.slice none 0 0) [] w := ⟨[], rfl, by exact World.ownsRow_nil _ _ _ _, fun i h => by simp at h⟩

theorem RuRow.same {B : Nat} {v : Value} {g : Gr} {w w' : World} (h : RuRow B v g w) (hs : w.heap.size ≤ w'.heap.size) (hk : ∀ k, B ≤ k → k < w.heap.size → w'.heap[k]? = w.heap[k]?) : RuRow B v g w' := by
  obtain ⟨vs, h1, ⟨h2, h3⟩, h4⟩ := h
  refine ⟨vs, h1, ⟨h2, ?_⟩, fun i hi => ?_⟩
  · rcases h3 with h3 | ⟨g, cap, cur, hv, hg, hh, r⟩
    · exact .inl h3
    · exact .inr ⟨g, cap, cur, hv, hg, by rw [hk g hg (lt_of_block hh)]; exact hh, r⟩
  · obtain ⟨S, q1, q2, q3⟩ := h4 i hi
    exact ⟨S, q1, q2, (q3.keep (w' := w') fun k hF => hk k hF.1 hF.2.1).mono fun k hF => ⟨hF.1, by omega, hF.2.2⟩⟩

theorem RuRow.mono {B B' : Nat} {v : Value} {g : Gr} {w : World} (h : RuRow B v g w) (hB : B' ≤ B) : RuRow B' v g w := by
  obtain ⟨vs, h1, h2, h4⟩ := h
  refine ⟨vs, h1, owns_mono h2 hB, fun i hi => ?_⟩
  obtain ⟨S, q1, q2, q3⟩ := h4 i hi
  exact ⟨S, q1, q2, q3.mono fun k hF => ⟨Nat.le_trans hB hF.1, hF.2⟩⟩

def PsEnd (s : Bs) (w : World) (e : Ending) (w' : World) : Prop := Below w.heap.size w w' ∧
  ((∃ f v, Mu.parse s = .error f ∧ e = .returned (.tuple #[.agg #[.slice none 0 0], v]) ∧ IsFlt w.heap.size v f w') ∨
   (∃ (gr : Gr) (v : Value), Mu.parse s = .ok gr ∧ gr ≠ [] ∧ gr.length ≤ 64 ∧ e = .returned (.tuple #[.agg #[v], .nilIface]) ∧ RuRow w.heap.size v gr w'))

def PsInv (b g G : Nat) (L : List Tk) (RES : Except Mu.Flt Gr) (w wr : World) : Prop :=
  ∃ (gr : Gr) (i k : Nat) (v : Value), Below G w wr ∧ wr.heap[G]? = some (.cells #[v] 24) ∧ wr.heap[G + 1]? = some (.cells #[.nilIface] 35) ∧ IsRdr b g L i 0 wr ∧ i < L.length ∧ RuRow (b + 1) v gr wr ∧ gr.length ≤ 64 ∧
    (gr = [] → v = .slice none 0 0) ∧ Mu.rulesK k gr.reverse (L.drop i) = RES ∧ L.length - i < k

theorem toksCells_get : ∀ (L : List Tk) (k : Nat) (t : Tk), L[k]? = some t → ∀ j, j < 7 → (toksCells L)[7 * k + j]? = (tkCells t)[j]?
  | [], k, t, h, _, _ => by simp at h
  | x :: L, k, t, h, j, hj => by
    have e : toksCells (x :: L) = tkCells x ++ toksCells L := by simp [toksCells]
    rw [e]
    cases k with
    | zero =>
      simp at h
      subst h
      rw [List.getElem?_append_left (by simp; omega)]
      simp
    | succ k =>
      rw [List.getElem?_append_right (by simp; omega)]
      have := toksCells_get L k t (by simpa using h) j hj
      rw [← this]
      congr 1
      simp
      omega

theorem TokB.of_own {B g n cap : Nat} {L : List Tk} {w : World} (h : w.ownsRow B 112 7 (.slice (some ⟨g, 0, none⟩) n cap) n (toksCells L)) (hn : n = L.length) : TokB g L w := by
  obtain ⟨h1, h2⟩ := h
  rcases h2 with ⟨h2, _⟩ | ⟨g', cap', cur, h2, hg, hh, hc1, hc2, hsz, htk⟩
  · cases h2
  · cases h2
    refine ⟨cur, _, hh, fun k t ht j hj => ?_⟩
    have hk := (List.getElem?_eq_some_iff.1 ht).1
    rw [← toksCells_get L k t ht j hj, ← htk, List.getElem?_take_of_lt (by omega)]
    simp

/-- a row of the call's own lies in another block than the one on which a method works -/
theorem Rf.owns {b : Nat} {w w' : World} {B : Nat} {e : TypeId} {k : Nat} {v : Value} {n : Nat} {xs : List Value} (hf : Rf b w w') (h : w.ownsRow B e k v n xs) (hv : v.ownBlock ≠ some b) : w'.ownsRow B e k v n xs := by
  obtain ⟨h1, h2⟩ := h
  refine ⟨h1, ?_⟩
  rcases h2 with h2 | ⟨g, cap, cur, rfl, hg, hh, r⟩
  · exact .inl h2
  · exact .inr ⟨g, cap, cur, rfl, hg, hf.keep hh (fun e => hv (by rw [e]; rfl)), r⟩

theorem cell_set_ne {w : World} {g k o j : Nat} {v : Value} (h : k ≠ g) : (w.setCell ⟨g, j, none⟩ v).cell? ⟨k, o, none⟩ = w.cell? ⟨k, o, none⟩ := World.cell?_of_block (a := ⟨k, o, none⟩) (Below.heap_setCell w ⟨g, j, none⟩ v k h)

theorem two_cells {w : World} {G : Nat} {a0 e0 : Value} {t t' : TypeId} (hg : w.heap[G]? = some (.cells #[a0] t)) (he : w.heap[G + 1]? = some (.cells #[e0] t')) (a e : Value) :
    (w.setCell ⟨G, 0, none⟩ a).cell? ⟨G, 0, none⟩ = some a ∧ ((w.setCell ⟨G, 0, none⟩ a).setCell ⟨G + 1, 0, none⟩ e).cell? ⟨G, 0, none⟩ = some a ∧ ((w.setCell ⟨G, 0, none⟩ a).setCell ⟨G + 1, 0, none⟩ e).cell? ⟨G + 1, 0, none⟩ = some e ∧
    (∀ k, k ≠ G → k ≠ G + 1 → ((w.setCell ⟨G, 0, none⟩ a).setCell ⟨G + 1, 0, none⟩ e).heap[k]? = w.heap[k]?) ∧ ((w.setCell ⟨G, 0, none⟩ a).setCell ⟨G + 1, 0, none⟩ e).heap.size = w.heap.size := by
  have h1 := block_set hg (i := 0) a
  have h2 : (w.setCell ⟨G, 0, none⟩ a).heap[G + 1]? = some (.cells #[e0] t') := (Below.heap_setCell _ _ _ _ (by simp)).trans he
  have h3 := block_set h2 (i := 0) e
  have h4 : ((w.setCell ⟨G, 0, none⟩ a).setCell ⟨G + 1, 0, none⟩ e).heap[G]? = _ := (Below.heap_setCell _ _ _ _ (by simp)).trans h1
  exact ⟨cell_at h1 0, cell_at h4 0, cell_at h3 0, fun k k1 k2 => (Below.heap_setCell _ _ _ _ (by simpa using k2)).trans (Below.heap_setCell _ _ _ _ (by simpa using k1)), by simp⟩

theorem Tryz.infoRule : (Tryz.prog.info? 60).map (fun i => (i.zero, i.size, i.bytes)) = some (some (.agg #[.string ⟨#[]⟩, .int .i64 0, .string ⟨#[]⟩, .int .u64 0, .int .u64 0, .int .u64 0, .int .u64 0, .slice none 0 0, .int .i64 0, .int .i64 0]), 10, 112) := by kernel_rfl

theorem ps_close {b g G : Nat} {L : List Tk} {RES : Except Mu.Flt Gr} {w wr wx w4 w5 : World} {gr : Gr} {k : Nat} {v old : Value} {vs : List Value} {nd : Nd} {S : Value} {i3 g5 cap5 : Nat} {o : Obj} {nm : Bs} {pl : Int}
    (hB : Below G w wr) (hR : Rf b wr w4) (hGb : G + 1 < b) (hgb : g < b) (hbw : b < wr.heap.size) (hG5 : w5.heap[G]? = some (.cells #[old] 24)) (hE4 : w4.heap[G + 1]? = some (.cells #[.nilIface] 35))
    (hI : IsRdr b g L i3 0 w4) (hi3 : i3 < L.length) (hvl : vs.length = gr.length)
    (hvr : ∀ i (h : i < gr.length), ∃ S, vs.getD i .nilIface = ruOf gr[i] S ∧ gr[i].name.length ≤ 255 ∧ RN wr (fun k => b + 1 ≤ k ∧ k < wr.heap.size ∧ some k ≠ v.ownBlock) (ndv gr[i].body.kind gr[i].body.text gr[i].body.cls S gr[i].body.place) gr[i].body)
    (hl : ∀ j, v.ownBlock = some j → b + 1 ≤ j ∧ j < wr.heap.size) (hrn : RN w4 (Fresh wx w4) (ndv nd.kind nd.text nd.cls S nd.place) nd) (hwx : wr.heap.size ≤ wx.heap.size)
    (hg : (w4.alloc o).grownBy w5 v.ownBlock) (hat : v.ownBlock = some g5 ∨ g5 = w4.heap.size + 1)
    (hown5 : w5.ownsRow (b + 1) 60 10 (.slice (some ⟨g5, 0, none⟩) (gr.length + 1) cap5) (gr.length + 1) (cellsOf vs ++ (ruv nm nd.kind nd.text nd.cls S nd.place pl).cells.toList))
    (hlen : gr.length ≤ 63) (htl : nm.length ≤ 255) (hk : Mu.rulesK k (⟨nm, nd, pl⟩ :: gr.reverse) (L.drop i3) = RES) (hm : L.length - i3 < k) :
    PsInv b g G L RES w (w5.setCell ⟨G, 0, none⟩ (.slice (some ⟨g5, 0, none⟩) (gr.length + 1) cap5)) ∧ IsRdr b g L i3 0 (w5.setCell ⟨G, 0, none⟩ (.slice (some ⟨g5, 0, none⟩) (gr.length + 1) cap5)) := by
  have hsR := hR.size
  have hsg := hg.size
  simp at hsg
  have hno : ∀ k, k < b + 1 → some k ≠ v.ownBlock := fun k h e => by have := (hl k e.symm).1; omega
  -- a block of w4 that is not the rules' row, nor G, is as it was
  have hk4 : ∀ k, k < w4.heap.size → some k ≠ v.ownBlock → k ≠ G → (w5.setCell ⟨G, 0, none⟩ (.slice (some ⟨g5, 0, none⟩) (gr.length + 1) cap5)).heap[k]? = w4.heap[k]? := fun k h1 h2 h3 =>
    ((Below.heap_setCell _ _ _ _ h3).trans (hg.block k (by simp; omega) h2)).trans (Below.heap_alloc _ _ _ h1)
  have hfin : ∀ k, b + 1 ≤ k → k < w4.heap.size → some k ≠ v.ownBlock → b + 1 ≤ k ∧ k < (w5.setCell ⟨G, 0, none⟩ (.slice (some ⟨g5, 0, none⟩) (gr.length + 1) cap5)).heap.size ∧ some k ≠ (Value.slice (some ⟨g5, 0, none⟩) (gr.length + 1) cap5).ownBlock := fun k h1 h2 h3 => by
    refine ⟨h1, by simp; omega, ?_⟩
    simp only [Value.ownBlock, ne_eq, Option.some.injEq]
    rintro rfl
    rcases hat with h | h
    · exact h3 h.symm
    · omega
  have hB4 : Below G w w4 := hB.trans (hR.below.mono (by omega))
  have hI' : IsRdr b g L i3 0 (w5.setCell ⟨G, 0, none⟩ (.slice (some ⟨g5, 0, none⟩) (gr.length + 1) cap5)) := hI.at (hk4 b (by omega) (hno b (by omega)) (by omega)) (hk4 g hI.tok.lt (hno g (by omega)) (by
    intro e
    subst e
    obtain ⟨cs, fr, h1, _⟩ := hI.tok
    have h2 := (hg.block g (by simp; omega) (hno g (by omega))).trans (Below.heap_alloc _ _ _ (by omega))
    rw [h1, hG5] at h2
    cases h2))
  refine ⟨⟨gr ++ [⟨nm, nd, pl⟩], i3, k, .slice (some ⟨g5, 0, none⟩) (gr.length + 1) cap5, ?_, by rw [block_set hG5]; rfl, (hk4 (G + 1) (by omega) (hno _ (by omega)) (by omega)).trans hE4, hI', hi3, ?_, by simp; omega, by simp, by rw [List.reverse_append]; exact hk, hm⟩, hI'⟩
  · exact Below.setCell (p := ⟨G, 0, none⟩) (Below.grown (hB4.alloc (by omega) _) hg (by simp; omega) (fun j hj => by have := (hl j hj).1; omega)) (Nat.le_refl _) _
  · refine ⟨vs ++ [ruv nm nd.kind nd.text nd.cls S nd.place pl], by simp [hvl], ?_, fun j hj => ?_⟩
    · have e : cellsOf (vs ++ [ruv nm nd.kind nd.text nd.cls S nd.place pl]) = cellsOf vs ++ (ruv nm nd.kind nd.text nd.cls S nd.place pl).cells.toList := by simp [cellsOf]
      rw [e, List.length_append]
      exact ownsRow_setCell_below hown5 (a := ⟨G, 0, none⟩) (by show G < b + 1; omega) _
    · by_cases hjl : j < gr.length
      · have e1 : (vs ++ [ruv nm nd.kind nd.text nd.cls S nd.place pl]).getD j .nilIface = vs.getD j .nilIface := by simp [List.getD_eq_getElem?_getD, List.getElem?_append_left (show j < vs.length by omega)]
        have e2 : (gr ++ [(⟨nm, nd, pl⟩ : Ru)])[j] = gr[j] := List.getElem_append_left hjl
        rw [e1, e2]
        obtain ⟨S', q1, q2, q3⟩ := hvr j hjl
        refine ⟨S', q1, q2, (q3.keep fun k hF => ?_).mono fun k hF => hfin k hF.1 (by omega) hF.2.2⟩
        exact (hk4 k (by omega) hF.2.2 (by omega)).trans (hR.others k hF.2.1 (by omega))
      · have hje : j = gr.length := by simp at hj; omega
        subst hje
        have e1 : (vs ++ [ruv nm nd.kind nd.text nd.cls S nd.place pl]).getD gr.length .nilIface = ruv nm nd.kind nd.text nd.cls S nd.place pl := by simp [List.getD_eq_getElem?_getD, ← hvl]
        have e2 : (gr ++ [(⟨nm, nd, pl⟩ : Ru)])[gr.length] = ⟨nm, nd, pl⟩ := by simp
        rw [e1, e2]
        have hn2 : ∀ k, wr.heap.size ≤ k → some k ≠ v.ownBlock := fun k h e => by have := (hl k e.symm).2; omega
        exact ⟨S, rfl, htl, (hrn.keep fun k hF => hk4 k hF.2 (hn2 k (by have := hF.1; omega)) (by have := hF.1; omega)).mono fun k hF => hfin k (by have := hF.1; omega) hF.2 (hn2 k (by have := hF.1; omega))⟩

theorem wpOp_of {P : Program} {ops : Array Oper} {Q : Exit → Act → World → Prop} {i : Nat} {o : Oper} {K' : Act → World → Prop} {a : Act} {w : World} (ho : ops[i]? = some o)
    (h : ∀ K : Act → World → Prop, (∀ a w, K' a w → K a w) → (if Region.wanted o (yielded ops a.tmps) = true then o.wp P a w K Q else K (a.put o.dst undef) w)) : wpOp P ops Q i K' a w := by
  have h1 := h K' fun _ _ h => h
  unfold wpOp
  simp only [ho]
  split
  · rename_i hw
    rw [if_pos hw] at h1
    exact .inl h1
  · rename_i hw
    rw [if_neg hw] at h1
    exact h1

theorem not_ready {md : Region.Mode} {ops : Array Oper} {listed : Array Bool} (hr : Region.ready md ops listed = []) (j : Nat) (o : Oper) (ho : ops[j]? = some o)
    (hdep : ∀ e ∈ o.after, Region.binds md e = true → listed.getD e.on false = true) : listed.getD j true = true := by
  cases h : listed.getD j true with
  | true => rfl
  | false =>
    have hm : j ∈ Region.ready md ops listed := mem_ready.2 ⟨h, o, ho, hdep⟩
    rw [hr] at hm
    cases hm

theorem getD_in {listed : Array Bool} {n j : Nat} (hs : listed.size = n) (hj : j < n) (h : listed.getD j true = true) : listed.getD j false = true := by
  have : j < listed.size := by omega
  simp [this] at h ⊢
  exact h

/-- the frame while the last statement of a round is done, up to the call that throws -/
structure PsFr (G T b : Nat) (D : List Deferred) (wx : World) (listed : Array Bool) (a : Act) (w : World) : Prop where
  world : w = wx
  defers : a.defers = D
  size : a.tmps.size = 67
  lsize : listed.size = 13
  s2 : a.tmps[2]?.getD undef = .pointer (some ⟨G, 0, none⟩)
  s3 : a.tmps[3]?.getD undef = .pointer (some ⟨G + 1, 0, none⟩)
  s5 : a.tmps[5]?.getD undef = .pointer (some ⟨b, 0, none⟩)
  s6 : a.tmps[6]?.getD undef = .pointer (some ⟨T, 0, none⟩)
  l0 : listed.getD 0 false = true → a.tmps[54]?.getD undef = .pointer (some ⟨G, 0, none⟩)
  l2 : listed.getD 2 false = true → a.tmps[56]?.getD undef = .pointer (some ⟨T, 1, none⟩)
  l4 : listed.getD 4 false = true → a.tmps[58]?.getD undef = .pointer (some ⟨T, 6, none⟩)
  l6 : listed.getD 6 false = true → a.tmps[60]?.getD undef = .pointer (some ⟨b, 0, none⟩)
  late : ∀ j, 7 ≤ j → listed.getD j false = false

theorem PsFr.put {G T b : Nat} {D : List Deferred} {wx : World} {listed : Array Bool} {a : Act} {w : World} (h : PsFr G T b D wx listed a w) (i d : Nat) (v : Value) (hi : i < 7) (hd : d = 54 + i)
    (h0 : i = 0 → v = .pointer (some ⟨G, 0, none⟩)) (h2 : i = 2 → v = .pointer (some ⟨T, 1, none⟩)) (h4 : i = 4 → v = .pointer (some ⟨T, 6, none⟩)) (h6 : i = 6 → v = .pointer (some ⟨b, 0, none⟩)) :
    PsFr G T b D wx (listed.setIfInBounds i true) (a.put (some d) v) w := by
  have hs := h.size
  have hl := h.lsize
  subst hd
  have e1 : ∀ j, j ≠ 54 + i → (a.put (some (54 + i)) v).tmps[j]?.getD undef = a.tmps[j]?.getD undef := fun j hj => by
    simp [Act.put, Array.getElem?_setIfInBounds_ne (Ne.symm hj)]
  have e2 : (a.put (some (54 + i)) v).tmps[54 + i]?.getD undef = v := by
    simp [Act.put, hs]
    omega
  have e3 : ∀ j, j ≠ i → (listed.setIfInBounds i true).getD j false = listed.getD j false := fun j hj => getD_set_ne false (Ne.symm hj)
  refine ⟨h.world, h.defers, by simp [Act.put, hs], by simp [hl], (e1 2 (by omega)).trans h.s2, (e1 3 (by omega)).trans h.s3, (e1 5 (by omega)).trans h.s5, (e1 6 (by omega)).trans h.s6, fun q => ?_, fun q => ?_, fun q => ?_, fun q => ?_, fun j hj => (e3 j (by omega)).trans (h.late j hj)⟩
  · by_cases hi0 : i = 0
    · subst hi0; exact e2.trans (h0 rfl)
    · exact (e1 54 (by omega)).trans (h.l0 ((e3 0 (Ne.symm hi0)) ▸ q))
  · by_cases hi0 : i = 2
    · subst hi0; exact e2.trans (h2 rfl)
    · exact (e1 56 (by omega)).trans (h.l2 ((e3 2 (Ne.symm hi0)) ▸ q))
  · by_cases hi0 : i = 4
    · subst hi0; exact e2.trans (h4 rfl)
    · exact (e1 58 (by omega)).trans (h.l4 ((e3 4 (Ne.symm hi0)) ▸ q))
  · by_cases hi0 : i = 6
    · subst hi0; exact e2.trans (h6 rfl)
    · exact (e1 60 (by omega)).trans (h.l6 ((e3 6 (Ne.symm hi0)) ▸ q))

set_option maxHeartbeats 8000000 in
set_option maxRecDepth 100000 in
theorem syn_parse (s : Bs) (w : World) (hG : ErrT w) (hs : s.length ≤ 140737488355328) : Calls Tryz.prog 28 #[.string (ba s)] w (PsEnd s w) := by
  have hmf : ∀ (fn : Fn) (first cap : Array Value) (w : World), (Instr.makeFunc fn first cap).run Tryz.prog w = .ok (.func fn first cap) w := fun _ _ _ _ => rfl
  have HG := Lib.hid hG
  clear hG
  go_enter_defers Tryz.func28, Tryz.ntmps28
  go_wp2_with fail
  refine (lex_tokens s _ (HG.out.keep (by (repeat' (first | exact Below.refl _ _ | assumption | refine Below.drew ?_ | refine Below.drewN' ?_ _ | refine Below.setCell ?_ (by first | (simp; done) | omega | (simp; omega)) _ | refine Below.alloc ?_ (by first | (simp; done) | omega | (simp; omega)) _ | refine Below.step ?_ (by assumption) (by first | (simp; done) | omega | (simp; omega)))) : Below w.heap.size w _) HG.out.2) hs).mono ?_
  rintro e w1 ⟨hb, ht⟩
  have hg1 := (hb.block w.heap.size (by simp; omega)).trans ((Below.heap_alloc _ _ _ (by simp)).trans (last_block _ _))
  have he1 := (hb.block (w.heap.size + 1) (by simp)).trans (new_at _ _ _ (by simp))
  have hb1 : Below w.heap.size w w1 := Below.trans (by (repeat' (first | exact Below.refl _ _ | assumption | refine Below.drew ?_ | refine Below.drewN' ?_ _ | refine Below.setCell ?_ (by first | (simp; done) | omega | (simp; omega)) _ | refine Below.alloc ?_ (by first | (simp; done) | omega | (simp; omega)) _ | refine Below.step ?_ (by assumption) (by first | (simp; done) | omega | (simp; omega))))) (hb.mono (by simp; omega))
  have hs1 : w.heap.size + 2 ≤ w1.heap.size := by have := hb.size; simpa using this
  have gc := cell_at hg1 0
  have gf := unfrozen_at hg1 0
  have ec := cell_at he1 0
  have ef := unfrozen_at he1 0
  have HG1 := Lib.hid hg1
  have HE1 := Lib.hid he1
  have HB1 := Lib.hid hb1
  clear hb hg1 he1 hb1
  rcases ht with ⟨f, v, ht, rfl, hv⟩ | ⟨L, v, ht, hE, hne, rfl, hown⟩
  · obtain ⟨p, hp1, rfl, hp2⟩ := hv
    have HP := Lib.hid hp2
    have HT := Lib.hid ht
    clear hp2 ht
    go_wp2_with fail
    go_region
    all_goals
      go_wp2_with fail
      have hp1' : w.heap.size + 2 ≤ p := by simpa using hp1
      have he2 := block_set HE1.out (i := 0) (.iface 83 (.pointer (some ⟨p, 0, none⟩)))
      have hg2 : (w1.setCell ⟨w.heap.size + 1, 0, none⟩ (.iface 83 (.pointer (some ⟨p, 0, none⟩)))).heap[w.heap.size]? = _ := (Below.heap_setCell _ _ _ _ (by simp)).trans HG1.out
      obtain ⟨x1, x2, x3, x4, x5⟩ := two_cells hg2 he2 (.slice none 0 0) (.iface 83 (.pointer (some ⟨p, 0, none⟩)))
      refine ⟨.tuple #[.agg #[.slice none 0 0], .iface 83 (.pointer (some ⟨p, 0, none⟩))], by simp [results, Tryz.results28, go_sem, x1, x2, x3], ?_, .inl ⟨f, _, by simp only [Mu.parse, HT.out], rfl, p, by omega, rfl, ?_⟩⟩
      · exact (((HB1.out.setCell (p := ⟨w.heap.size + 1, 0, none⟩) (by simp) _).setCell (p := ⟨w.heap.size, 0, none⟩) (Nat.le_refl _) _).setCell (p := ⟨w.heap.size + 1, 0, none⟩) (by simp) _).drew
      · exact ((x4 p (by omega) (by omega)).trans (Below.heap_setCell _ _ _ _ (by show p ≠ w.heap.size + 1; omega))).trans HP.out
  · obtain ⟨g, cap, rfl, hgB, hgl, hgc⟩ : ∃ g cap, v = .slice (some ⟨g, 0, none⟩) L.length cap ∧ w.heap.size + 3 ≤ g ∧ g < w1.heap.size ∧ L.length ≤ cap := by
      rcases hown.2 with ⟨_, h0⟩ | ⟨g, cap, cur, h1, h2, h3, h4, _⟩
      · exact absurd (List.length_eq_zero_iff.1 h0) hne
      · exact ⟨g, cap, h1, by simpa using h2, lt_of_block h3, h4⟩
    have htk := TokB.of_own hown rfl
    have HTK := Lib.hid htk
    have HT := Lib.hid ht
    have HE := Lib.hid hE
    have HNE := Lib.hid hne
    clear hown ht hE hne htk
    generalize hRES : Mu.rulesK (L.length + 1) [] L = RES
    have HRES := Lib.hid hRES
    clear hRES
    have hL0 : 0 < L.length := List.length_pos_iff.2 HNE.out
    go_wp2_with fail
    go_loopw [33] (fun _ wr => PsInv w1.heap.size g w.heap.size L RES w wr) (fun _ wr => rdLeft w1.heap.size wr)
    case atStart =>
      refine ⟨[], 0, L.length + 1, .slice none 0 0, ((HB1.out.mono (Nat.le_refl _)).setCell (p := ⟨w.heap.size + 1, 0, none⟩) (by simp) _).alloc (by simp; omega) _, ?_, ?_, ⟨cap, ?_, ?_, by omega, by simpa using hgc⟩, hL0, RuRow.nil _ _, by simp, fun _ => rfl, HRES.out, by omega⟩
      · rw [Below.heap_alloc _ _ _ (by simp; omega), Below.heap_setCell _ _ _ _ (by simp)]
        exact HG1.out
      · rw [Below.heap_alloc _ _ _ (by simp; omega), block_set HE1.out]
        rfl
      · exact new_at _ _ _ (by simp)
      · refine HTK.out.keep ?_
        rw [Below.heap_alloc _ _ _ (by simpa using hgl), Below.heap_setCell _ _ _ _ (by show g ≠ w.heap.size + 1; omega)]
    case round =>
      obtain ⟨gr, i, k, v, hb, hGc, hEc, hI, hi, hru, hgl64, hnil, hres, hk⟩ := hrel
      obtain ⟨tq, htq⟩ : ∃ tq, L[i]? = some tq := ⟨L[i], List.getElem?_eq_some_iff.2 ⟨hi, rfl⟩⟩
      obtain ⟨n, cap', HN, c0, c1, hnc, hnl, f0, f1, hlt, hlg, hgb, t0, t1, t2, t3, t4, t5, t6⟩ := hI.all htq
      have gc := cell_at hGc 0
      have gf := unfrozen_at hGc 0
      have ec := cell_at hEc 0
      have ef := unfrozen_at hEc 0
      obtain ⟨k', rfl⟩ : ∃ k', k = k' + 1 := ⟨k - 1, by omega⟩
      obtain ⟨av, cv, rfl⟩ : ∃ av cv, v = .slice av gr.length cv := by
        obtain ⟨vs, _, ho, _⟩ := hru
        rcases ho.2 with ⟨h1, h2⟩ | ⟨g2, cap2, cur2, h1, _⟩
        · exact ⟨none, 0, by rw [h1, h2]⟩
        · exact ⟨_, _, h1⟩
      have HTQ := Lib.hid htq
      have HI := Lib.hid hI
      have HB := Lib.hid hb
      have HGC := Lib.hid hGc
      have HEC := Lib.hid hEc
      have HRU := Lib.hid hru
      have HNIL := Lib.hid hnil
      have HRES2 := Lib.hid hres
      clear htq hI hb hGc hEc hru hnil hres HTK HG1 HE1
      by_cases hA : gr ≠ [] ∧ tq.kind = 6
      · obtain ⟨hA1, hA2⟩ := hA
        have h1 : ((gr.length : Int) == 0) = false := beq_eq_false_iff_ne.2 (by have := List.length_pos_iff.2 hA1; omega)
        have h2 : (tq.kind : Int) = 6 := by omega
        have HA1 := Lib.hid hA1
        have HA2 := Lib.hid hA2
        clear hA1 hA2
        have hfin : RES = .ok gr := by
          rw [← HRES2.out]
          simp [Mu.rulesK, HA1.out, tk0_drop HTQ.out, HA2.out]
        have HFIN := Lib.hid hfin
        clear hfin
        go_wp2_with fail
        refine leaves_cons (f := 56) (args := #[.pointer (some ⟨w.heap.size, 0, none⟩), .pointer (some ⟨w.heap.size + 1, 0, none⟩)]) (by simp) (by simp [go_sem]) ?_
        refine (catch_idle ⟨w.heap.size, 0, none⟩ ⟨w.heap.size + 1, 0, none⟩ _).mono ?_
        rintro ev u' w'' ⟨rfl, rfl, rfl⟩
        obtain ⟨x1, x2, x3, x4, x5⟩ := two_cells HGC.out HEC.out (.slice av gr.length cv) .nilIface
        refine ⟨.tuple #[.agg #[.slice av gr.length cv], .nilIface], by simp [results, Tryz.results28, go_sem, x1, x2, x3], ?_, .inr ⟨gr, _, by simp only [Mu.parse, HT.out, HRES.out, HFIN.out], HA1.out, hgl64, rfl, ?_⟩⟩
        · exact (HB.out.setCell (p := ⟨w.heap.size, 0, none⟩) (Nat.le_refl _) _).setCell (p := ⟨w.heap.size + 1, 0, none⟩) (by simp) _
        · refine RuRow.mono (B := w1.heap.size + 1) ?_ (by omega)
          exact HRU.out.same (by rw [x5]; exact Nat.le_refl _) fun k h1 h2 => x4 k (by omega) (by omega)
      · have hn0 : ∀ {P : Prop}, gr ≠ [] → ((gr.length : Int) == 0) = false := fun h => beq_eq_false_iff_ne.2 (by have := List.length_pos_iff.2 h; omega)
        by_cases hB : gr.length = 64 ∧ tq.kind = 1
        · obtain ⟨hB1, hB2⟩ := hB
          have h1 : ((gr.length : Int) == 0) = false := beq_eq_false_iff_ne.2 (by omega)
          have h2 : (tq.kind : Int) = 1 := by omega
          have h3 : (gr.length : Int) = 64 := by omega
          have hfin : RES = .error ⟨2, tq.place⟩ := by
            rw [← HRES2.out]
            simp [Mu.rulesK, Mu.stop, tk0_drop HTQ.out, hB1, hB2]
          have HFIN := Lib.hid hfin
          clear hfin hB1 hB2 hA hn0
          go_wp2_with fail
          refine (rdr_stop w1.heap.size g L i 0 2 tq wr HI.out HTQ.out).mono ?_
          rintro e w2 ⟨⟨v2, rfl, p, hp, rfl, hpb⟩, hb2⟩
          have hbs := HB.out.size
          have hwr := HI.out.lt
          have hg2 := (hb2.block w.heap.size (by omega)).trans HGC.out
          have he2 := (hb2.block (w.heap.size + 1) (by omega)).trans HEC.out
          have HG2 := Lib.hid hg2
          have HE2 := Lib.hid he2
          have HB2 := Lib.hid (HB.out.trans (hb2.mono (by omega)))
          have HPB := Lib.hid hpb
          clear hg2 he2 hb2 hpb
          go_wp2_with fail
          refine leaves_cons (f := 56) (args := #[.pointer (some ⟨w.heap.size, 0, none⟩), .pointer (some ⟨w.heap.size + 1, 0, none⟩)]) (by simp) (by simp [go_sem]) ?_
          refine (catch_fault w.heap.size (w.heap.size + 1) ⟨p, 0, none⟩ _ _ [] _ (cell_at HG2.out 0) (unfrozen_at HG2.out 0) (cell_at HE2.out 0) (unfrozen_at HE2.out 0) (by omega) (by omega)).mono ?_
          rintro ev u' w'' ⟨rfl, rfl, rfl⟩
          obtain ⟨x1, x2, x3, x4, x5⟩ := two_cells HG2.out HE2.out (.slice none 0 0) (.iface 83 (.pointer (some ⟨p, 0, none⟩)))
          refine ⟨.tuple #[.agg #[.slice none 0 0], .iface 83 (.pointer (some ⟨p, 0, none⟩))], by simp [results, Tryz.results28, go_sem, x1, x2, x3], (HB2.out.setCell (p := ⟨w.heap.size, 0, none⟩) (Nat.le_refl _) _).setCell (p := ⟨w.heap.size + 1, 0, none⟩) (by simp) _, .inl ⟨⟨2, tq.place⟩, _, by simp only [Mu.parse, HT.out, HRES.out, HFIN.out], rfl, p, by omega, rfl, (x4 p (by omega) (by omega)).trans HPB.out⟩⟩
        · have hstep : RES = match Mu.ruleOf (L.drop i) with
              | .error e => .error e
              | .ok (r, q) => Mu.rulesK k' (r :: gr.reverse) q := by
            rw [← HRES2.out]
            have e1 : ¬ (gr.reverse.length ≠ 0 ∧ (Mu.tk0 (L.drop i)).kind = 6) := by
              rw [tk0_drop HTQ.out]
              rintro ⟨a, b⟩
              exact hA ⟨fun h => by rw [h] at a; simp at a, b⟩
            have e2 : ¬ (gr.reverse.length = 64 ∧ (Mu.tk0 (L.drop i)).kind = 1) := by
              rw [tk0_drop HTQ.out]
              simpa using hB
            simp only [Mu.rulesK, if_neg e1, if_neg e2]
            rcases Mu.ruleOf (L.drop i) with e | ⟨r, q⟩ <;> rfl
          have HSTEP := Lib.hid hstep
          have hV : (((gr.length : Int) == 0) = true ∧ ((gr.length : Int) == 64) = false ∧ gr.length ≤ 63) ∨ (((gr.length : Int) == 0) = false ∧ ¬ (tq.kind : Int) = 6 ∧ ((gr.length : Int) == 64) = false ∧ gr.length ≤ 63) ∨
              (((gr.length : Int) == 0) = false ∧ ¬ (tq.kind : Int) = 6 ∧ (gr.length : Int) = 64 ∧ ¬ (tq.kind : Int) = 1) := by
            by_cases h0 : gr = []
            · subst h0
              exact .inl ⟨by simp, by simp, by simp⟩
            · have h6 : ¬ (tq.kind : Int) = 6 := fun e => hA ⟨h0, by omega⟩
              by_cases h64 : gr.length = 64
              · exact .inr (.inr ⟨hn0 (P := True) h0, h6, by omega, fun e => hB ⟨h64, by omega⟩⟩)
              · exact .inr (.inl ⟨hn0 (P := True) h0, h6, beq_eq_false_iff_ne.2 (by omega), by omega⟩)
          clear hstep hA hB hn0
          by_cases hk1 : tq.kind = 1
          · have hnx := (HE.out.2 i tq HTQ.out).2.2 (by omega)
            have hLl := HE.out.1
            obtain ⟨tr, htr⟩ : ∃ tr, L[i + 1]? = some tr := ⟨L[i + 1], List.getElem?_eq_some_iff.2 ⟨hnx, rfl⟩⟩
            have htl := (HE.out.2 i tq HTQ.out).1
            have HTR := Lib.hid htr
            have HK1 := Lib.hid hk1
            have hbs := HB.out.size
            have hwr := HI.out.lt
            have hw1s : w.heap.size + 2 ≤ w1.heap.size := hs1
            clear htr hk1
            have hV : (((gr.length : Int) == 0) = true ∧ ((gr.length : Int) == 64) = false ∧ gr.length ≤ 63) ∨ (((gr.length : Int) == 0) = false ∧ ¬ (tq.kind : Int) = 6 ∧ ((gr.length : Int) == 64) = false ∧ gr.length ≤ 63) := by
              rcases hV with h | h | ⟨_, _, _, h⟩
              · exact .inl h
              · exact .inr h
              · exact absurd (by have := HK1.out; omega) h
            rcases hV with ⟨h1, h2, h3⟩ | ⟨h1, h4, h2, h3⟩
            all_goals
              go_wp2_with fail
              refine (rdr_must w1.heap.size g L i 0 tq 1 wr HI.out HTQ.out HK1.out hnx hLl).mono ?_
              rintro e w2 ⟨rfl, hr2, hb2⟩
              have hg2 := hb2.keep HGC.out (by omega)
              have he2 := hb2.keep HEC.out (by omega)
              have hs2 := hb2.size
              have hB2 := HB.out.trans (hb2.below.mono (by omega))
              have HR2 := Lib.hid hr2
              have HG2 := Lib.hid hg2
              have HE2 := Lib.hid he2
              have HRB2 := Lib.hid hb2
              have HB2 := Lib.hid hB2
              have hlg2 := hr2.tok.lt
              clear hr2 hg2 he2 hb2 hB2 h1 h2 c0 c1 f0 f1 t0 t1 t2 t3 t4 t5 t6 gc gf ec ef
              by_cases hk2 : tr.kind = 2
              · have hnx2 := (HE.out.2 (i + 1) tr HTR.out).2.2 (by omega)
                go_wp2_with fail
                refine (rdr_must w1.heap.size g L (i + 1) 0 tr 2 _ (HR2.out.keep (by (repeat' (first | exact Below.refl _ _ | assumption | refine Below.drew ?_ | refine Below.drewN' ?_ _ | refine Below.setCell ?_ (by first | (simp; done) | omega | (simp; omega)) _ | refine Below.alloc ?_ (by first | (simp; done) | omega | (simp; omega)) _ | refine Below.step ?_ (by assumption) (by first | (simp; done) | omega | (simp; omega)))))) HTR.out hk2 hnx2 hLl).mono ?_
                rintro e w3 ⟨rfl, hr3, hb3⟩
                have hg3 := hb3.keep ((Below.heap_alloc _ _ _ (by omega)).trans HG2.out) (by omega)
                have he3 := hb3.keep ((Below.heap_alloc _ _ _ (by omega)).trans HE2.out) (by omega)
                have hp3 := hb3.keep (last_block w2 _) (by omega)
                have hs3 : w2.heap.size + 1 ≤ w3.heap.size := by have := hb3.size; simpa using this
                have hRB3 := (HRB2.out.alloc (by omega) _).trans hb3
                have hB3 := HB.out.trans (hRB3.below.mono (by omega))
                obtain ⟨y0, y1, y2, y3, y4, y5, y6⟩ := (Row.refl hp3).cells7
                have gc := cell_at hg3 0
                have gf := unfrozen_at hg3 0
                have HR3 := Lib.hid hr3
                have HG3 := Lib.hid hg3
                have HE3 := Lib.hid he3
                have HP3 := Lib.hid hp3
                have HRB3 := Lib.hid hRB3
                have HB3 := Lib.hid hB3
                have HK2 := Lib.hid hk2
                clear hr3 hg3 he3 hp3 hb3 hRB3 hB3 hk2
                have hru : Mu.ruleOf (L.drop i) = match Mu.choiceD 24 (L.drop (i + 2)) with
                    | .error e => .error e
                    | .ok (n, q) => .ok (⟨tq.text, n, tq.place⟩, q) := by
                  simp only [Mu.ruleOf, must_good L i tq 1 HTQ.out HK1.out, must_good L (i + 1) tr 2 HTR.out HK2.out]
                  rw [show i + 1 + 1 = i + 2 from rfl]
                  rcases Mu.choiceD 24 (List.drop (i + 2) L) with e | ⟨n, q⟩ <;> rfl
                rcases hch : Mu.choiceD 24 (L.drop (i + 2)) with f | ⟨nd, q⟩
                · have hfin : RES = .error f := by
                    rw [HSTEP.out, hru, hch]
                  have HFIN := Lib.hid hfin
                  have HCH := Lib.hid hch
                  clear hfin hch hru
                  go_wp2_with fail
                  refine wp_region_inv (by kernel_rfl) (PsFr w.heap.size w2.heap.size w1.heap.size [{ target := .fn (.func 56) #[.pointer (some ⟨w.heap.size, 0, none⟩), .pointer (some ⟨w.heap.size + 1, 0, none⟩)], args := #[] }] w3.drew) ⟨rfl, rfl, rfl, rfl, rfl, rfl, rfl, rfl, fun h => by simp at h, fun h => by simp at h, fun h => by simp at h, fun h => by simp at h, fun j hj => by simp [Array.getElem?_replicate]; split <;> rfl⟩ ?_ ?_
                  · intro listed a wz hz i' hr
                    have hlt13 : i' < 13 := (ready_sub hr).1
                    have hw := hz.world
                    subst hw
                    have s2 := hz.s2
                    have s5 := hz.s5
                    have s6 := hz.s6
                    obtain ⟨hnl, o, ho, hdep⟩ := mem_ready.1 hr
                    obtain rfl | rfl | rfl | rfl | rfl | rfl | rfl | rfl | rfl | rfl | rfl | rfl | rfl : i' = 0 ∨ i' = 1 ∨ i' = 2 ∨ i' = 3 ∨ i' = 4 ∨ i' = 5 ∨ i' = 6 ∨ i' = 7 ∨ i' = 8 ∨ i' = 9 ∨ i' = 10 ∨ i' = 11 ∨ i' = 12 := by omega
                    · refine wpOp_of rfl (fun K hK => ?_)
                      go_simp
                      exact hK _ _ (hz.put 0 54 _ (by omega) rfl (fun _ => rfl) (fun h => by omega) (fun h => by omega) (fun h => by omega))
                    · simp at ho
                      subst ho
                      have sx := hz.l0 (hdep { on := 0, ground := .data } (by simp) rfl)
                      refine wpOp_of rfl (fun K hK => ?_)
                      go_simp
                      exact hK _ _ (hz.put 1 55 _ (by omega) rfl (fun h => by omega) (fun h => by omega) (fun h => by omega) (fun h => by omega))
                    · refine wpOp_of rfl (fun K hK => ?_)
                      go_simp
                      exact hK _ _ (hz.put 2 56 _ (by omega) rfl (fun h => by omega) (fun _ => rfl) (fun h => by omega) (fun h => by omega))
                    · simp at ho
                      subst ho
                      have sx := hz.l2 (hdep { on := 2, ground := .data } (by simp) rfl)
                      refine wpOp_of rfl (fun K hK => ?_)
                      go_simp
                      exact hK _ _ (hz.put 3 57 _ (by omega) rfl (fun h => by omega) (fun h => by omega) (fun h => by omega) (fun h => by omega))
                    · refine wpOp_of rfl (fun K hK => ?_)
                      go_simp
                      exact hK _ _ (hz.put 4 58 _ (by omega) rfl (fun h => by omega) (fun h => by omega) (fun _ => rfl) (fun h => by omega))
                    · simp at ho
                      subst ho
                      have sx := hz.l4 (hdep { on := 4, ground := .data } (by simp) rfl)
                      refine wpOp_of rfl (fun K hK => ?_)
                      go_simp
                      exact hK _ _ (hz.put 5 59 _ (by omega) rfl (fun h => by omega) (fun h => by omega) (fun h => by omega) (fun h => by omega))
                    · refine wpOp_of rfl (fun K hK => ?_)
                      go_simp
                      exact hK _ _ (hz.put 6 60 _ (by omega) rfl (fun h => by omega) (fun h => by omega) (fun h => by omega) (fun _ => rfl))
                    · simp at ho
                      subst ho
                      have sx := hz.l6 (hdep { on := 6, ground := .data } (by simp) rfl)
                      refine wpOp_of rfl (fun K hK => ?_)
                      go_simp
                      refine (ch_ok 24 0 rfl w1.heap.size g L (i + 2) _ (HR3.out.keep ((Below.refl _ _).drew)) HE.out hnx2).mono ?_
                      rintro e w4 ⟨hb4, hcs⟩
                      rcases hcs with ⟨f', hf, v4, rfl, p, hp, rfl, hpb⟩ | ⟨nd, v4, i3, hres, _⟩
                      · have hbs3 := hb4.size
                        simp at hbs3
                        have hg4 := hb4.keep (k := w.heap.size) (show w3.drew.heap[w.heap.size]? = _ from HG3.out) (by omega)
                        have he4 := hb4.keep (k := w.heap.size + 1) (show w3.drew.heap[w.heap.size + 1]? = _ from HE3.out) (by omega)
                        have HG4 := Lib.hid hg4
                        have HE4 := Lib.hid he4
                        have HB4 := Lib.hid (HB.out.trans (((HRB3.out.drew).trans hb4).below.mono (by omega)))
                        have HPB := Lib.hid hpb
                        have HZ := Lib.hid hz
                        have hp' : w3.heap.size ≤ p := hp
                        clear hg4 he4 hb4 hpb hz s2 s5 s6 sx hdep hr hnl
                        go_wp2_with fail
                        show Leaves _ _ a.tmps _ a.defers _ _
                        rw [HZ.out.defers]
                        refine leaves_cons (f := 56) (args := #[.pointer (some ⟨w.heap.size, 0, none⟩), .pointer (some ⟨w.heap.size + 1, 0, none⟩)]) (by simp) (by simp [go_sem]) ?_
                        refine (catch_fault w.heap.size (w.heap.size + 1) ⟨p, 0, none⟩ _ _ [] _ (cell_at HG4.out 0) (unfrozen_at HG4.out 0) (cell_at HE4.out 0) (unfrozen_at HE4.out 0) (by omega) (by omega)).mono ?_
                        rintro ev u' w'' ⟨rfl, rfl, rfl⟩
                        obtain ⟨x1, x2, x3, x4, x5⟩ := two_cells HG4.out HE4.out (.slice none 0 0) (.iface 83 (.pointer (some ⟨p, 0, none⟩)))
                        have s2 := HZ.out.s2
                        have s3 := HZ.out.s3
                        have hff : f' = f := by
                          rw [HCH.out] at hf
                          cases hf
                          rfl
                        subst hff
                        refine ⟨.tuple #[.agg #[.slice none 0 0], .iface 83 (.pointer (some ⟨p, 0, none⟩))], by simp [results, Tryz.results28, go_sem, x1, x2, x3, s2, s3], (HB4.out.setCell (p := ⟨w.heap.size, 0, none⟩) (Nat.le_refl _) _).setCell (p := ⟨w.heap.size + 1, 0, none⟩) (by simp) _, .inl ⟨_, _, by simp only [Mu.parse, HT.out, HRES.out, HFIN.out], rfl, p, by omega, rfl, (x4 p (by omega) (by omega)).trans HPB.out⟩⟩
                      · rw [HCH.out] at hres
                        cases hres
                    · simp at ho
                      subst ho
                      have h9 := hdep { on := 7, ground := .data } (by simp) rfl
                      rw [hz.late 7 (by omega)] at h9
                      cases h9
                    · simp at ho
                      subst ho
                      have h9 := hdep { on := 8, ground := .data } (by simp) rfl
                      rw [hz.late 8 (by omega)] at h9
                      cases h9
                    · simp at ho
                      subst ho
                      have h9 := hdep { on := 9, ground := .data } (by simp) rfl
                      rw [hz.late 9 (by omega)] at h9
                      cases h9
                    · simp at ho
                      subst ho
                      have h9 := hdep { on := 10, ground := .phase } (by simp) rfl
                      rw [hz.late 10 (by omega)] at h9
                      cases h9
                    · simp at ho
                      subst ho
                      have h9 := hdep { on := 11, ground := .data } (by simp) rfl
                      rw [hz.late 11 (by omega)] at h9
                      cases h9
                  · intro listed a wz hz hr
                    exfalso
                    have h6 := getD_in hz.lsize (by omega) (not_ready hr 6 _ rfl (fun e he _ => by simp at he))
                    have h7 := getD_in hz.lsize (by omega) (not_ready hr 7 _ rfl (fun e he _ => by
                      simp at he
                      subst he
                      exact h6))
                    rw [hz.late 7 (by omega)] at h7
                    cases h7
                · rw [hch] at hru
                  have HRU2 := Lib.hid hru
                  have HCH := Lib.hid hch
                  clear hch hru
                  obtain ⟨i0, hti, hz0, hz1, hz2⟩ := info_parts Tryz.infoRule
                  go_wp2_with fail
                  obtain ⟨vs, hvl, hown, hvr⟩ := HRU.out
                  have hvn : ∀ k, k < w1.heap.size + 1 → some k ≠ (Value.slice av gr.length cv).ownBlock := fun k hk e => by have := (hown.lt k e.symm).1; omega
                  have hvw : (Value.slice av gr.length cv).ownBlock ≠ some w1.heap.size := fun e => by have := (hown.lt _ e).1; omega
                  have hTG : w2.heap.size ≠ w.heap.size := by omega
                  have HVT : Hid (some w2.heap.size ≠ (Value.slice av gr.length cv).ownBlock) := Lib.hid fun e => by have := (hown.lt _ e.symm).2; omega
                  have HOWN := Lib.hid hown
                  have HVR := Lib.hid hvr
                  have HVN := Lib.hid hvn
                  clear hown hvr hvn
                  have hvn := HVN.out
                  clear HVN
                  refine Code.wp_mono only_of ?_
                  go_region_law
                    (first
                      | (go_simp; go_at_call 59; refine (ch_ok 24 0 rfl w1.heap.size g L (i + 2) _ (HR3.out.keep ((Below.refl _ _).drew)) HE.out hnx2).mono ?_; rintro e w4 ⟨hb4, hcs⟩; obtain ⟨nd', nv, i3, hres, hi3, hi3l, rfl, hrn, hr4⟩ := hcs.resolve_left (fun h => by obtain ⟨f', hf', _⟩ := h; rw [HCH.out] at hf'; cases hf'); obtain ⟨a4, sb4, off4, nc4, C4, hv4, _, htl4⟩ := hrn.open; subst hv4; have hs4 : w3.heap.size ≤ w4.heap.size := hb4.size; have hGl : w.heap.size < w4.heap.size := (by omega); have hTl : w2.heap.size < w4.heap.size := (by omega); have hg4 := hb4.keep (k := w.heap.size) (show w3.drew.heap[w.heap.size]? = _ from HG3.out) (by omega); have he4 := hb4.keep (k := w.heap.size + 1) (show w3.drew.heap[w.heap.size + 1]? = _ from HE3.out) (by omega); have hp4 := hb4.keep (k := w2.heap.size) (show w3.drew.heap[w2.heap.size]? = _ from HP3.out) (by omega); obtain ⟨e0, e1, e2, e3, e4, e5, e6⟩ := (Row.refl hp4).cells7; have d0 := cell_at hg4 0; have df := unfrozen_at hg4 0; have HRES4 := Lib.hid hres; have HRN4 := Lib.hid hrn; have HR4 := Lib.hid hr4; have HG4 := Lib.hid hg4; have HE4 := Lib.hid he4; have HRB4 := Lib.hid ((HRB3.out.drew).trans hb4); clear hres hrn hr4 hg4 he4 hb4 hp4 hcs; try (go_wp2_with fail))
                      | (refine step_append_lies _ (by rfl) _ _ 22 (by rfl) (w1.heap.size + 1) 60 i0 _ 10 112 Tryz.underlying22 hti hz0 hz1 hz2 (by rfl) (by decide) (.slice av gr.length cv) gr.length (cellsOf vs) (by rfl) ((HRB4.out.owns HOWN.out hvw).alloc _) ⟨w4.heap.size, 0, none⟩ 1 1 [.string (ba tq.text), .int .i64 nd'.kind, .string (ba nd'.text), .int .u64 (nd'.cls.a.toNat : Int), .int .u64 (nd'.cls.b.toNat : Int), .int .u64 (nd'.cls.c.toNat : Int), .int .u64 (nd'.cls.d.toNat : Int), .slice a4 nd'.subs.length nc4, .int .i64 nd'.place, .int .i64 (tq.place : Int)] (by rfl) (by rfl) (World.news_of_block (new_at _ _ _ (by simp))) (by simp [Value.oneCell']) (by decide) (by unfold maxLen; omega) (by omega) (by simp; omega) (w4.heap.size + 1) (by simp) ?_; intro g5 cap5 w5 hown5 hgrow5 hat5 hlt5; have hg5 := (hgrow5.block w.heap.size (by simp; omega) (hvn _ (by omega))).trans ((Below.heap_alloc _ _ _ (by omega)).trans HG4.out); have k0 := cell_at hg5 0; have kf := unfrozen_at hg5 0; have HOWN5 := Lib.hid hown5; have HGR5 := Lib.hid hgrow5; have HAT5 := Lib.hid hat5; have HG5 := Lib.hid hg5; have hTv : some w2.heap.size ≠ (Value.slice av gr.length cv).ownBlock := HVT.out; have u1 := (hgrow5.block w2.heap.size (by simp; omega) hTv).trans (Below.heap_alloc _ _ _ hTl); have u1c : ∀ o, w5.cell? ⟨w2.heap.size, o, none⟩ = w4.cell? ⟨w2.heap.size, o, none⟩ := (fun o => World.cell?_of_block (a := ⟨w2.heap.size, o, none⟩) u1); have u2 := (u1c 1).trans e1; have u3 := (u1c 6).trans e6; clear u1 u1c hTv; clear hown5 hgrow5 hat5 hg5))
                  all_goals
                    simp only [onlyNormal]
                    go_wp2_with fail
                    have hq : nd = nd' ∧ q = L.drop i3 := by
                      have := HRES4.out
                      rw [HCH.out] at this
                      cases this
                      exact ⟨rfl, rfl⟩
                    obtain ⟨rfl, rfl⟩ := hq
                    have hrk : Mu.rulesK k' (⟨tq.text, nd, tq.place⟩ :: gr.reverse) (L.drop i3) = RES := by
                      rw [HSTEP.out, HRU2.out]
                    have hcl := ps_close HB.out HRB4.out (by omega) hgl (by omega) HG5.out HE4.out HR4.out hi3l hvl HVR.out (fun j hj => HOWN.out.lt j hj) HRN4.out (by simp; omega) HGR5.out HAT5.out HOWN5.out h3 htl hrk (by omega)
                    go_roundw
                    case rel => exact hcl.1
                    case measure =>
                      rw [hcl.2.left, HI.out.left]
                      omega
              · have hfin : RES = .error (Mu.wrong (L.drop (i + 1))) := by
                  rw [HSTEP.out]
                  simp [Mu.ruleOf, must_good L i tq 1 HTQ.out HK1.out, must_bad L (i + 1) tr 2 HTR.out hk2]
                have HFIN := Lib.hid hfin
                have HK2 := Lib.hid hk2
                clear hfin hk2
                go_wp2_with fail
                refine (rdr_must_bad w1.heap.size g L (i + 1) 0 tr 2 _ (HR2.out.keep (by (repeat' (first | exact Below.refl _ _ | assumption | refine Below.drew ?_ | refine Below.drewN' ?_ _ | refine Below.setCell ?_ (by first | (simp; done) | omega | (simp; omega)) _ | refine Below.alloc ?_ (by first | (simp; done) | omega | (simp; omega)) _ | refine Below.step ?_ (by assumption) (by first | (simp; done) | omega | (simp; omega)))))) HTR.out HK2.out).mono ?_
                rintro e w3 ⟨⟨v2, rfl, p, hp, rfl, hpb⟩, hb3⟩
                have hp' : w2.heap.size + 1 ≤ p := by simpa using hp
                have hg3 := (hb3.block w.heap.size (by simp; omega)).trans ((Below.heap_alloc _ _ _ (by omega)).trans HG2.out)
                have he3 := (hb3.block (w.heap.size + 1) (by simp; omega)).trans ((Below.heap_alloc _ _ _ (by omega)).trans HE2.out)
                have HG3 := Lib.hid hg3
                have HE3 := Lib.hid he3
                have HB3 := Lib.hid ((HB2.out.alloc (by omega) _).trans (hb3.mono (by simp; omega)))
                have HPB := Lib.hid hpb
                clear hg3 he3 hb3 hpb
                go_wp2_with fail
                refine leaves_cons (f := 56) (args := #[.pointer (some ⟨w.heap.size, 0, none⟩), .pointer (some ⟨w.heap.size + 1, 0, none⟩)]) (by simp) (by simp [go_sem]) ?_
                refine (catch_fault w.heap.size (w.heap.size + 1) ⟨p, 0, none⟩ _ _ [] _ (cell_at HG3.out 0) (unfrozen_at HG3.out 0) (cell_at HE3.out 0) (unfrozen_at HE3.out 0) (by omega) (by omega)).mono ?_
                rintro ev u' w'' ⟨rfl, rfl, rfl⟩
                obtain ⟨x1, x2, x3, x4, x5⟩ := two_cells HG3.out HE3.out (.slice none 0 0) (.iface 83 (.pointer (some ⟨p, 0, none⟩)))
                refine ⟨.tuple #[.agg #[.slice none 0 0], .iface 83 (.pointer (some ⟨p, 0, none⟩))], by simp [results, Tryz.results28, go_sem, x1, x2, x3], (HB3.out.setCell (p := ⟨w.heap.size, 0, none⟩) (Nat.le_refl _) _).setCell (p := ⟨w.heap.size + 1, 0, none⟩) (by simp) _, .inl ⟨_, _, by simp only [Mu.parse, HT.out, HRES.out, HFIN.out], rfl, p, by omega, rfl, (x4 p (by omega) (by omega)).trans HPB.out⟩⟩
          · have hfin : RES = .error (Mu.wrong (L.drop i)) := by
              rw [HSTEP.out]
              simp [Mu.ruleOf, must_bad L i tq 1 HTQ.out hk1]
            have HFIN := Lib.hid hfin
            have HK1 := Lib.hid hk1
            clear hfin hk1
            rcases hV with ⟨h1, h2, h3⟩ | ⟨h1, h2, h3, h4⟩ | ⟨h1, h2, h3, h4⟩
            all_goals
              go_wp2_with fail
              refine (rdr_must_bad w1.heap.size g L i 0 tq 1 wr HI.out HTQ.out HK1.out).mono ?_
              rintro e w2 ⟨⟨v2, rfl, p, hp, rfl, hpb⟩, hb2⟩
              have hbs := HB.out.size
              have hwr := HI.out.lt
              have hg2 := (hb2.block w.heap.size (by omega)).trans HGC.out
              have he2 := (hb2.block (w.heap.size + 1) (by omega)).trans HEC.out
              have HG2 := Lib.hid hg2
              have HE2 := Lib.hid he2
              have HB2 := Lib.hid (HB.out.trans (hb2.mono (by omega)))
              have HPB := Lib.hid hpb
              clear hg2 he2 hb2 hpb
              go_wp2_with fail
              refine leaves_cons (f := 56) (args := #[.pointer (some ⟨w.heap.size, 0, none⟩), .pointer (some ⟨w.heap.size + 1, 0, none⟩)]) (by simp) (by simp [go_sem]) ?_
              refine (catch_fault w.heap.size (w.heap.size + 1) ⟨p, 0, none⟩ _ _ [] _ (cell_at HG2.out 0) (unfrozen_at HG2.out 0) (cell_at HE2.out 0) (unfrozen_at HE2.out 0) (by omega) (by omega)).mono ?_
              rintro ev u' w'' ⟨rfl, rfl, rfl⟩
              obtain ⟨x1, x2, x3, x4, x5⟩ := two_cells HG2.out HE2.out (.slice none 0 0) (.iface 83 (.pointer (some ⟨p, 0, none⟩)))
              refine ⟨.tuple #[.agg #[.slice none 0 0], .iface 83 (.pointer (some ⟨p, 0, none⟩))], by simp [results, Tryz.results28, go_sem, x1, x2, x3], (HB2.out.setCell (p := ⟨w.heap.size, 0, none⟩) (Nat.le_refl _) _).setCell (p := ⟨w.heap.size + 1, 0, none⟩) (by simp) _, .inl ⟨_, _, by simp only [Mu.parse, HT.out, HRES.out, HFIN.out], rfl, p, by omega, rfl, (x4 p (by omega) (by omega)).trans HPB.out⟩⟩

end Go.Proofs.YtdmhjnnogcpccaaGreatDoor
end
