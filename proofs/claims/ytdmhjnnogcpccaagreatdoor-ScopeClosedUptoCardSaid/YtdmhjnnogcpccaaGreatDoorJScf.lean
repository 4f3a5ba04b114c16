/- scope.uses. scope.Uses. -/
import Derived.Test.YtdmhjnnogcpccaaGreatDoorJSca
import Derived.Test.YtdmhjnnogcpccaaGreatDoorJScd
import Derived.Test.YtdmhjnnogcpccaaGreatDoorJMir
section
namespace Go.Proofs.YtdmhjnnogcpccaaGreatDoor
open Go.RowKit Go.Maps
open Mu (Cl Bs Nd Ru Gr Tk)
set_option linter.unusedSimpArgs false
set_option linter.unusedVariables false

attribute [local irreducible] wpQuiet wpStill
attribute [local go_sem ↓] Go.wp_at_zero Go.wp_at_succ

/-- the place that a name has in a map of places; 0: none -/
def placeOf (g : Gr) (s : Bs) : Nat := (Mu.find g s).getD 0

theorem placeOf_lt (g : Gr) (s : Bs) (h : g.length ≤ 64) : placeOf g s < 64 := by
  unfold placeOf
  cases hf : Mu.find g s with
  | none => simp
  | some i =>
    have := Mu.find_lt hf
    simp
    omega

theorem PlMap.at {m : Nat} {g : Gr} {w : World} {n : Nat} {D : DataW Unit} (hD : ∀ name : Bs, Maps.has D (.string name) = (Mu.find g name).isSome ∧ ∀ i, Mu.find g name = some i → D.atKey (.string name) (.lit (.int .i64 0)) = .lit (.int .i64 (i : Int))) (s : Bs) :
    D.atKey (.string s) (.lit (.int .i64 0)) = .lit (.int .i64 (placeOf g s : Int)) := by
  have h := hD s
  unfold placeOf
  cases hf : Mu.find g s with
  | none =>
    rw [hf] at h
    exact atKey_of_not_has h.1 _
  | some i => exact h.2 i hf

/-- what uses$1 finds: the seen map's variable, the seen map, the places' variable, the places -/
structure UsJ (g : Gr) (A sb B m : Nat) (l : List Nat) (w : World) : Prop where
  var : w.heap[A]? = some (.cells #[.map (some sb)] 92)
  seen : SeenMap sb l w
  row : w.heap[B]? = some (.cells #[.map (some m)] 89)
  map : PlMap m g w

theorem UsJ.keep {g : Gr} {A sb B m : Nat} {l : List Nat} {w w' : World} (h : UsJ g A sb B m l w) (hk : ∀ k, k < w.heap.size → w'.heap[k]? = w.heap[k]?) : UsJ g A sb B m l w' :=
  ⟨(hk A (lt_of_some h.var)).trans h.var, h.seen.keep (hk sb h.seen.lt), (hk B (lt_of_some h.row)).trans h.row, h.map.keep (hk m h.map.lt)⟩

theorem UsJ.below {g : Gr} {A sb B m : Nat} {l : List Nat} {w w' : World} (h : UsJ g A sb B m l w) (hb : Below w.heap.size w w') : UsJ g A sb B m l w' := h.keep fun k hk => hb.block k hk

def usStep (g : Gr) : List Nat → Bs × Int → List Nat × Bool := fun s x => (s ++ [placeOf g x.1], true)

theorem goR_us (g : Gr) : ∀ (l : List (Bs × Int)) (s : List Nat), goR (usStep g) l s = (s ++ l.map (fun x => placeOf g x.1), true)
  | [], s => by simp [goR]
  | x :: l, s => by
    simp only [goR, usStep, if_pos]
    rw [goR_us g l]
    simp

theorem Ch.grown {M : Nat → Prop} {w w' : World} {r : Nat} (h : w.grownBy w' (some r)) (hr : M r) : Ch M w w' :=
  ⟨h.os, h.tape, h.output, h.size, fun k hk hm => h.block k hk (fun e => by cases e; exact hm hr)⟩

set_option maxHeartbeats 4000000 in
set_option maxRecDepth 20000 in
theorem uses1_c (g : Gr) (hg : g.length ≤ 64) (A sb B m : Nat) (hA : A ≠ sb) (hB : B ≠ sb) (hm : m ≠ sb) : YieldC 72 #[.pointer (some ⟨A, 0, none⟩), .pointer (some ⟨B, 0, none⟩)] (· = sb) (usStep g) (fun l w => UsJ g A sb B m l w) := by
  intro s w n v F hS hM hR hF hk
  obtain ⟨a, b, off, cap, C, hv, hns, htl⟩ := hR.open
  cases n with
  | mk k t c ns p =>
  simp only [Nd.kind, Nd.text, Nd.cls, Nd.subs, Nd.place] at hv hns htl hk ⊢
  subst hv hk
  have hb1 : Below w.heap.size w (w.alloc (.cells (ndv 5 t c (.slice a ns.length cap) p).cells 30)) := by (repeat' (first | exact Below.refl _ _ | assumption | refine Below.drew ?_ | refine Below.drewN' ?_ _ | refine Below.setCell ?_ (by first | (simp; done) | omega | (simp; omega)) _ | refine Below.alloc ?_ (by first | (simp; done) | omega | (simp; omega)) _ | refine Below.step ?_ (by assumption) (by first | (simp; done) | omega | (simp; omega))))
  have hS1 := hS.below hb1
  have hAl : A < w.heap.size := lt_of_some hS.var
  have hBl : B < w.heap.size := lt_of_some hS.row
  have hsl : sb < w.heap.size := hS.seen.lt
  have bc : w.cell? ⟨B, 0, none⟩ = some (.map (some m)) := cell_at hS.row 0
  have ac : w.cell? ⟨A, 0, none⟩ = some (.map (some sb)) := cell_at hS.var 0
  obtain ⟨n, D, hnl, hown, hmap, hD⟩ := hS1.map
  obtain ⟨h0, E, hownE, hmapE, hkE, hE⟩ := hS1.seen
  have hlen : (ba t).size ≤ maxLen := by show t.length ≤ _; unfold maxLen; omega
  have hpl := placeOf_lt g t hg
  have HAT := Lib.hid (PlMap.at (m := m) (w := w) (n := n) hD t)
  have HOWN := Lib.hid hown
  have HOWNE := Lib.hid hownE
  have HE := Lib.hid hE
  have HKE := Lib.hid hkE
  have HZ := Lib.hid h0
  have HS := Lib.hid hS1
  have HPL := Lib.hid hpl
  generalize hpo : placeOf g t = po at HAT hpl HPL
  have HPO := Lib.hid hpo
  clear hR hF hM hns hown hD hS hS1 hb1 hownE hE hkE h0 hpo
  go_enter Tryz.func72, Tryz.ntmps72
  go_wp2_with (first
    | (at_lookup; refine wpList_lookup_own_int _ rfl _ _ 89 rfl 9 3 .i64 Tryz.keyStr Tryz.underlying89 Tryz.underlying3 (Tryz.zeroInt _) m n D rfl HOWN.out _ _ rfl (WideMaps.keyOf_string_mk Tryz.underlying9 hlen) ?_; intro c hat hwc; obtain rfl : c = (po : Int) := (by have h1 := hat.symm.trans HAT.out; simpa using h1); clear hat hwc)
    | (at_mapUpdate; refine wpList_mapUpdate_own _ rfl _ _ _ 92 rfl 3 4 Tryz.keyInt Tryz.underlying92 _ sb 64 E rfl HOWNE.out (by unfold maxLen; omega) _ _ _ rfl rfl (Maps.keyOf_int_mk Tryz.underlying3 (WalkArith.wf_i64 (by omega))) _ [] (plainElem_bool Tryz.underlying4 true) ?_; intro w5 hown5 hgr5; have HOWN5 := Lib.hid hown5; have HGR5 := Lib.hid hgr5; clear hown5 hgr5))
  go_ret
  have hg5 := HGR5.out
  have hs5 := hg5.size
  simp at hs5
  refine ⟨rfl, ?_, ((Ch.of_below ((Below.refl _ _).alloc (Nat.le_refl _) _)).trans (Ch.grown (M := fun x => x = sb) hg5 rfl))⟩
  have hstep : (usStep g s (t, p)).1 = s ++ [po] := by simp [usStep, HPO.out]
  rw [hstep]
  exact ⟨(hg5.block A (by simp; omega) (by simpa using hA)).trans HS.out.var, SeenMap.put HZ.out hmapE HKE.out HE.out HPL.out HOWN5.out, (hg5.block B (by simp; omega) (by simpa using hB)).trans HS.out.row, HS.out.map.keep (hg5.block m HS.out.map.lt (by simpa using hm))⟩

/-- a row of places -/
def IRow (w : World) (F : Nat → Prop) (v : Value) (l : List Nat) : Prop := ∃ (a : Option Addr) (b off cap : Nat), v = .slice a l.length cap ∧ (l.length = 0 ∨ a = some ⟨b, off, none⟩) ∧ (0 < l.length → F b) ∧ l.length ≤ 64 ∧ ∀ i (h : i < l.length), w.cell? ⟨b, off + i, none⟩ = some (.int .i64 (l[i] : Int))

theorem IRow.keep {w w' : World} {F : Nat → Prop} {v : Value} {l : List Nat} (h : IRow w F v l) (hk : Keeps F w w') : IRow w' F v l := by
  obtain ⟨a, b, off, cap, h1, h2, h3, h4, h5⟩ := h
  exact ⟨a, b, off, cap, h1, h2, h3, h4, fun i hi => by rw [hk.cell (h3 (by omega))]; exact h5 i hi⟩

theorem IRow.mono {w : World} {F F' : Nat → Prop} {v : Value} {l : List Nat} (h : IRow w F v l) (hk : ∀ k, F k → F' k) : IRow w F' v l := by
  obtain ⟨a, b, off, cap, h1, h2, h3, h4, h5⟩ := h
  exact ⟨a, b, off, cap, h1, h2, fun h => hk _ (h3 h), h4, h5⟩

theorem IRow.of_own {B : Nat} {w : World} {v : Value} {l : List Nat} (hl : l.length ≤ 64) (h : w.ownsRow B 3 1 v l.length (l.map fun (i : Nat) => Value.int .i64 (i : Int))) : IRow w (fun k => B ≤ k ∧ k < w.heap.size) v l := by
  obtain ⟨_, ⟨rfl, h0⟩ | ⟨g, cap, cur, rfl, hb, hg, h1, h2, h3, h4⟩⟩ := h
  · exact ⟨none, 0, 0, 0, by rw [h0], .inl h0, fun h => by omega, hl, fun i hi => by omega⟩
  · refine ⟨_, g, 0, cap, rfl, .inr rfl, fun _ => ⟨hb, lt_of_some hg⟩, hl, fun i hi => ?_⟩
    rw [cell_at hg]
    have := congrArg (fun z : List Value => z[i]?) h4
    simp only [Nat.mul_one, List.getElem?_map] at this
    rw [List.getElem?_take_of_lt (by omega), List.getElem?_eq_getElem hi] at this
    simpa using this

theorem uses_row (g : Gr) (n : Nd) (h : ∀ x ∈ Mu.refs n, ∃ i, Mu.find g x.1 = some i) : rowOf g.length ((Mu.refs n).map fun x => placeOf g x.1) = Mu.uses g n := by
  unfold rowOf Mu.uses
  refine List.filter_congr fun i _ => ?_
  rw [Bool.eq_iff_iff, List.any_eq_true]
  simp only [List.contains_iff_mem, List.mem_map]
  constructor
  · rintro ⟨x, hx, rfl⟩
    obtain ⟨k, hk⟩ := h x hx
    exact ⟨x, hx, by simp [placeOf, hk]⟩
  · rintro ⟨x, hx, hi⟩
    exact ⟨x, hx, by rw [beq_iff_eq] at hi; simp [placeOf, hi]⟩

theorem uses_length (g : Gr) (n : Nd) : (Mu.uses g n).length ≤ g.length := by
  unfold Mu.uses
  have := List.length_filter_le (fun i => (Mu.refs n).any fun x => Mu.find g x.1 == some i) (List.range g.length)
  simpa using this

set_option maxHeartbeats 8000000 in
set_option maxRecDepth 20000 in
theorem scope_uses (g : Gr) (hg : g.length ≤ 64) (m : Nat) (n : Nd) (v : Value) (F : Nat → Prop) (w : World) (hm : PlMap m g w) (hR : RN w F v n) (hF : ∀ k, F k → k < w.heap.size) (hr : ∀ x ∈ Mu.refs n, ∃ i, Mu.find g x.1 = some i) :
    Calls Tryz.prog 44 #[.map (some m), v] w fun e w' => ∃ x, e = .returned x ∧ IRow w' (fun k => w.heap.size ≤ k ∧ k < w'.heap.size) x (Mu.uses g n) ∧ Below w.heap.size w w' := by
  have hmm := @run_makeMap Tryz.prog
  have hml := hm.lt
  obtain ⟨a, b, off, cap, C, hv, hns, htl⟩ := hR.open
  subst hv
  have hb1 : Below w.heap.size w ((w.alloc (.cells #[.map (some m)] 89)).alloc (.cells (ndv n.kind n.text n.cls (.slice a n.subs.length cap) n.place).cells 30)) := by (repeat' (first | exact Below.refl _ _ | assumption | refine Below.drew ?_ | refine Below.drewN' ?_ _ | refine Below.setCell ?_ (by first | (simp; done) | omega | (simp; omega)) _ | refine Below.alloc ?_ (by first | (simp; done) | omega | (simp; omega)) _ | refine Below.step ?_ (by assumption) (by first | (simp; done) | omega | (simp; omega))))
  have HM := Lib.hid hm
  have HRN := Lib.hid hR
  have HF := Lib.hid hF
  have HRR := Lib.hid hr
  have HB1 := Lib.hid hb1
  have hb4 : Below w.heap.size w ((((w.alloc (.cells #[.map (some m)] 89)).alloc (.cells (ndv n.kind n.text n.cls (.slice a n.subs.length cap) n.place).cells 30)).alloc (.map #[] 0)).alloc (.cells #[.map (some (w.heap.size + 1 + 1))] 92)) := by (repeat' (first | exact Below.refl _ _ | assumption | refine Below.drew ?_ | refine Below.drewN' ?_ _ | refine Below.setCell ?_ (by first | (simp; done) | omega | (simp; omega)) _ | refine Below.alloc ?_ (by first | (simp; done) | omega | (simp; omega)) _ | refine Below.step ?_ (by assumption) (by first | (simp; done) | omega | (simp; omega))))
  have hJ0 : UsJ g (w.heap.size + 1 + 1 + 1) (w.heap.size + 1 + 1) w.heap.size m [] ((((w.alloc (.cells #[.map (some m)] 89)).alloc (.cells (ndv n.kind n.text n.cls (.slice a n.subs.length cap) n.place).cells 30)).alloc (.map #[] 0)).alloc (.cells #[.map (some (w.heap.size + 1 + 1))] 92)) := by
    refine ⟨new_at _ _ _ (by simp), ?_, ?_, hm.keep ?_⟩
    · have h := SeenMap.made ((w.alloc (.cells #[.map (some m)] 89)).alloc (.cells (ndv n.kind n.text n.cls (.slice a n.subs.length cap) n.place).cells 30))
      have e : ((w.alloc (.cells #[.map (some m)] 89)).alloc (.cells (ndv n.kind n.text n.cls (.slice a n.subs.length cap) n.place).cells 30)).heap.size = w.heap.size + 1 + 1 := by simp
      rw [e] at h
      exact h.keep (Below.heap_alloc _ _ _ (by simp))
    · have h1 : Below (w.heap.size + 1) (w.alloc (.cells #[.map (some m)] 89)) ((((w.alloc (.cells #[.map (some m)] 89)).alloc (.cells (ndv n.kind n.text n.cls (.slice a n.subs.length cap) n.place).cells 30)).alloc (.map #[] 0)).alloc (.cells #[.map (some (w.heap.size + 1 + 1))] 92)) := by (repeat' (first | exact Below.refl _ _ | assumption | refine Below.drew ?_ | refine Below.drewN' ?_ _ | refine Below.setCell ?_ (by first | (simp; done) | omega | (simp; omega)) _ | refine Below.alloc ?_ (by first | (simp; done) | omega | (simp; omega)) _ | refine Below.step ?_ (by assumption) (by first | (simp; done) | omega | (simp; omega))))
      exact (h1.block _ (by omega)).trans (last_block _ _)
    · exact hb4.block m hml
  have hrc := refs_c 72 (enters_of Tryz.func72 (by kernel_rfl) rfl) #[.pointer (some ⟨w.heap.size + 1 + 1 + 1, 0, none⟩), .pointer (some ⟨w.heap.size, 0, none⟩)] (· = w.heap.size + 1 + 1) (usStep g) (fun l w' => UsJ g (w.heap.size + 1 + 1 + 1) (w.heap.size + 1 + 1) w.heap.size m l w') (fun _ _ _ h hb => h.below hb) (uses1_c g hg _ _ _ m (by omega) (by omega) (by omega)) (Mu.sz n) n (Nat.le_refl _)
    [] _ _ F hJ0 (fun q hq => by subst hq; simp) (hR.keep (Keeps.of_below hb4 hF)) (fun q hq => by have := hF q hq; exact ⟨by simp; omega, by omega⟩)
  rw [goR_us] at hrc
  have HRC := Lib.hid hrc
  have HB4 := Lib.hid hb4
  clear hm hR hF hr hns hb1 htl hJ0 hrc hb4
  go_enter Tryz.func44, Tryz.ntmps44
  go_wp2_with fail
  refine HRC.out.mono ?_
  rintro e w5 ⟨rfl, hJ5, hC5⟩
  have hs5 := hC5.size
  simp at hs5
  have hb5 : Below w.heap.size w w5 := HB4.out.trans (hC5.below (fun q hq => by omega) (by simp; omega))
  have HB5 := Lib.hid hb5
  have v5 : w5.cell? ⟨w.heap.size + 1 + 1 + 1, 0, none⟩ = some (.map (some (w.heap.size + 1 + 1))) := cell_at hJ5.var 0
  have hA5 := hJ5.var
  have hsn := hJ5.seen
  simp only [List.nil_append] at hsn
  have HSN := Lib.hid hsn
  clear hb5 hC5 hJ5 hsn HRC hA5
  go_wp2_with fail
  refine (keys_c _ _).mono ?_
  rintro e w6 ⟨rfl, rfl⟩
  have hso := sorted_c w5.heap.size (w.heap.size + 1 + 1) g.length _ (fun x hx => ?_) (w5.alloc (.cells #[.map (some (w.heap.size + 1 + 1))] 92)) (by simp) (by simp) (HSN.out.keep (Below.heap_alloc _ _ _ HSN.out.lt))
  · have HSO := Lib.hid hso
    clear hso
    go_wp2_with fail
    refine HSO.out.mono ?_
    rintro e w7 ⟨x, rfl, hrow, hb7⟩
    rw [uses_row g n HRR.out] at hrow
    have hs7 := hb7.size
    simp at hs7
    have HROW := Lib.hid (IRow.of_own (by have := uses_length g n; omega) hrow)
    have HB7 := Lib.hid (HB5.out.trans (Below.trans ((Below.refl _ _).alloc (by omega) _) (hb7.mono (by simp; omega))))
    clear hrow hb7
    go_wp2_with fail
    go_ret
    exact ⟨x, rfl, HROW.out.mono fun k hk => ⟨by have := hk.1; simp at this; omega, hk.2⟩, HB7.out⟩
  · obtain ⟨y, hy, rfl⟩ := List.mem_map.1 hx
    obtain ⟨i, hi⟩ := HRR.out y hy
    have := Mu.find_lt hi
    simp [placeOf, hi]
    omega

end Go.Proofs.YtdmhjnnogcpccaaGreatDoor
end

section
namespace Go.Proofs.YtdmhjnnogcpccaaGreatDoor
open Go.RowKit Go.Maps
open Mu (Cl Bs Nd Ru Gr Tk)
set_option linter.unusedSimpArgs false
set_option linter.unusedVariables false

attribute [local irreducible] wpQuiet wpStill
attribute [local go_sem ↓] Go.wp_at_zero Go.wp_at_succ

/-- rows of places that the call owns, in blocks from B on -/
def IRws (B : Nat) (v : Value) (ll : List (List Nat)) (w : World) : Prop := ∃ vs : List Value, vs.length = ll.length ∧ w.ownsRow B 54 1 v ll.length vs ∧
  ∀ i (h : i < ll.length), IRow w (fun k => B ≤ k ∧ k < w.heap.size ∧ some k ≠ v.ownBlock) (vs.getD i .nilIface) ll[i]

theorem IRws.nil (B : Nat) (w : World) : IRws B (.slice none 0 0) [] w := ⟨[], rfl, World.ownsRow_nil _ _ _ _, fun i h => by simp at h⟩

theorem IRws.same {B : Nat} {v : Value} {ll : List (List Nat)} {w w' : World} (h : IRws B v ll w) (hs : w.heap.size ≤ w'.heap.size) (hk : ∀ k, B ≤ k → k < w.heap.size → w'.heap[k]? = w.heap[k]?) : IRws B v ll w' := by
  obtain ⟨vs, h1, ⟨h2, h3⟩, h4⟩ := h
  refine ⟨vs, h1, ⟨h2, ?_⟩, fun i hi => ((h4 i hi).keep (w' := w') fun k hF => hk k hF.1 hF.2.1).mono fun k hF => ⟨hF.1, by omega, hF.2.2⟩⟩
  rcases h3 with h3 | ⟨g, cap, cur, hv, hg, hh, r⟩
  · exact .inl h3
  · exact .inr ⟨g, cap, cur, hv, hg, by rw [hk g hg (lt_of_block hh)]; exact hh, r⟩

theorem IRws.append {B : Nat} {v v' mv : Value} {ll : List (List Nat)} {vs : List Value} {l : List Nat} {w w1 : World} {o : Obj} (hvl : vs.length = ll.length)
    (hvr : ∀ i (h : i < ll.length), IRow w (fun k => B ≤ k ∧ k < w.heap.size ∧ some k ≠ v.ownBlock) (vs.getD i .nilIface) ll[i])
    (hm : IRow w (fun k => B ≤ k ∧ k < w.heap.size ∧ some k ≠ v.ownBlock) mv l) (hg : (w.alloc o).grownBy w1 v.ownBlock)
    (hown : w1.ownsRow B 54 1 v' (ll.length + 1) (vs ++ [mv])) (hloc : v'.ownBlock = v.ownBlock ∨ v'.ownBlock = some (w.heap.size + 1)) : IRws B v' (ll ++ [l]) w1 := by
  have hs := hg.size
  simp at hs
  have hk : ∀ k, k < w.heap.size → some k ≠ v.ownBlock → w1.heap[k]? = w.heap[k]? := fun k h1 h2 => (hg.block k (by simp; omega) h2).trans (Below.heap_alloc _ _ _ h1)
  have hfin : ∀ k, B ≤ k ∧ k < w.heap.size ∧ some k ≠ v.ownBlock → B ≤ k ∧ k < w1.heap.size ∧ some k ≠ v'.ownBlock := fun k h => by
    refine ⟨h.1, by omega, ?_⟩
    rcases hloc with e | e
    · rw [e]; exact h.2.2
    · rw [e]; simp; omega
  refine ⟨vs ++ [mv], by simp [hvl], by rw [List.length_append]; exact hown, fun j hj => ?_⟩
  by_cases hjl : j < ll.length
  · have e1 : (vs ++ [mv]).getD j .nilIface = vs.getD j .nilIface := by simp [List.getD_eq_getElem?_getD, List.getElem?_append_left (show j < vs.length by omega)]
    have e2 : (ll ++ [l])[j] = ll[j] := List.getElem_append_left hjl
    rw [e1, e2]
    exact ((hvr j hjl).keep fun k hF => hk k hF.2.1 hF.2.2).mono hfin
  · have hje : j = ll.length := by simp at hj; omega
    subst hje
    have e1 : (vs ++ [mv]).getD ll.length .nilIface = mv := by simp [List.getD_eq_getElem?_getD, ← hvl]
    have e2 : (ll ++ [l])[ll.length] = l := by simp
    rw [e1, e2]
    exact (hm.keep fun k hF => hk k hF.2.1 hF.2.2).mono hfin

/-- .. as they are read -/
theorem IRws.one {B : Nat} {v : Value} {ll : List (List Nat)} {w : World} (h : IRws B v ll w) (i : Nat) (hi : i < ll.length) : ∃ (g cap : Nat) (x : Value), v = .slice (some ⟨g, 0, none⟩) ll.length cap ∧ B ≤ g ∧ g < w.heap.size ∧ w.cell? ⟨g, i, none⟩ = some x ∧ IRow w (fun k => B ≤ k ∧ k < w.heap.size) x ll[i] := by
  obtain ⟨vs, h1, ⟨h2, ⟨_, h0⟩ | ⟨g, cap, cur, hv, hg, hh, hc1, hc2, hsz, htk⟩⟩, h4⟩ := h
  · omega
  · refine ⟨g, cap, vs.getD i .nilIface, hv, hg, lt_of_some hh, ?_, (h4 i hi).mono fun k hk => ⟨hk.1, hk.2.1⟩⟩
    rw [cell_at hh]
    have := congrArg (fun z : List Value => z[i]?) htk
    simp only [Nat.mul_one] at this
    rw [List.getElem?_take_of_lt (by omega)] at this
    rw [List.getD_eq_getElem?_getD, List.getElem?_eq_getElem (show i < vs.length by omega)] at *
    simpa using this

theorem IRws.len {B : Nat} {v : Value} {ll : List (List Nat)} {w : World} (h : IRws B v ll w) : ∃ (a : Option Addr) (cap : Nat), v = .slice a ll.length cap := by
  obtain ⟨vs, h1, ⟨h2, ⟨hv, h0⟩ | ⟨g, cap, cur, hv, _⟩⟩, h4⟩ := h
  · exact ⟨none, 0, by rw [hv, h0]⟩
  · exact ⟨_, _, hv⟩

def UsesEnd (g : Gr) (w : World) (e : Ending) (w' : World) : Prop := Below w.heap.size w w' ∧
  ((∃ er v, Mu.check g = some er ∧ e = .returned (.tuple #[.slice none 0 0, v]) ∧ ErV w.heap.size v (some er) w') ∨ (Mu.check g = none ∧ ∃ v, e = .returned (.tuple #[v, .nilIface]) ∧ IRws w.heap.size v (Mu.usesAll g) w'))

theorem check_len {g : Gr} (h : Mu.check g = none) : 0 < g.length ∧ g.length ≤ 64 := by
  unfold Mu.check at h
  cases hp : Mu.print g with
  | error e => simp [hp] at h
  | ok s =>
    unfold Mu.print at hp
    by_cases hc : g.length < 1 ∨ 64 < g.length ∨ g.any (fun r => !Mu.ruleOk r) = true
    · rw [if_pos hc] at hp
      cases hp
    · omega

theorem Tryz.infoInts : (Tryz.prog.info? 54).map (fun i => (i.zero, i.size, i.bytes)) = some (some (.slice none 0 0), 1, 24) := by kernel_rfl

set_option maxHeartbeats 8000000 in
set_option maxRecDepth 20000 in
theorem scope_Uses (g : Gr) (F : Nat → Prop) (a : Option Addr) (b off cap : Nat) (S : Nat → Value) (w : World) (h : RRs w F a b off g S) (hF : ∀ k, F k → k < w.heap.size) (hG : ErrT w) (hsz : 3000 * szg g ≤ 140737488200000) :
    Calls Tryz.prog 19 #[.agg #[.slice a g.length cap]] w (UsesEnd g w) := by
  have hlim := h.hlim
  unfold maxRus at hlim
  have hb1 : Below w.heap.size w (w.alloc (.cells #[.slice a g.length cap] 24)) := by (repeat' (first | exact Below.refl _ _ | assumption | refine Below.drew ?_ | refine Below.drewN' ?_ _ | refine Below.setCell ?_ (by first | (simp; done) | omega | (simp; omega)) _ | refine Below.alloc ?_ (by first | (simp; done) | omega | (simp; omega)) _ | refine Below.step ?_ (by assumption) (by first | (simp; done) | omega | (simp; omega))))
  have h1 := h.keep (Keeps.of_below hb1 hF)
  have HR := Lib.hid (scope_check g F a b off cap S _ h1 (fun k hk => by have := hF k hk; simp; omega) (hG.keep hb1 hG.2) hsz)
  have H := Lib.hid h
  have HF := Lib.hid hF
  clear h h1 hF hG hb1
  go_enter Tryz.func19, Tryz.ntmps19
  go_wp2_with fail
  refine HR.out.mono ?_
  rintro e w2 ⟨hb2, v, rfl, hv⟩
  have hs2 := hb2.size
  simp at hs2
  have HB2 := Lib.hid (Below.trans (by (repeat' (first | exact Below.refl _ _ | assumption | refine Below.drew ?_ | refine Below.drewN' ?_ _ | refine Below.setCell ?_ (by first | (simp; done) | omega | (simp; omega)) _ | refine Below.alloc ?_ (by first | (simp; done) | omega | (simp; omega)) _ | refine Below.step ?_ (by assumption) (by first | (simp; done) | omega | (simp; omega)))) : Below w.heap.size w (w.alloc (.cells #[.slice a g.length cap] 24))) (hb2.mono (by simp)))
  have hv2 := hv.mono (B' := w.heap.size) (by simp)
  rcases hck : Mu.check g with _ | er
  · rw [hck] at hv2
    obtain rfl : v = .nilIface := hv2
    have hq2 := (hb2.block w.heap.size (by simp)).trans (last_block w _)
    have hwl : w.heap.size < w2.heap.size := by omega
    have y0 : w2.cell? ⟨w.heap.size, 0, none⟩ = some (.slice a g.length cap) := cell_at hq2 0
    have HP := Lib.hid (scope_places g F a b off cap S w2 (H.out.keep (Keeps.of_below HB2.out HF.out)) (fun k hk => by have := HF.out k hk; omega))
    have HQ2 := Lib.hid hq2
    have HCK := Lib.hid hck
    have hl64 := (check_len hck).2
    clear hb2 hq2 hv hck
    go_wp2_with fail
    refine HP.out.mono ?_
    rintro e w3 ⟨m, rfl, hm2, hm3, hb3⟩
    have hs3 := hb3.size
    have hm4 := hm3.lt
    have z0 : w3.cell? ⟨w.heap.size, 0, none⟩ = some (.slice a g.length cap) := cell_at ((hb3.block _ hwl).trans HQ2.out) 0
    have HB3 := Lib.hid (HB2.out.trans (hb3.mono (by omega)))
    have HM3 := Lib.hid hm3
    clear hm3 hb3 HP y0
    have hwl3 : w.heap.size < w3.heap.size := by omega
    go_wp2_with fail
    go_loopw [6, 19] (fun o u wr => ∃ k : Nat, k ≤ g.length ∧ u = .int .i64 k ∧ IRws w3.heap.size o ((Mu.usesAll g).take k) wr ∧ Below w3.heap.size w3 wr) (fun _ u _ => g.length - (RowKit.intOf u).toNat)
    case atStart => exact ⟨0, Nat.zero_le _, rfl, by simpa using IRws.nil _ _, Below.refl _ _⟩
    case round =>
      obtain ⟨k, hk, rfl, hrw, hbk⟩ := hrel
      have hsk := hbk.size
      have hsk3 : w.heap.size < wr.heap.size := by omega
      have hbw : Below w.heap.size w wr := HB3.out.trans (hbk.mono (by omega))
      have hmw : PlMap m g wr := HM3.out.keep (hbk.block m hm4)
      have HBK := Lib.hid hbk
      have HBW := Lib.hid hbw
      have HMW := Lib.hid hmw
      have HRW := Lib.hid hrw
      clear hbk hbw hmw hrw
      by_cases hlt : k < g.length
      · have hn := H.out.keep (Keeps.of_below HBW.out HF.out)
        obtain ⟨a', cap', rfl, hFb, hSk, t0, t1, t2, t3, t4, t5, t6, t7, t8, t9⟩ := hn.one k hlt
        have hRk := hn.hS k hlt
        rw [hSk] at hRk
        have hbl := HF.out b hFb
        have hbl2 : b < wr.heap.size := by omega
        have hlti : (k : Int) < (g.length : Int) := by omega
        have hrefs := Mu.check_refs HCK.out g[k] (List.getElem_mem hlt)
        have htk : (Mu.usesAll g).take (k + 1) = (Mu.usesAll g).take k ++ [Mu.uses g g[k].body] := by
          rw [List.take_succ_eq_append_getElem (by rw [Mu.usesAll_length]; exact hlt)]
          simp [Mu.usesAll]
        have hW1 : Below wr.heap.size wr (wr.alloc (.cells (ruOf g[k] (.slice a' g[k].body.subs.length cap')).cells 60)) := (Below.refl _ _).alloc (Nat.le_refl _) _
        have hU := scope_uses g hl64 m g[k].body _ F (wr.alloc (.cells (ruOf g[k] (.slice a' g[k].body.subs.length cap')).cells 60)) (HMW.out.keep (hW1.block m (by omega))) (hRk.keep fun q hq => hW1.block q (by have := HF.out q hq; omega)) (fun q hq => by have := HF.out q hq; simp; omega) hrefs
        have HU := Lib.hid hU
        have HTK := Lib.hid htk
        clear hn hSk hRk hrefs htk hW1 hU
        generalize g[k] = r0 at t0 t1 t2 t3 t4 t5 t6 t7 t8 t9 HU HTK
        go_wp2_with fail
        refine HU.out.mono ?_
        rintro e w5 ⟨x, rfl, hrow, hb5⟩
        obtain ⟨xa, xcap, rfl⟩ : ∃ xa xcap, x = .slice xa (Mu.uses g r0.body).length xcap := by
          obtain ⟨a, b, off, cap, h, _⟩ := hrow
          exact ⟨a, cap, h⟩
        have hs5 := hb5.size
        simp at hs5
        have hkk : ∀ q, q < wr.heap.size → w5.heap[q]? = wr.heap[q]? := fun q hq => (hb5.block q (by simp; omega)).trans (Below.heap_alloc _ _ _ hq)
        obtain ⟨vs, hvl, hown, hvr⟩ := HRW.out.same (w' := w5) (by omega) (fun q _ h2 => hkk q h2)
        have htl : ((Mu.usesAll g).take k).length = k := by rw [List.length_take, Mu.usesAll_length]; omega
        have hob : ∀ j, u6.ownBlock = some j → w3.heap.size ≤ j ∧ j < wr.heap.size := by
          obtain ⟨_, _, ho', _⟩ := HRW.out
          exact ho'.lt
        have hb35 : Below w3.heap.size w3 w5 := HBK.out.trans (Below.trans ((Below.refl _ _).alloc (by omega) _) (hb5.mono (by simp; omega)))
        obtain ⟨i0, hti, hz0, hz1, hz2⟩ := info_parts Tryz.infoInts
        rw [htl] at hown
        have HOWN := Lib.hid hown
        have HVL := Lib.hid hvl
        have HVR := Lib.hid hvr
        have HOB := Lib.hid hob
        have HB35 := Lib.hid hb35
        have HROW := Lib.hid hrow
        clear hrow hb5 hkk hown hvl hvr hob htl hb35
        go_wp2_with (at_builtin; refine wpList_append_own_at _ rfl _ _ 51 rfl w3.heap.size 54 i0 _ 1 24 Tryz.underlying51 hti hz0 hz1 hz2 rfl (by decide) _ k vs rfl (HOWN.out.alloc _) ⟨w5.heap.size, 0, none⟩ 1 1 [.slice xa (Mu.uses g r0.body).length xcap] rfl rfl (World.news_of_block (last_block _ _)) (by simp [Value.oneCell']) (by unfold maxLen; omega) (by omega) (by simp; omega) ?_; intro v' w6 hown6 hgrow _ hloc; have HOWN6 := Lib.hid hown6; have HG6 := Lib.hid hgrow; have HL6 := Lib.hid hloc; clear hown6 hgrow hloc)
        go_roundw
        case rel =>
          have hL : v'.ownBlock = u6.ownBlock ∨ v'.ownBlock = some (w5.heap.size + 1) := by
            rcases HL6.out with e | e
            · exact .inl e
            · exact .inr (e.trans (by simp))
          have hg6 := HG6.out.size
          simp at hg6
          have htl : ((Mu.usesAll g).take k).length = k := by rw [List.length_take, Mu.usesAll_length]; omega
          refine ⟨k + 1, by omega, by go_num, ?_, (HB35.out.alloc (by omega) _).grown HG6.out (by simp; omega) (fun j hj => (HOB.out j hj).1)⟩
          rw [HTK.out]
          refine IRws.append HVL.out HVR.out (HROW.out.mono fun q hq => ?_) HG6.out (by rw [htl]; exact HOWN6.out) hL
          have h1 := hq.1
          simp at h1
          exact ⟨by omega, hq.2, fun e => by have := (HOB.out _ e.symm).2; omega⟩
        case measure => simp [RowKit.intOf]; omega
      · obtain rfl : k = g.length := by omega
        have hrw := HRW.out
        rw [List.take_of_length_le (by rw [Mu.usesAll_length]; exact Nat.le_refl _)] at hrw
        have HRW2 := Lib.hid hrw
        clear hrw HRW
        go_wp2_with fail
        go_ret2
        obtain ⟨vs, h1, h2, h3⟩ := HRW2.out
        exact ⟨HBW.out, .inr ⟨HCK.out, _, rfl, vs, h1, owns_mono h2 (by omega), fun i hi => (h3 i hi).mono fun q hq => ⟨by omega, hq.2⟩⟩⟩
  · obtain ⟨vT, vV, rfl⟩ : ∃ T V, v = .iface T V := by
      rw [hck] at hv2
      match er, hv2 with
      | .no c, hv2 => exact ⟨_, _, hv2⟩
      | .at f, hv2 =>
        obtain ⟨p, _, h, _⟩ := hv2
        exact ⟨_, _, h⟩
    rw [hck] at hv2
    have HV := Lib.hid hv2
    have HCK := Lib.hid hck
    clear hb2 hv hv2 hck
    go_wp2_with fail
    go_ret2
    exact ⟨HB2.out, .inl ⟨er, _, HCK.out, rfl, HV.out⟩⟩

end Go.Proofs.YtdmhjnnogcpccaaGreatDoor
end
