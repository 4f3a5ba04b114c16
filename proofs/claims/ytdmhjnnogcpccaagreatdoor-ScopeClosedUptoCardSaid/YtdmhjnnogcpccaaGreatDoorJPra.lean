/- printer: rank, wide; slices.IndexFunc and ContainsFunc over trees. printer: node. -/
import Derived.Test.YtdmhjnnogcpccaaGreatDoorJWan
import Derived.Test.YtdmhjnnogcpccaaGreatDoorJSgn
import Derived.Deep.DeepCutAuto
import Derived.Deep.CutBlock
section
namespace Go.Proofs.YtdmhjnnogcpccaaGreatDoor
open Go.RowKit
open Mu (Cl Bs Nd Ru Gr Tk)
set_option linter.unusedSimpArgs false
set_option linter.unusedVariables false

attribute [local irreducible] wpQuiet wpStill
attribute [local go_sem ↓] Go.wp_at_zero Go.wp_at_succ

set_option maxHeartbeats 2000000 in
set_option maxRecDepth 20000 in
theorem prn_rank (k : Int) (w : World) : Calls Tryz.prog 157 #[.int .i64 k] w fun e w' => e = .returned (.int .i64 (Mu.rank k : Int)) ∧ w = w' := by
  by_cases hk : k = 6 ∨ k = 7 ∨ k = 8 ∨ k = 9 ∨ k = 10 ∨ k = 11 ∨ k = 12
  · rcases hk with rfl | rfl | rfl | rfl | rfl | rfl | rfl
    all_goals
      go_enter Tryz.func157, Tryz.ntmps157
      go_wp2_with fail
      go_ret
      exact ⟨rfl, rfl⟩
  · have h6 : (k == 6) = false := beq_eq_false_iff_ne.2 fun e => hk (by omega)
    have h7 : (k == 7) = false := beq_eq_false_iff_ne.2 fun e => hk (by omega)
    have h8 : (k == 8) = false := beq_eq_false_iff_ne.2 fun e => hk (by omega)
    have h9 : (k == 9) = false := beq_eq_false_iff_ne.2 fun e => hk (by omega)
    have h10 : (k == 10) = false := beq_eq_false_iff_ne.2 fun e => hk (by omega)
    have h11 : (k == 11) = false := beq_eq_false_iff_ne.2 fun e => hk (by omega)
    have h12 : (k == 12) = false := beq_eq_false_iff_ne.2 fun e => hk (by omega)
    have hr : (Mu.rank k : Int) = 4 := by
      unfold Mu.rank
      rw [if_neg (by omega), if_neg (by omega), if_neg (by omega), if_neg (by omega)]
      rfl
    have HR := Lib.hid hr
    clear hk hr
    go_enter Tryz.func157, Tryz.ntmps157
    go_wp2_with fail
    go_ret
    exact ⟨by rw [HR.out]; rfl, rfl⟩

set_option maxHeartbeats 2000000 in
set_option maxRecDepth 20000 in
theorem prn_wide (b : Nat) (l : Bs) (w : World) (h : Bld 157 b l w) (hl : l.length ≤ 140737488355328) : Calls Tryz.prog 91 #[.pointer (some ⟨b, 0, none⟩)] w fun e w' => e = .returned (.bool (Mu.wide l)) ∧ w = w' := by
  have H := Lib.hid h
  clear h
  by_cases h8 : 8192 < l.length
  · have hw : Mu.wide l = true := by simp [Mu.wide, h8]
    have h8i : (8192 : Int) < (l.length : Int) := by omega
    rw [hw]
    clear hw
    go_enter Tryz.func91, Tryz.ntmps91
    go_wp2_with fail
    refine (builderLen 157 b l w H.out).mono ?_
    rintro e w1 ⟨rfl, rfl⟩
    go_wp2_with fail
    go_ret
    exact ⟨by simp, rfl⟩
  · have hw : Mu.wide l = false := by simp [Mu.wide, h8]
    have h8i : ¬ (8192 : Int) < (l.length : Int) := by omega
    rw [hw]
    clear hw
    go_enter Tryz.func91, Tryz.ntmps91
    go_wp2_with fail
    refine (builderLen 157 b l w H.out).mono ?_
    rintro e w1 ⟨rfl, rfl⟩
    go_wp2_with fail
    go_ret
    exact ⟨by simp; omega, rfl⟩

theorem nodesOk_all : ∀ l : List Nd, Mu.nodesOk l = l.all Mu.nodeOk
  | [] => by simp [Mu.nodesOk]
  | n :: l => by simp [Mu.nodesOk, nodesOk_all l]

/-- the closure of node, at the trees of a row -/
def ClOk (ns : List Nd) : Prop := ∀ (n : Nd) (v : Value) (w : World) (F : Nat → Prop), n ∈ ns → RN w F v n → (∀ k, F k → k < w.heap.size) →
  Calls Tryz.prog 155 #[v] w fun e w' => e = .returned (.bool (!Mu.nodeOk n)) ∧ Below w.heap.size w w'

set_option maxHeartbeats 4000000 in
set_option maxRecDepth 20000 in
theorem idx_nodes (ns : List Nd) (hC : ClOk ns) (F : Nat → Prop) (a : Option Addr) (b off cap : Nat) (C : Nat → Value) (w : World) (h : RNs w F a b off ns C) (hF : ∀ k, F k → k < w.heap.size) :
    Calls Tryz.prog 182 #[.slice a ns.length cap, .func (.func 155) #[] #[]] w fun e w' => ∃ r : Int, e = .returned (.int .i64 r) ∧ (decide (0 ≤ r) = !Mu.nodesOk ns) ∧ Below w.heap.size w w' := by
  have hlim := h.hlim
  unfold maxSubs at hlim
  have H := Lib.hid h
  have HC := Lib.hid hC
  have HF := Lib.hid hF
  clear h hC hF
  go_enter Tryz.func182, Tryz.ntmps182
  go_wp2_with fail
  go_loopw [5, 8] (fun _ s wr => ∃ k : Nat, k ≤ ns.length ∧ s = .int .i64 k ∧ (ns.take k).all Mu.nodeOk = true ∧ Below w.heap.size w wr) (fun _ s _ => ns.length - (intOf s).toNat)
  case atStart => exact ⟨0, Nat.zero_le _, rfl, by simp, by (repeat' (first | exact Below.refl _ _ | assumption | refine Below.drew ?_ | refine Below.drewN' ?_ _ | refine Below.setCell ?_ (by first | (simp; done) | omega | (simp; omega)) _ | refine Below.alloc ?_ (by first | (simp; done) | omega | (simp; omega)) _ | refine Below.step ?_ (by assumption) (by first | (simp; done) | omega | (simp; omega))))⟩
  case round =>
    obtain ⟨k, hk, rfl, hall, hb⟩ := hrel
    have HALL := Lib.hid hall
    have HB := Lib.hid hb
    have hsz := hb.size
    clear hall hb
    by_cases hlt : k < ns.length
    · have hn := H.out.keep (Keeps.of_below HB.out HF.out)
      obtain ⟨a', cap', rfl, hFb, hCk, t0, t1, t2, t3, t4, t5, t6, t7⟩ := hn.one k hlt
      have hR := hn.hC k hlt
      rw [hCk] at hR
      have HR := Lib.hid hR
      have hmem : ns[k] ∈ ns := List.getElem_mem hlt
      have hts : (ns.take (k + 1)).all Mu.nodeOk = (Mu.nodeOk ns[k]) := by
        rw [List.take_succ_eq_append_getElem hlt, List.all_append, HALL.out]
        simp
      have hall2 : Mu.nodeOk ns[k] = false → Mu.nodesOk ns = false := fun hf => by
        rw [nodesOk_all, List.all_eq_false]
        exact ⟨_, hmem, by simp [hf]⟩
      have HTS := Lib.hid hts
      have HA2 := Lib.hid hall2
      have HM := Lib.hid hmem
      clear hn hR hCk hmem hts hall2
      generalize ns[k] = n0 at t0 t1 t2 t3 t4 t5 t6 t7 HR HTS HA2 HM
      have hlti : (k : Int) < (ns.length : Int) := by omega
      go_wp2_with fail
      refine (HC.out n0 _ wr F HM.out HR.out (fun k hk => by have := HF.out k hk; omega)).mono ?_
      rintro e w2 ⟨rfl, hb2⟩
      have HB2 := Lib.hid (HB.out.trans (hb2.mono hsz))
      clear hb2
      cases hok : Mu.nodeOk n0 with
      | true =>
        have HOK := Lib.hid hok
        clear hok
        simp only [Bool.not_true]
        go_wp2_with fail
        go_roundw
        case rel => exact ⟨k + 1, by omega, by go_num, by rw [HTS.out, HOK.out], HB2.out⟩
        case measure => simp [intOf]; omega
      | false =>
        have HOK := Lib.hid hok
        clear hok
        simp only [Bool.not_false]
        go_wp2_with fail
        go_ret
        exact ⟨(k : Int), rfl, by rw [HA2.out HOK.out]; simp, HB2.out⟩
    · obtain rfl : k = ns.length := by omega
      go_wp2_with fail
      go_ret
      exact ⟨-1, rfl, by rw [nodesOk_all]; have := HALL.out; rw [List.take_length] at this; simp [this], HB.out⟩

set_option maxHeartbeats 4000000 in
set_option maxRecDepth 20000 in
theorem contains_nodes (ns : List Nd) (hC : ClOk ns) (F : Nat → Prop) (a : Option Addr) (b off cap : Nat) (C : Nat → Value) (w : World) (h : RNs w F a b off ns C) (hF : ∀ k, F k → k < w.heap.size) :
    Calls Tryz.prog 154 #[.slice a ns.length cap, .func (.func 155) #[] #[]] w fun e w' => e = .returned (.bool (!Mu.nodesOk ns)) ∧ Below w.heap.size w w' := by
  have HI := Lib.hid (idx_nodes ns hC F a b off cap C w h hF)
  clear h hC hF
  go_enter Tryz.func154, Tryz.ntmps154
  go_wp2_with fail
  refine HI.out.mono ?_
  rintro e w2 ⟨r, rfl, hr, hb⟩
  have HR := Lib.hid hr
  clear hr
  go_wp2_with fail
  go_ret
  exact ⟨by rw [← HR.out]; rfl, hb⟩

end Go.Proofs.YtdmhjnnogcpccaaGreatDoor
end

section
namespace Go.Proofs.YtdmhjnnogcpccaaGreatDoor
open Go.RowKit
open Mu (Cl Bs Nd Ru Gr Tk)
set_option linter.unusedSimpArgs false
set_option linter.unusedVariables false

attribute [local irreducible] wpQuiet wpStill
attribute [local go_sem ↓] Go.wp_at_zero Go.wp_at_succ

namespace Mu
mutual
/-- how many nodes -/
def sz : Nd → Nat
  | .mk _ _ _ l _ => szs l + 1
def szs : List Nd → Nat
  | [] => 0
  | n :: l => sz n + szs l
end
theorem sz_mem : ∀ (l : List Nd) (n : Nd), n ∈ l → sz n ≤ szs l
  | [], n, h => by simp at h
  | m :: l, n, h => by
    rcases List.mem_cons.1 h with rfl | h
    · simp [szs]
    · have := sz_mem l n h
      simp [szs]
      omega

/-- what a node must be for itself -/
def okHead (k : Int) (t : Bs) (len : Nat) : Bool :=
  if k = 5 then isName t && decide (len = 0)
  else if k = 2 then decide (t.length ≤ 255) && decide (len = 0)
  else if k = 1 ∨ k = 4 ∨ k = 3 then t.isEmpty && decide (len = 0)
  else if k = 6 ∨ k = 7 then t.isEmpty && decide (1 < len)
  else if k = 8 ∨ k = 9 ∨ k = 10 ∨ k = 11 ∨ k = 12 then t.isEmpty && decide (len = 1)
  else false

theorem nodeOk_eq (k : Int) (t : Bs) (c : Cl) (l : List Nd) (p : Int) : nodeOk (.mk k t c l p) = if k ≠ 3 ∧ c ≠ Cl.zero then false else okHead k t l.length && nodesOk l := by
  have e : l.isEmpty = decide (l.length = 0) := by cases l <;> simp
  simp only [nodeOk, okHead, e]
end Mu

theorem int_eq0 (n : Nat) : ((n : Int) == 0) = decide (n = 0) := by
  rw [Bool.eq_iff_iff, beq_iff_eq, decide_eq_true_iff]
  omega
theorem int_eq1 (n : Nat) : ((n : Int) == 1) = decide (n = 1) := by
  rw [Bool.eq_iff_iff, beq_iff_eq, decide_eq_true_iff]
  omega
theorem int_gt1 (n : Nat) : ((1 : Int) < (n : Int)) = (1 < n) := by
  rw [eq_iff_iff]
  omega

def NodeC (n : Nd) : Prop := ∀ (v : Value) (w : World) (F : Nat → Prop), RN w F v n → (∀ k, F k → k < w.heap.size) →
  Calls Tryz.prog 117 #[v] w fun e w' => e = .returned (.bool (Mu.nodeOk n)) ∧ Below w.heap.size w w'

set_option maxHeartbeats 2000000 in
set_option maxRecDepth 20000 in
theorem node_closure (ns : List Nd) (h : ∀ n ∈ ns, NodeC n) : ClOk ns := by
  intro n v w F hm hR hF
  obtain ⟨a, b, off, cap, C, hv, _⟩ := hR.open
  subst hv
  have hN := h n hm _ (w.alloc (.cells (ndv n.kind n.text n.cls (.slice a n.subs.length cap) n.place).cells 30)) F (hR.keep fun k hk => Below.heap_alloc _ _ _ (hF k hk)) (fun k hk => by have := hF k hk; simp; omega)
  have HN := Lib.hid hN
  clear hN hR h
  go_enter Tryz.func155, Tryz.ntmps155
  go_wp2_with fail
  refine HN.out.mono ?_
  rintro e w1 ⟨rfl, hb⟩
  go_wp2_with fail
  go_ret
  exact ⟨rfl, Below.trans (by (repeat' (first | exact Below.refl _ _ | assumption | refine Below.drew ?_ | refine Below.drewN' ?_ _ | refine Below.setCell ?_ (by first | (simp; done) | omega | (simp; omega)) _ | refine Below.alloc ?_ (by first | (simp; done) | omega | (simp; omega)) _ | refine Below.step ?_ (by assumption) (by first | (simp; done) | omega | (simp; omega))))) (hb.mono (by simp))⟩

set_option maxHeartbeats 8000000 in
set_option maxRecDepth 20000 in
theorem node_any (k : Int) (t : Bs) (c : Cl) (ns : List Nd) (p : Int) (hIH : ∀ n ∈ ns, NodeC n) : NodeC (.mk k t c ns p) := by
  intro v w F hR hF
  obtain ⟨a, b, off, cap, C, hv, hns, htl⟩ := hR.open
  simp only [Nd.kind, Nd.text, Nd.cls, Nd.subs, Nd.place] at hv hns htl
  subst hv
  have hlim := hns.hlim
  unfold maxSubs at hlim
  have hns1 := hns.keep (w' := w.alloc (.cells (ndv k t c (.slice a ns.length cap) p).cells 30)) (fun k hk => Below.heap_alloc _ _ _ (hF k hk))
  have HCt := Lib.hid (contains_nodes ns (node_closure ns hIH) F a b off cap C _ hns1 (fun k hk => by have := hF k hk; simp; omega))
  have h1 := eq_zero c
  rw [Mu.nodeOk_eq]
  clear hR hns hns1 hIH
  by_cases hA : k ≠ 3 ∧ c ≠ Cl.zero
  · rw [if_pos hA]
    have h3 : (k == 3) = false := beq_eq_false_iff_ne.2 hA.1
    have h3n : (k != 3) = true := bne_iff_ne.2 hA.1
    have hd : decide (c = Cl.zero) = false := by simp [hA.2]
    rw [hd] at h1
    clear hA hd
    go_enter Tryz.func117, Tryz.ntmps117
    go_wp2_with fail
    go_ret
    exact ⟨rfl, by (repeat' (first | exact Below.refl _ _ | assumption | refine Below.drew ?_ | refine Below.drewN' ?_ _ | refine Below.setCell ?_ (by first | (simp; done) | omega | (simp; omega)) _ | refine Below.alloc ?_ (by first | (simp; done) | omega | (simp; omega)) _ | refine Below.step ?_ (by assumption) (by first | (simp; done) | omega | (simp; omega))))⟩
  · rw [if_neg hA]
    have hB : (k = 3) ∨ ((k == 3) = false ∧ decide (c = Cl.zero) = true) := by
      by_cases h3 : k = 3
      · exact .inl h3
      · exact .inr ⟨beq_eq_false_iff_ne.2 h3, decide_eq_true (Classical.byContradiction fun hc => hA ⟨h3, hc⟩)⟩
    generalize hok : Mu.okHead k t ns.length = ok
    have HOK := Lib.hid hok
    clear hA hok
    have hcut : ∀ (Q : Prop), (k = 3 → Q) → ((k == 3) = false → decide (c = Cl.zero) = true → Q) → Q := fun Q q1 q2 => hB.elim q1 fun h => q2 h.1 h.2
    clear hB
    refine hcut _ (fun h3 => ?_) (fun h3 hd => ?_)
    · subst h3
      clear hcut h1
      go_enter Tryz.func117, Tryz.ntmps117
      go_upto_block 0 with (fail)
      go_cut [4] (fun s4 wx => s4 = .bool ok ∧ wx = w.alloc (.cells (ndv 3 t c (.slice a ns.length cap) p).cells 30))
      case first =>
        cases hte : t.isEmpty
        all_goals
          go_wp2_with fail
          go_meet
          exact ⟨by rw [← HOK.out]; simp [Mu.okHead, hte, int_eq0, int_eq1, int_gt1, -List.length_eq_zero_iff], rfl⟩
      case rest =>
        obtain ⟨rfl, rfl⟩ := hcut
        cases ok with
        | false =>
          go_wp2_with fail
          go_ret
          exact ⟨by simp, by (repeat' (first | exact Below.refl _ _ | assumption | refine Below.drew ?_ | refine Below.drewN' ?_ _ | refine Below.setCell ?_ (by first | (simp; done) | omega | (simp; omega)) _ | refine Below.alloc ?_ (by first | (simp; done) | omega | (simp; omega)) _ | refine Below.step ?_ (by assumption) (by first | (simp; done) | omega | (simp; omega))))⟩
        | true =>
          go_wp2_with fail
          refine HCt.out.mono ?_
          rintro e w2 ⟨rfl, hb2⟩
          go_wp2_with fail
          go_ret
          exact ⟨by simp, Below.trans (by (repeat' (first | exact Below.refl _ _ | assumption | refine Below.drew ?_ | refine Below.drewN' ?_ _ | refine Below.setCell ?_ (by first | (simp; done) | omega | (simp; omega)) _ | refine Below.alloc ?_ (by first | (simp; done) | omega | (simp; omega)) _ | refine Below.step ?_ (by assumption) (by first | (simp; done) | omega | (simp; omega))))) (hb2.mono (by simp))⟩
    · rw [hd] at h1
      have h3n : (k != 3) = true := by simpa using h3
      clear hcut hd
      go_enter Tryz.func117, Tryz.ntmps117
      go_upto_block 0 with (fail)
      go_cut [4] (fun s4 wx => s4 = .bool ok ∧ wx = w.alloc (.cells (ndv k t c (.slice a ns.length cap) p).cells 30))
      case first =>
        have h3' : ¬ k = 3 := by simpa using h3
        clear h1
        by_cases hk : k = 5 ∨ k = 2 ∨ k = 1 ∨ k = 4 ∨ k = 6 ∨ k = 7 ∨ k = 8 ∨ k = 9 ∨ k = 10 ∨ k = 11 ∨ k = 12
        · clear h3 h3n h3'
          rcases hk with rfl | rfl | hk
          · cases hnm : Mu.isName t
            all_goals
              go_wp2_with fail
              refine (lex_Name t (by omega) _).mono ?_
              rintro e w2 ⟨rfl, rfl⟩
              rw [hnm]
              go_wp2_with fail
              go_meet
              exact ⟨by rw [← HOK.out]; simp [Mu.okHead, hnm, int_eq0, int_eq1, int_gt1, -List.length_eq_zero_iff], rfl⟩
          · by_cases hl : t.length ≤ 255
            · have hli : (t.length : Int) ≤ 255 := by omega
              go_wp2_with fail
              go_meet
              exact ⟨by rw [← HOK.out]; simp [Mu.okHead, hl, int_eq0, int_eq1, int_gt1, -List.length_eq_zero_iff], rfl⟩
            · have hli : ¬ (t.length : Int) ≤ 255 := by omega
              go_wp2_with fail
              go_meet
              exact ⟨by rw [← HOK.out]; simp [Mu.okHead, hl, int_eq0, int_eq1, int_gt1, -List.length_eq_zero_iff], rfl⟩
          · cases hte : t.isEmpty
            all_goals
              rcases hk with rfl | rfl | rfl | rfl | rfl | rfl | rfl | rfl | rfl
              all_goals
                go_wp2_with fail
                go_meet
                exact ⟨by rw [← HOK.out]; simp [Mu.okHead, hte, int_eq0, int_eq1, int_gt1, -List.length_eq_zero_iff], rfl⟩
        · have g1 : (k == 1) = false := beq_eq_false_iff_ne.2 fun e => hk (by omega)
          have g2 : (k == 2) = false := beq_eq_false_iff_ne.2 fun e => hk (by omega)
          have g4 : (k == 4) = false := beq_eq_false_iff_ne.2 fun e => hk (by omega)
          have g5 : (k == 5) = false := beq_eq_false_iff_ne.2 fun e => hk (by omega)
          have g6 : (k == 6) = false := beq_eq_false_iff_ne.2 fun e => hk (by omega)
          have g7 : (k == 7) = false := beq_eq_false_iff_ne.2 fun e => hk (by omega)
          have g8 : (k == 8) = false := beq_eq_false_iff_ne.2 fun e => hk (by omega)
          have g9 : (k == 9) = false := beq_eq_false_iff_ne.2 fun e => hk (by omega)
          have g10 : (k == 10) = false := beq_eq_false_iff_ne.2 fun e => hk (by omega)
          have g11 : (k == 11) = false := beq_eq_false_iff_ne.2 fun e => hk (by omega)
          have g12 : (k == 12) = false := beq_eq_false_iff_ne.2 fun e => hk (by omega)
          have hf : ok = false := by
            rw [← HOK.out]
            unfold Mu.okHead
            rw [if_neg (by omega), if_neg (by omega), if_neg (by omega), if_neg (by omega), if_neg (by omega)]
          have HFF := Lib.hid hf
          clear hk hf h3'
          go_wp2_with fail
          go_ret
          exact ⟨by rw [HFF.out]; simp, by (repeat' (first | exact Below.refl _ _ | assumption | refine Below.drew ?_ | refine Below.drewN' ?_ _ | refine Below.setCell ?_ (by first | (simp; done) | omega | (simp; omega)) _ | refine Below.alloc ?_ (by first | (simp; done) | omega | (simp; omega)) _ | refine Below.step ?_ (by assumption) (by first | (simp; done) | omega | (simp; omega))))⟩
      case rest =>
        obtain ⟨rfl, rfl⟩ := hcut
        cases ok with
        | false =>
          go_wp2_with fail
          go_ret
          exact ⟨by simp, by (repeat' (first | exact Below.refl _ _ | assumption | refine Below.drew ?_ | refine Below.drewN' ?_ _ | refine Below.setCell ?_ (by first | (simp; done) | omega | (simp; omega)) _ | refine Below.alloc ?_ (by first | (simp; done) | omega | (simp; omega)) _ | refine Below.step ?_ (by assumption) (by first | (simp; done) | omega | (simp; omega))))⟩
        | true =>
          go_wp2_with fail
          refine HCt.out.mono ?_
          rintro e w2 ⟨rfl, hb2⟩
          go_wp2_with fail
          go_ret
          exact ⟨by simp, Below.trans (by (repeat' (first | exact Below.refl _ _ | assumption | refine Below.drew ?_ | refine Below.drewN' ?_ _ | refine Below.setCell ?_ (by first | (simp; done) | omega | (simp; omega)) _ | refine Below.alloc ?_ (by first | (simp; done) | omega | (simp; omega)) _ | refine Below.step ?_ (by assumption) (by first | (simp; done) | omega | (simp; omega))))) (hb2.mono (by simp))⟩

theorem node_c : ∀ (m : Nat) (n : Nd), Mu.sz n ≤ m → NodeC n
  | 0, .mk k t c l p, h => by simp [Mu.sz] at h
  | m + 1, .mk k t c l p, h => node_any k t c l p fun n hn => node_c m n (by
      have := Mu.sz_mem l n hn
      simp [Mu.sz] at h
      omega)

/-- printer.node -/
theorem prn_node (n : Nd) : NodeC n := node_c _ n (Nat.le_refl _)

end Go.Proofs.YtdmhjnnogcpccaaGreatDoor
end
