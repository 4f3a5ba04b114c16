/- scope.refs, for whatever 'yield' does. scope.places. scope.Check. -/
import Derived.Test.YtdmhjnnogcpccaaGreatDoorJPre
import Derived.Maps.Own
import Derived.Maps.OwnOps
import Derived.Maps.OwnSet
import Derived.Maps.Views
section
namespace Go.Proofs.YtdmhjnnogcpccaaGreatDoor
open Go.RowKit
open Mu (Cl Bs Nd Ru Gr Tk)
set_option linter.unusedSimpArgs false
set_option linter.unusedVariables false

attribute [local irreducible] wpQuiet wpStill
attribute [local go_sem ↓] Go.wp_at_zero Go.wp_at_succ

/-- one goes through a list until one is told to stop -/
def goR {σ : Type} (step : σ → Bs × Int → σ × Bool) : List (Bs × Int) → σ → σ × Bool
  | [], s => (s, true)
  | x :: l, s => if (step s x).2 then goR step l (step s x).1 else ((step s x).1, false)

theorem goR_append {σ : Type} (step : σ → Bs × Int → σ × Bool) : ∀ (l m : List (Bs × Int)) (s : σ), goR step (l ++ m) s = if (goR step l s).2 then goR step m (goR step l s).1 else goR step l s
  | [], m, s => by simp [goR]
  | x :: l, m, s => by
    simp only [List.cons_append, goR]
    by_cases h : (step s x).2 = true
    · simp only [if_pos h]
      exact goR_append step l m _
    · simp [h]

/-- a step that may turn the blocks of M alone -/
structure Ch (M : Nat → Prop) (w w' : World) : Prop where
  os : w'.os = w.os
  tape : w'.tape = w.tape
  output : w'.output = w.output
  size : w.heap.size ≤ w'.heap.size
  block : ∀ k, k < w.heap.size → ¬ M k → w'.heap[k]? = w.heap[k]?

theorem Ch.refl (M : Nat → Prop) (w : World) : Ch M w w := ⟨rfl, rfl, rfl, Nat.le_refl _, fun _ _ _ => rfl⟩
theorem Ch.trans {M : Nat → Prop} {w w1 w2 : World} (h : Ch M w w1) (k : Ch M w1 w2) : Ch M w w2 := ⟨k.os.trans h.os, k.tape.trans h.tape, k.output.trans h.output, Nat.le_trans h.size k.size, fun j h1 h2 => (k.block j (Nat.lt_of_lt_of_le h1 h.size) h2).trans (h.block j h1 h2)⟩
theorem Ch.of_below {M : Nat → Prop} {w w1 : World} (h : Below w.heap.size w w1) : Ch M w w1 := ⟨h.os, h.tape, h.output, h.size, fun k hk _ => h.block k hk⟩

/-- what 'yield' does at a Ref -/
def YieldC {σ : Type} (f : FuncId) (caps : Array Value) (M : Nat → Prop) (step : σ → Bs × Int → σ × Bool) (J : σ → World → Prop) : Prop := ∀ (s : σ) (w : World) (n : Nd) (v : Value) (F : Nat → Prop), J s w → (∀ k, M k → k < w.heap.size) → RN w F v n → (∀ k, F k → k < w.heap.size ∧ ¬ M k) → n.kind = 5 →
  Calls Tryz.prog f (#[v] ++ caps) w fun e w' => e = .returned (.bool (step s (n.text, n.place)).2) ∧ J (step s (n.text, n.place)).1 w' ∧ Ch M w w'

/-- what 'refs' does at a tree -/
def RefsC {σ : Type} (f : FuncId) (caps : Array Value) (M : Nat → Prop) (step : σ → Bs × Int → σ × Bool) (J : σ → World → Prop) (n : Nd) : Prop := ∀ (s : σ) (w : World) (v : Value) (F : Nat → Prop), J s w → (∀ k, M k → k < w.heap.size) → RN w F v n → (∀ k, F k → k < w.heap.size ∧ ¬ M k) →
  Calls Tryz.prog 49 #[v, .func (.func f) #[] caps] w fun e w' => e = .returned (.bool (goR step (Mu.refs n) s).2) ∧ J (goR step (Mu.refs n) s).1 w' ∧ Ch M w w'

set_option maxHeartbeats 8000000 in
set_option maxRecDepth 20000 in
theorem refs_any {σ : Type} (f : FuncId) (eg : ∀ args w, (callFunc f args).run Tryz.prog w = .ok (.enter f args) w) (caps : Array Value) (M : Nat → Prop) (step : σ → Bs × Int → σ × Bool) (J : σ → World → Prop)
    (hJ : ∀ s w w', J s w → Below w.heap.size w w' → J s w') (hY : YieldC f caps M step J) (k : Int) (t : Bs) (c : Cl) (ns : List Nd) (p : Int) (hIH : ∀ n ∈ ns, RefsC f caps M step J n) : RefsC f caps M step J (.mk k t c ns p) := by
  intro s w v F hS hM hR hF
  obtain ⟨a, b, off, cap, C, hv, hns, htl⟩ := hR.open
  simp only [Nd.kind, Nd.text, Nd.cls, Nd.subs, Nd.place] at hv hns htl
  subst hv
  have hlim := hns.hlim
  unfold maxSubs at hlim
  have HY := Lib.hid hY
  have HJ := Lib.hid hJ
  have HS := Lib.hid hS
  have HNS := Lib.hid hns
  have HR := Lib.hid hR
  have HF := Lib.hid hF
  have HIH := Lib.hid hIH
  have HM := Lib.hid hM
  clear hY hJ hS hns hR hF hIH hM
  have hw1 : Below w.heap.size w (w.alloc (.cells (ndv k t c (.slice a ns.length cap) p).cells 30)) := by (repeat' (first | exact Below.refl _ _ | assumption | refine Below.drew ?_ | refine Below.drewN' ?_ _ | refine Below.setCell ?_ (by first | (simp; done) | omega | (simp; omega)) _ | refine Below.alloc ?_ (by first | (simp; done) | omega | (simp; omega)) _ | refine Below.step ?_ (by assumption) (by first | (simp; done) | omega | (simp; omega))))
  by_cases hk : k = 5
  · subst hk
    have hY1 := HY.out s (w.alloc (.cells (ndv 5 t c (.slice a ns.length cap) p).cells 30)) (.mk 5 t c ns p) _ F (HJ.out _ _ _ HS.out hw1) (fun q hq => by have := HM.out q hq; simp; omega) (HR.out.keep fun q hq => Below.heap_alloc _ _ _ (HF.out q hq).1) (fun q hq => ⟨by have := (HF.out q hq).1; simp; omega, (HF.out q hq).2⟩) rfl
    simp only [Nd.text, Nd.place] at hY1
    have hre : goR step (Mu.refs (.mk 5 t c ns p)) s = if (step s (t, p)).2 then goR step (Mu.refsL (ns.drop 0)) (step s (t, p)).1 else ((step s (t, p)).1, false) := by simp [Mu.refs, goR]
    have HY1 := Lib.hid hY1
    have HW1 := Lib.hid hw1
    cases hst : (step s (t, p)).2
    · rw [hst] at hre
      have HRE := Lib.hid hre
      have HST := Lib.hid hst
      clear hY1 hre hst hw1
      go_enter Tryz.func49, Tryz.ntmps49
      go_wp2_with fail
      refine HY1.out.mono ?_
      rintro e w2 ⟨rfl, hS2, hC2⟩
      have HS2 := Lib.hid hS2
      have HC2 := Lib.hid ((Ch.of_below HW1.out).trans hC2)
      rw [HST.out]
      clear hS2 hC2
      go_wp2_with fail
      go_ret
      exact ⟨by rw [HRE.out]; rfl, by rw [HRE.out]; exact HS2.out, HC2.out⟩
    · rw [hst, if_pos rfl] at hre
      generalize hR : goR step (Mu.refsL (ns.drop 0)) (step s (t, p)).1 = R at hre
      have HRE := Lib.hid hre
      have HG1 := Lib.hid hR
      have HST := Lib.hid hst
      clear hY1 hre hst hw1 hR
      go_enter Tryz.func49, Tryz.ntmps49
      go_wp2_with fail
      refine HY1.out.mono ?_
      rintro e w2 ⟨rfl, hS2, hC2⟩
      have hq2 := (hC2.block w.heap.size (by simp) (fun hq => by have := HM.out _ hq; omega)).trans (last_block w _)
      have hs2 := hC2.size
      simp at hs2
      have hwl : w.heap.size < w2.heap.size := by omega
      obtain ⟨x0, x1, x2, x3, x4, x5, x6, x7⟩ := (Row.refl hq2).cells8
      have HS1 := Lib.hid hS2
      have HC1 := Lib.hid ((Ch.of_below HW1.out).trans hC2)
      rw [HST.out]
      clear hS2 hC2 hq2
      go_wp2_with fail
      go_loopw [19] (fun u wr => ∃ (j : Nat) (sj : σ), j ≤ ns.length ∧ u = .int .i64 j ∧ J sj wr ∧ Ch M w wr ∧ goR step (Mu.refsL (ns.drop j)) sj = R) (fun u _ => ns.length - (intOf u).toNat)
      case atStart => exact ⟨0, _, Nat.zero_le _, rfl, HS1.out, HC1.out, HG1.out⟩
      case round =>
        obtain ⟨j, sj, hj, rfl, hSj, hCj, hGj⟩ := hrel
        have hszj := hCj.size
        have HSj := Lib.hid hSj
        have HCj := Lib.hid hCj
        have HGj := Lib.hid hGj
        clear hSj hCj hGj
        by_cases hlt : j < ns.length
        · have hn := HNS.out.keep (w' := wr) (fun q hq => HCj.out.block q (HF.out q hq).1 (HF.out q hq).2)
          obtain ⟨a', cap', rfl, hFb, hCk, t0, t1, t2, t3, t4, t5, t6, t7⟩ := hn.one j hlt
          have hRn := hn.hC j hlt
          rw [hCk] at hRn
          have hbl := (HF.out b hFb).1
          have hdr : ns.drop j = ns[j] :: ns.drop (j + 1) := List.drop_eq_getElem_cons hlt
          have hG2 := HGj.out
          rw [hdr] at hG2
          simp only [Mu.refsL] at hG2
          rw [goR_append] at hG2
          have hih := HIH.out _ (List.getElem_mem hlt)
          have hih2 := hih sj (wr.alloc (.cells (ndv ns[j].kind ns[j].text ns[j].cls (.slice a' ns[j].subs.length cap') ns[j].place).cells 30)) _ F (HJ.out _ _ _ HSj.out ((Below.refl _ _).alloc (Nat.le_refl _) _)) (fun q hq => by have := HM.out q hq; simp; omega) (hRn.keep fun q hq => Below.heap_alloc _ _ _ (by have := (HF.out q hq).1; omega)) (fun q hq => ⟨by have := (HF.out q hq).1; simp; omega, (HF.out q hq).2⟩)
          have HI2 := Lib.hid hih2
          have HG2 := Lib.hid hG2
          clear hn hCk hRn hdr hG2 hih hih2 HGj
          generalize ns[j] = n0 at t0 t1 t2 t3 t4 t5 t6 t7 HI2 HG2
          have hlti : (j : Int) < (ns.length : Int) := by omega
          go_wp2_with fail
          refine HI2.out.mono ?_
          rintro e w3 ⟨rfl, hS3, hC3⟩
          have HS3 := Lib.hid hS3
          have HC3 := Lib.hid ((HCj.out.trans (Ch.of_below ((Below.refl _ _).alloc (Nat.le_refl _) _))).trans hC3)
          clear hS3 hC3
          cases hb : (goR step (Mu.refs n0) sj).2
          · have hR : R = goR step (Mu.refs n0) sj := by
              rw [← HG2.out, hb]
              simp
            have HB := Lib.hid hb
            have HRR := Lib.hid hR
            clear hb hR
            go_wp2_with fail
            go_ret
            exact ⟨by rw [HRE.out, HRR.out, HB.out]; rfl, by rw [HRE.out, HRR.out]; exact HS3.out, HC3.out⟩
          · have hR := HG2.out
            rw [hb, if_pos rfl] at hR
            have HRR := Lib.hid hR
            clear hb hR
            go_wp2_with fail
            go_roundw
            case rel => exact ⟨j + 1, _, by omega, by go_num, HS3.out, HC3.out, HRR.out⟩
            case measure => simp [intOf]; omega
        · obtain rfl : j = ns.length := by omega
          have hR := HGj.out
          rw [List.drop_length] at hR
          simp only [Mu.refsL, goR] at hR
          have HRR := Lib.hid hR
          clear hR HGj
          go_wp2_with fail
          go_ret
          exact ⟨by rw [HRE.out, ← HRR.out]; rfl, by rw [HRE.out, ← HRR.out]; exact HSj.out, HCj.out⟩
  · have hki : (k == 5) = false := beq_eq_false_iff_ne.2 hk
    have hre : goR step (Mu.refs (.mk k t c ns p)) s = goR step (Mu.refsL (ns.drop 0)) s := by simp [Mu.refs, hk]
    generalize hR : goR step (Mu.refsL (ns.drop 0)) s = R at hre
    have HRE := Lib.hid hre
    have HG1 := Lib.hid hR
    have HS1 := Lib.hid (HJ.out _ _ _ HS.out hw1)
    have HC1 := Lib.hid (Ch.of_below (M := M) hw1)
    clear hk hre hR hw1
    go_enter Tryz.func49, Tryz.ntmps49
    go_wp2_with fail
    go_loopw [19] (fun u wr => ∃ (j : Nat) (sj : σ), j ≤ ns.length ∧ u = .int .i64 j ∧ J sj wr ∧ Ch M w wr ∧ goR step (Mu.refsL (ns.drop j)) sj = R) (fun u _ => ns.length - (intOf u).toNat)
    case atStart => exact ⟨0, _, Nat.zero_le _, rfl, HS1.out, HC1.out, HG1.out⟩
    case round =>
      obtain ⟨j, sj, hj, rfl, hSj, hCj, hGj⟩ := hrel
      have hszj := hCj.size
      have HSj := Lib.hid hSj
      have HCj := Lib.hid hCj
      have HGj := Lib.hid hGj
      clear hSj hCj hGj
      by_cases hlt : j < ns.length
      · have hn := HNS.out.keep (w' := wr) (fun q hq => HCj.out.block q (HF.out q hq).1 (HF.out q hq).2)
        obtain ⟨a', cap', rfl, hFb, hCk, t0, t1, t2, t3, t4, t5, t6, t7⟩ := hn.one j hlt
        have hRn := hn.hC j hlt
        rw [hCk] at hRn
        have hbl := (HF.out b hFb).1
        have hdr : ns.drop j = ns[j] :: ns.drop (j + 1) := List.drop_eq_getElem_cons hlt
        have hG2 := HGj.out
        rw [hdr] at hG2
        simp only [Mu.refsL] at hG2
        rw [goR_append] at hG2
        have hih := HIH.out _ (List.getElem_mem hlt)
        have hih2 := hih sj (wr.alloc (.cells (ndv ns[j].kind ns[j].text ns[j].cls (.slice a' ns[j].subs.length cap') ns[j].place).cells 30)) _ F (HJ.out _ _ _ HSj.out ((Below.refl _ _).alloc (Nat.le_refl _) _)) (fun q hq => by have := HM.out q hq; simp; omega) (hRn.keep fun q hq => Below.heap_alloc _ _ _ (by have := (HF.out q hq).1; omega)) (fun q hq => ⟨by have := (HF.out q hq).1; simp; omega, (HF.out q hq).2⟩)
        have HI2 := Lib.hid hih2
        have HG2 := Lib.hid hG2
        clear hn hCk hRn hdr hG2 hih hih2 HGj
        generalize ns[j] = n0 at t0 t1 t2 t3 t4 t5 t6 t7 HI2 HG2
        have hlti : (j : Int) < (ns.length : Int) := by omega
        go_wp2_with fail
        refine HI2.out.mono ?_
        rintro e w3 ⟨rfl, hS3, hC3⟩
        have HS3 := Lib.hid hS3
        have HC3 := Lib.hid ((HCj.out.trans (Ch.of_below ((Below.refl _ _).alloc (Nat.le_refl _) _))).trans hC3)
        clear hS3 hC3
        cases hb : (goR step (Mu.refs n0) sj).2
        · have hR : R = goR step (Mu.refs n0) sj := by
            rw [← HG2.out, hb]
            simp
          have HB := Lib.hid hb
          have HRR := Lib.hid hR
          clear hb hR
          go_wp2_with fail
          go_ret
          exact ⟨by rw [HRE.out, HRR.out, HB.out]; rfl, by rw [HRE.out, HRR.out]; exact HS3.out, HC3.out⟩
        · have hR := HG2.out
          rw [hb, if_pos rfl] at hR
          have HRR := Lib.hid hR
          clear hb hR
          go_wp2_with fail
          go_roundw
          case rel => exact ⟨j + 1, _, by omega, by go_num, HS3.out, HC3.out, HRR.out⟩
          case measure => simp [intOf]; omega
      · obtain rfl : j = ns.length := by omega
        have hR := HGj.out
        rw [List.drop_length] at hR
        simp only [Mu.refsL, goR] at hR
        have HRR := Lib.hid hR
        clear hR HGj
        go_wp2_with fail
        go_ret
        exact ⟨by rw [HRE.out, ← HRR.out]; rfl, by rw [HRE.out, ← HRR.out]; exact HSj.out, HCj.out⟩

theorem refs_c {σ : Type} (f : FuncId) (eg : ∀ args w, (callFunc f args).run Tryz.prog w = .ok (.enter f args) w) (caps : Array Value) (M : Nat → Prop) (step : σ → Bs × Int → σ × Bool) (J : σ → World → Prop)
    (hJ : ∀ s w w', J s w → Below w.heap.size w w' → J s w') (hY : YieldC f caps M step J) : ∀ (m : Nat) (n : Nd), Mu.sz n ≤ m → RefsC f caps M step J n
  | 0, .mk k t c l p, h => by simp [Mu.sz] at h
  | m + 1, .mk k t c l p, h => refs_any f eg caps M step J hJ hY k t c l p fun n hn => refs_c f eg caps M step J hJ hY m n (by
      have := Mu.sz_mem l n hn
      simp [Mu.sz] at h
      omega)

end Go.Proofs.YtdmhjnnogcpccaaGreatDoor
end

section
namespace Go.Proofs.YtdmhjnnogcpccaaGreatDoor
open Go.RowKit Go.Maps
open Mu (Cl Bs Nd Ru Gr Tk)
set_option linter.unusedSimpArgs false
set_option linter.unusedVariables false

attribute [local irreducible] wpQuiet wpStill
attribute [local go_sem ↓] Go.wp_at_zero Go.wp_at_succ

theorem Tryz.keyStr : Keyed Tryz.prog 9 := string_keyed Tryz.underlying9
theorem Tryz.zeroInt (w : World) : (zeroValue 3).run Tryz.prog w = .ok (.int .i64 0) w := by kernel_rfl

/-- block b is the map of the rules' places by their names -/
def PlMap (b : Nat) (g : Gr) (w : World) : Prop := ∃ (n : Nat) (D : DataW Unit), n ≤ g.length ∧ w.ownsMap Tryz.prog 9 (plainElem Tryz.prog 3) b n D ∧ IsMap D ∧
  ∀ name : Bs, has D (.string name) = (Mu.find g name).isSome ∧ ∀ i, Mu.find g name = some i → D.atKey (.string name) (.lit (.int .i64 0)) = .lit (.int .i64 (i : Int))

theorem find_snoc (l : Gr) (r : Ru) (name : Bs) : Mu.find (l ++ [r]) name = match Mu.find l name with
    | some i => some i
    | none => if r.name = name then some l.length else none := by
  unfold Mu.find
  rw [List.findIdx?_append]
  cases l.findIdx? (fun r => r.name == name) with
  | some i => simp
  | none =>
    by_cases h : r.name = name
    · simp [List.findIdx?_cons, h]
    · simp [List.findIdx?_cons, h]

set_option maxHeartbeats 8000000 in
set_option maxRecDepth 20000 in
theorem scope_places (g : Gr) (F : Nat → Prop) (a : Option Addr) (b off cap : Nat) (S : Nat → Value) (w : World) (h : RRs w F a b off g S) (hF : ∀ k, F k → k < w.heap.size) :
    Calls Tryz.prog 43 #[.agg #[.slice a g.length cap]] w fun e w' => ∃ m, e = .returned (.map (some m)) ∧ w.heap.size ≤ m ∧ PlMap m g w' ∧ Below w.heap.size w w' := by
  have hmm := @run_makeMap Tryz.prog
  have hlim := h.hlim
  unfold maxRus at hlim
  have H := Lib.hid h
  have HF := Lib.hid hF
  clear h hF
  go_enter Tryz.func43, Tryz.ntmps43
  go_wp2_with fail
  go_loopw [4, 6, 7, 12] (fun _ _ _ u wr => ∃ k : Nat, k ≤ g.length ∧ u = .int .i64 k ∧ PlMap (w.heap.size + 1) (g.take k) wr ∧ Below w.heap.size w wr ∧ w.heap.size + 2 ≤ wr.heap.size) (fun _ _ _ u _ => g.length - (intOf u).toNat)
  case atStart =>
    have h0 := World.ownsMap_made (H := Unit) (w.alloc (.cells #[.slice a g.length cap] 24)) Tryz.prog 9 (plainElem Tryz.prog 3)
    refine ⟨0, Nat.zero_le _, rfl, ⟨0, .map [], Nat.zero_le _, by simpa using h0, isMap_empty, fun name => ⟨by simp [has, Mu.find], fun i hi => by simp [Mu.find] at hi⟩⟩, by (repeat' (first | exact Below.refl _ _ | assumption | refine Below.drew ?_ | refine Below.drewN' ?_ _ | refine Below.setCell ?_ (by first | (simp; done) | omega | (simp; omega)) _ | refine Below.alloc ?_ (by first | (simp; done) | omega | (simp; omega)) _ | refine Below.step ?_ (by assumption) (by first | (simp; done) | omega | (simp; omega)))), by simp⟩
  case round =>
    obtain ⟨k, hk, rfl, hm, hb, hs⟩ := hrel
    have HM := Lib.hid hm
    have HB := Lib.hid hb
    clear hm hb
    by_cases hlt : k < g.length
    · have hn := H.out.keep (Keeps.of_below HB.out HF.out)
      obtain ⟨a', cap', rfl, hFb, hSk, t0, t1, t2, t3, t4, t5, t6, t7, t8, t9⟩ := hn.one k hlt
      have hnm := hn.hnm k hlt
      have hbl := HF.out b hFb
      have hbl2 : b < wr.heap.size := by omega
      have htk : g.take (k + 1) = g.take k ++ [g[k]] := List.take_succ_eq_append_getElem hlt
      have htl : (g.take k).length = k := by simp; omega
      have HTK := Lib.hid htk
      have HTL := Lib.hid htl
      clear htk htl
      generalize g[k] = r0 at t0 t1 t2 t3 t4 t5 t6 t7 t8 t9 hnm HTK
      clear hn hSk
      have hlti : (k : Int) < (g.length : Int) := by omega
      obtain ⟨n, D, hnl, hown, hmap, hD⟩ := HM.out
      have HOWN := Lib.hid hown
      have HD := Lib.hid hD
      have hlen : (ba r0.name).size ≤ maxLen := by show r0.name.length ≤ _; unfold maxLen; omega
      have hnk : n ≤ k := by simp at hnl; omega
      clear hown hD
      cases hf : (Mu.find (g.take k) r0.name).isSome
      · have hh := (HD.out r0.name).1
        rw [hf] at hh
        have HH := Lib.hid hh
        have HFD := Lib.hid hf
        clear hh hf
        go_wp2_with (first
          | (at_lookup; refine wpList_lookup_own_ok_int _ rfl _ _ 89 rfl 9 3 .i64 Tryz.keyStr Tryz.underlying89 Tryz.underlying3 (Tryz.zeroInt _) (w.heap.size + 1) n D rfl (HOWN.out.alloc _) _ _ rfl (WideMaps.keyOf_string_mk Tryz.underlying9 hlen) ?_; intro c hat hwc; rw [show Maps.has D (.string (ba r0.name).data.toList) = false from HH.out]; clear hat hwc)
          | (at_mapUpdate; refine wpList_mapUpdate_own _ rfl _ _ _ 89 rfl 9 3 Tryz.keyStr Tryz.underlying89 _ (w.heap.size + 1) n D rfl (HOWN.out.alloc _) (by unfold maxLen; omega) _ _ _ rfl rfl (WideMaps.keyOf_string_mk Tryz.underlying9 hlen) _ [] (plainElem_int Tryz.underlying3 (WalkArith.wf_i64 (by omega))) ?_; intro w5 hown5 hgr5; have HOWN5 := Lib.hid hown5; have HGR5 := Lib.hid hgr5; clear hown5 hgr5))
        go_roundw
        case rel =>
          refine ⟨k + 1, by omega, by go_num, ⟨n + 1, _, by simp; omega, HOWN5.out, hmap.put _ _, fun name => ?_⟩, (HB.out.alloc (by omega) _).grown HGR5.out (by simp; omega) (fun j hj => by cases hj; omega), by have := HGR5.out.size; simp at this; omega⟩
          rw [HTK.out, find_snoc]
          by_cases hne : r0.name = name
          · subst hne
            have hn0 : Mu.find (g.take k) r0.name = none := by simpa using HFD.out
            rw [hn0, if_pos rfl, HTL.out]
            exact ⟨has_put_same hmap (by simp [WideAt.IsKeyLit]) _, fun i hi => by cases hi; exact atKey_put_same hmap (by simp [WideAt.IsKeyLit]) _ _⟩
          · have hl : (Lit.string name) ≠ Lit.string r0.name := fun e => hne (by cases e; rfl)
            have h2 := HD.out name
            rw [if_neg hne]
            have e1 : has (D.put (.string r0.name) (.lit (.int .i64 (k : Int)))) (.string name) = has D (.string name) := has_put_other hl _
            have e2 : ∀ z, (D.put (.string r0.name) (.lit (.int .i64 (k : Int)))).atKey (.string name) z = D.atKey (.string name) z := fun z => atKey_put_other hl _ z
            cases hfn : Mu.find (g.take k) name with
            | some i => exact ⟨by rw [hfn] at h2; exact e1.trans h2.1, fun j hj => by cases hj; exact (e2 _).trans (h2.2 i hfn)⟩
            | none => exact ⟨by rw [hfn] at h2; exact e1.trans h2.1, fun j hj => by cases hj⟩
        case measure => simp [intOf]; omega
      · have hh := (HD.out r0.name).1
        rw [hf] at hh
        have HH := Lib.hid hh
        have HFD := Lib.hid hf
        clear hh hf
        go_wp2_with (at_lookup; refine wpList_lookup_own_ok_int _ rfl _ _ 89 rfl 9 3 .i64 Tryz.keyStr Tryz.underlying89 Tryz.underlying3 (Tryz.zeroInt _) (w.heap.size + 1) n D rfl (HOWN.out.alloc _) _ _ rfl (WideMaps.keyOf_string_mk Tryz.underlying9 hlen) ?_; intro c hat hwc; rw [show Maps.has D (.string (ba r0.name).data.toList) = true from HH.out]; clear hat hwc)
        go_roundw
        case rel =>
          refine ⟨k + 1, by omega, by go_num, ⟨n, D, by simp; omega, HOWN.out.alloc _, hmap, fun name => ?_⟩, HB.out.alloc (by omega) _, by simp; omega⟩
          rw [HTK.out, find_snoc]
          have h2 := HD.out name
          cases hfn : Mu.find (g.take k) name with
          | some i => rw [hfn] at h2; exact ⟨h2.1, fun j hj => h2.2 j hj⟩
          | none =>
            have hne : r0.name ≠ name := fun e => by
              have := HFD.out
              rw [e, hfn] at this
              cases this
            rw [if_neg hne]
            rw [hfn] at h2
            exact ⟨h2.1, fun j hj => by cases hj⟩
        case measure => simp [intOf]; omega
    · obtain rfl : k = g.length := by omega
      have hm := HM.out
      rw [List.take_length] at hm
      have HM2 := Lib.hid hm
      clear hm
      go_wp2_with fail
      go_ret
      exact ⟨w.heap.size + 1, rfl, by omega, HM2.out, HB.out⟩

end Go.Proofs.YtdmhjnnogcpccaaGreatDoor
end

section
namespace Go.Proofs.YtdmhjnnogcpccaaGreatDoor
open Go.RowKit Go.Maps
open Mu (Cl Bs Nd Ru Gr Tk)
set_option linter.unusedSimpArgs false
set_option linter.unusedVariables false

attribute [local irreducible] wpQuiet wpStill
attribute [local go_sem ↓] Go.wp_at_zero Go.wp_at_succ

theorem PlMap.keep {m : Nat} {g : Gr} {w w' : World} (h : PlMap m g w) (e : w'.heap[m]? = w.heap[m]?) : PlMap m g w' := by
  obtain ⟨n, D, h1, h2, h3, h4⟩ := h
  refine ⟨n, D, h1, ?_, h3, h4⟩
  unfold World.ownsMap at *
  rw [e]
  exact h2
theorem PlMap.lt {m : Nat} {g : Gr} {w : World} (h : PlMap m g w) : m < w.heap.size := by
  obtain ⟨n, D, h1, h2, h3, h4⟩ := h
  exact h2.lt

/-- what Check$1 finds: the map's variable, the map, the place -/
structure CkJ (g : Gr) (B m A : Nat) (x : Int) (w : World) : Prop where
  row : w.heap[B]? = some (.cells #[.map (some m)] 89)
  map : PlMap m g w
  spot : w.heap[A]? = some (.cells #[.int .i64 x] 3)

theorem lt_of_some {w : World} {k : Nat} {o : Obj} (h : w.heap[k]? = some o) : k < w.heap.size := by
  rcases Nat.lt_or_ge k w.heap.size with h1 | h1
  · exact h1
  · rw [Array.getElem?_eq_none h1] at h
    cases h

theorem CkJ.below {g : Gr} {B m A : Nat} {x : Int} {w w' : World} (h : CkJ g B m A x w) (hb : Below w.heap.size w w') : CkJ g B m A x w' :=
  ⟨(hb.block B (lt_of_some h.row)).trans h.row, h.map.keep (hb.block m h.map.lt), (hb.block A (lt_of_some h.spot)).trans h.spot⟩

theorem CkJ.turn {g : Gr} {B m A : Nat} {x : Int} {w : World} (h : CkJ g B m A x w) (hB : B ≠ A) (hm : m ≠ A) (y : Int) : CkJ g B m A y (w.setCell ⟨A, 0, none⟩ (.int .i64 y)) :=
  ⟨(Below.heap_setCell w ⟨A, 0, none⟩ _ B hB).trans h.row, h.map.keep (Below.heap_setCell w ⟨A, 0, none⟩ _ m hm), block_set h.spot _⟩

theorem Ch.turn {M : Nat → Prop} (w : World) (A : Nat) (hA : M A) (v : Value) : Ch M w (w.setCell ⟨A, 0, none⟩ v) :=
  ⟨rfl, rfl, rfl, by simp, fun k _ hk => Below.heap_setCell w ⟨A, 0, none⟩ v k (fun e => hk (e ▸ hA))⟩

/-- one step of Check$1 -/
def ckStep (g : Gr) : Int → Bs × Int → Int × Bool := fun _ x => (x.2, (Mu.find g x.1).isSome)

theorem goR_ck (g : Gr) : ∀ (l : List (Bs × Int)) (s : Int), (l.find? (fun x => (Mu.find g x.1).isNone) = none ∧ (goR (ckStep g) l s).2 = true) ∨ (∃ x, l.find? (fun x => (Mu.find g x.1).isNone) = some x ∧ goR (ckStep g) l s = (x.2, false))
  | [], s => .inl ⟨rfl, rfl⟩
  | x :: l, s => by
    cases h : Mu.find g x.1 with
    | none => exact .inr ⟨x, by simp [List.find?, h], by simp [goR, ckStep, h]⟩
    | some i =>
      have := goR_ck g l x.2
      simpa [List.find?, goR, ckStep, h] using this

set_option maxHeartbeats 4000000 in
set_option maxRecDepth 20000 in
theorem check1_c (g : Gr) (B m A : Nat) (hBA : B ≠ A) : YieldC 50 #[.pointer (some ⟨B, 0, none⟩), .pointer (some ⟨A, 0, none⟩)] (· = A) (ckStep g) (fun x w => CkJ g B m A x w) := by
  intro s w n v F hS hM hR hF hk
  obtain ⟨a, b, off, cap, C, hv, hns, htl⟩ := hR.open
  cases n with
  | mk k t c ns p =>
  simp only [Nd.kind, Nd.text, Nd.cls, Nd.subs, Nd.place] at hv hns htl hk ⊢
  subst hv hk
  have hb1 : Below w.heap.size w (w.alloc (.cells (ndv 5 t c (.slice a ns.length cap) p).cells 30)) := by (repeat' (first | exact Below.refl _ _ | assumption | refine Below.drew ?_ | refine Below.drewN' ?_ _ | refine Below.setCell ?_ (by first | (simp; done) | omega | (simp; omega)) _ | refine Below.alloc ?_ (by first | (simp; done) | omega | (simp; omega)) _ | refine Below.step ?_ (by assumption) (by first | (simp; done) | omega | (simp; omega))))
  have hS1 := hS.below hb1
  have hAl : A < w.heap.size := lt_of_some hS.spot
  have hBl : B < w.heap.size := lt_of_some hS.row
  have hml : m < w.heap.size := hS.map.lt
  have hAm : A ≠ m := by
    rintro rfl
    obtain ⟨n, D, h1, h2, h3, h4⟩ := hS.map
    obtain ⟨es, clock, hh, _⟩ := h2
    rw [hS.spot] at hh
    cases hh
  have bc : w.cell? ⟨B, 0, none⟩ = some (.map (some m)) := cell_at hS.row 0
  have ac : w.cell? ⟨A, 0, none⟩ = some (.int .i64 s) := cell_at hS.spot 0
  have af : w.frozen? ⟨A, 0, none⟩ = false := unfrozen_at hS.spot 0
  obtain ⟨n, D, hnl, hown, hmap, hD⟩ := hS1.map
  have hlen : (ba t).size ≤ maxLen := by show t.length ≤ _; unfold maxLen; omega
  have HOWN := Lib.hid hown
  have HD := Lib.hid hD
  have HS := Lib.hid hS
  have HH := Lib.hid (hD t).1
  clear hR hF hM hns hown hD hS hS1 hb1
  go_enter Tryz.func50, Tryz.ntmps50
  go_wp2_with (at_lookup; refine wpList_lookup_own_ok_int _ rfl _ _ 89 rfl 9 3 .i64 Tryz.keyStr Tryz.underlying89 Tryz.underlying3 (Tryz.zeroInt _) m n D rfl HOWN.out _ _ rfl (WideMaps.keyOf_string_mk Tryz.underlying9 hlen) ?_; intro c hat hwc; rw [show Maps.has D (.string (ba t).data.toList) = _ from HH.out]; clear hat hwc)
  go_ret
  have hq := HS.out.turn hBA hAm.symm p
  exact ⟨rfl, hq.below ((Below.refl _ _).alloc (Nat.le_refl _) _), (Ch.turn (M := fun x => x = A) w A rfl _).trans (Ch.of_below ((Below.refl _ _).alloc (Nat.le_refl _) _))⟩

/-- an error as a value; a fault lies from block B on -/
def ErV (B : Nat) (v : Value) (e : Option Mu.Er) (w : World) : Prop := match e with
  | none => v = .nilIface
  | some (.no c) => v = errnoV c
  | some (.at f) => IsFlt B v f w

theorem ErV.keep {B : Nat} {v : Value} {e : Option Mu.Er} {w w' : World} (h : ErV B v e w) (hb : Below w.heap.size w w') : ErV B v e w' := by
  match e, h with
  | none, h => exact h
  | some (.no c), h => exact h
  | some (.at f), h => exact IsFlt.keep h hb

theorem ErV.mono {B B' : Nat} {v : Value} {e : Option Mu.Er} {w : World} (h : ErV B v e w) (hb : B' ≤ B) : ErV B' v e w := by
  match e, h with
  | none, h => exact h
  | some (.no c), h => exact h
  | some (.at f), h => exact IsFlt.mono h hb

def CheckEnd (g : Gr) (w : World) (e : Ending) (w' : World) : Prop := Below w.heap.size w w' ∧ ∃ v, e = .returned v ∧ ErV w.heap.size v (Mu.check g) w'

/-- what Check answers, once the names are looked at -/
def chkRes (d : Option Ru) (l : Option (Bs × Int)) : Option Mu.Er := match d with
  | some r => some (.at ⟨30, r.place⟩)
  | none => match l with
    | some x => some (.at ⟨31, x.2⟩)
    | none => none

theorem check_ok {g : Gr} {s : Bs} (h : Mu.print g = .ok s) : Mu.check g = chkRes (Mu.double g g 0) (Mu.lostIn g g) := by
  unfold Mu.check
  rw [h]
  unfold chkRes
  simp only []
  cases Mu.double g g 0 with
  | some r => rfl
  | none => cases Mu.lostIn g g <;> rfl

theorem find_some (g : Gr) (k : Nat) (h : k < g.length) : ∃ i, Mu.find g g[k].name = some i ∧ i ≤ k := by
  unfold Mu.find
  cases hf : g.findIdx? (fun r => r.name == g[k].name) with
  | none =>
    have := List.findIdx?_eq_none_iff.1 hf g[k] (List.getElem_mem h)
    simp at this
  | some i =>
    refine ⟨i, rfl, ?_⟩
    obtain ⟨hi, he⟩ := List.findIdx?_eq_some_iff_findIdx_eq.1 hf
    rcases Nat.lt_or_ge k i with hlt | hge
    · rw [← he] at hlt
      have := List.not_of_lt_findIdx hlt
      simp at this
    · exact hge

theorem last2 (w : World) (o o2 : Obj) : ((w.alloc o).alloc o2).heap[w.heap.size + 1]? = some o2 := by
  have h := last_block (w.alloc o) o2
  have e : (w.alloc o).heap.size = w.heap.size + 1 := by simp
  rw [e] at h
  exact h

theorem Ch.below {M : Nat → Prop} {w w' : World} (h : Ch M w w') {n : Nat} (hM : ∀ k, M k → n ≤ k) (hn : n ≤ w.heap.size) : Below n w w' :=
  ⟨h.os, h.tape, h.output, h.size, fun k hk => h.block k (by omega) (fun hm => by have := hM k hm; omega)⟩

theorem double_drop (g : Gr) (k : Nat) (h : k < g.length) : Mu.double g (g.drop k) k = if Mu.find g g[k].name = some k then Mu.double g (g.drop (k + 1)) (k + 1) else some g[k] := by
  rw [List.drop_eq_getElem_cons h, Mu.double]

theorem lostIn_drop (g : Gr) (k : Nat) (h : k < g.length) : Mu.lostIn g (g.drop k) = match Mu.lost g g[k].body with
    | some x => some x
    | none => Mu.lostIn g (g.drop (k + 1)) := by
  rw [List.drop_eq_getElem_cons h, Mu.lostIn]
  rfl

set_option maxHeartbeats 8000000 in
set_option maxRecDepth 20000 in
theorem scope_check (g : Gr) (F : Nat → Prop) (a : Option Addr) (b off cap : Nat) (S : Nat → Value) (w : World) (h : RRs w F a b off g S) (hF : ∀ k, F k → k < w.heap.size) (hG : ErrT w) (hsz : 3000 * szg g ≤ 140737488200000) :
    Calls Tryz.prog 22 #[.agg #[.slice a g.length cap]] w (CheckEnd g w) := by
  have hlim := h.hlim
  unfold maxRus at hlim
  have hb1 : Below w.heap.size w (w.alloc (.cells #[.slice a g.length cap] 24)) := by (repeat' (first | exact Below.refl _ _ | assumption | refine Below.drew ?_ | refine Below.drewN' ?_ _ | refine Below.setCell ?_ (by first | (simp; done) | omega | (simp; omega)) _ | refine Below.alloc ?_ (by first | (simp; done) | omega | (simp; omega)) _ | refine Below.step ?_ (by assumption) (by first | (simp; done) | omega | (simp; omega))))
  have h1 := h.keep (Keeps.of_below hb1 hF)
  have HR := Lib.hid (prn_right g F a b off cap S _ h1 (fun k hk => by have := hF k hk; simp; omega) (hG.keep hb1 hG.2) hsz)
  have H := Lib.hid h
  have HF := Lib.hid hF
  clear h h1 hF hG hb1
  go_enter Tryz.func22, Tryz.ntmps22
  go_wp2_with fail
  refine HR.out.mono ?_
  rintro e w2 ⟨hb2, ⟨c, hc, rfl⟩ | ⟨s, hs, rfl⟩⟩
  · have hck : Mu.check g = some (.no c) := by unfold Mu.check; rw [hc]
    have HCK := Lib.hid hck
    clear hc hck
    go_wp2_with fail
    refine bodyPost_ret (v := errnoV c) (by simp [results, Tryz.results22, go_sem]) rfl ⟨Below.trans (by (repeat' (first | exact Below.refl _ _ | assumption | refine Below.drew ?_ | refine Below.drewN' ?_ _ | refine Below.setCell ?_ (by first | (simp; done) | omega | (simp; omega)) _ | refine Below.alloc ?_ (by first | (simp; done) | omega | (simp; omega)) _ | refine Below.step ?_ (by assumption) (by first | (simp; done) | omega | (simp; omega))))) (hb2.mono (by simp)), _, rfl, by rw [HCK.out]; rfl⟩
  · have HCK := Lib.hid (check_ok hs)
    have hq2 := (hb2.block w.heap.size (by simp)).trans (last_block w _)
    have hs2 := hb2.size
    simp at hs2
    have HB2 := Lib.hid (Below.trans (by (repeat' (first | exact Below.refl _ _ | assumption | refine Below.drew ?_ | refine Below.drewN' ?_ _ | refine Below.setCell ?_ (by first | (simp; done) | omega | (simp; omega)) _ | refine Below.alloc ?_ (by first | (simp; done) | omega | (simp; omega)) _ | refine Below.step ?_ (by assumption) (by first | (simp; done) | omega | (simp; omega)))) : Below w.heap.size w (w.alloc (.cells #[.slice a g.length cap] 24))) (hb2.mono (by simp)))
    have hwl : w.heap.size < w2.heap.size := by omega
    have y0 : w2.cell? ⟨w.heap.size, 0, none⟩ = some (.slice a g.length cap) := cell_at hq2 0
    have HP := Lib.hid (scope_places g F a b off cap S w2 (H.out.keep (Keeps.of_below HB2.out HF.out)) (fun k hk => by have := HF.out k hk; omega))
    have HQ2 := Lib.hid hq2
    clear hs hb2 hq2
    go_wp2_with fail
    refine HP.out.mono ?_
    rintro e w3 ⟨m, rfl, hm2, hm3, hb3⟩
    have hs3 := hb3.size
    have hm4 := hm3.lt
    have z0 : w3.cell? ⟨w.heap.size, 0, none⟩ = some (.slice a g.length cap) := cell_at ((hb3.block _ hwl).trans HQ2.out) 0
    have HB3 := Lib.hid (HB2.out.trans (hb3.mono (by omega)))
    have HM3 := Lib.hid hm3
    clear hm3 hb3 HP y0
    have hwl3 : w.heap.size < w3.heap.size := by omega
    generalize hDB : Mu.double g g 0 = DB at HCK
    generalize hLO : Mu.lostIn g g = LO at HCK
    have HDB := Lib.hid hDB
    have HLO := Lib.hid hLO
    clear hDB hLO
    go_wp2_with fail
    go_loopw [21] (fun u wr => ∃ k : Nat, k ≤ g.length ∧ u = .int .i64 k ∧ Mu.double g (g.drop k) k = DB ∧ Below (w3.heap.size + 1) (w3.alloc (.cells #[.map (some m)] 89)) wr) (fun u _ => g.length - (intOf u).toNat)
    case atStart => exact ⟨0, Nat.zero_le _, rfl, HDB.out, by have := Below.refl (w3.heap.size + 1) (w3.alloc (.cells #[.map (some m)] 89)); exact this⟩
    case round =>
      obtain ⟨k, hk, rfl, hdk, hbk⟩ := hrel
      have hsk := hbk.size
      simp at hsk
      have hsk2 : w3.heap.size < wr.heap.size := by omega
      have hsk3 : w.heap.size < wr.heap.size := by omega
      have HBK := Lib.hid hbk
      have hbw : Below w.heap.size w wr := (HB3.out.alloc (by omega) _).trans (hbk.mono (by omega))
      have HBW := Lib.hid hbw
      have hmw : PlMap m g wr := (HM3.out.keep (Below.heap_alloc _ _ _ hm4)).keep (hbk.block m (by omega))
      have v0 : wr.cell? ⟨w3.heap.size, 0, none⟩ = some (.map (some m)) := cell_at ((hbk.block w3.heap.size (by omega)).trans (last_block w3 _)) 0
      have u0 : wr.cell? ⟨w.heap.size, 0, none⟩ = some (.slice a g.length cap) := by
        rw [hbk.cell (p := ⟨w.heap.size, 0, none⟩) (by show w.heap.size < _; omega), World.cell?_alloc_lt _ _ ⟨w.heap.size, 0, none⟩ hwl3]
        exact z0
      have HDK := Lib.hid hdk
      have HMW := Lib.hid hmw
      clear hdk hbk hbw hmw
      by_cases hlt : k < g.length
      · have hn := H.out.keep (Keeps.of_below HBW.out HF.out)
        obtain ⟨a', cap', rfl, hFb, hSk, t0, t1, t2, t3, t4, t5, t6, t7, t8, t9⟩ := hn.one k hlt
        have hnm := hn.hnm k hlt
        have hbl := HF.out b hFb
        have hbl2 : b < wr.heap.size := by omega
        obtain ⟨i, hfi, hik⟩ := find_some g k hlt
        have hdd := double_drop g k hlt
        rw [HDK.out, hfi] at hdd
        have hlti : (k : Int) < (g.length : Int) := by omega
        obtain ⟨n, D, hnl, hown, hmap, hD⟩ := HMW.out
        have hat := (hD g[k].name).2 i hfi
        have HOWN := Lib.hid hown
        have HDD := Lib.hid hdd
        have HAT := Lib.hid hat
        have HH := Lib.hid ((hD g[k].name).1)
        have hlen : (ba g[k].name).size ≤ maxLen := by show g[k].name.length ≤ _; unfold maxLen; omega
        clear hown hD hdd hat hfi hn hSk
        generalize g[k] = r0 at t0 t1 t2 t3 t4 t5 t6 t7 t8 t9 hnm HDD HAT HH hlen
        by_cases hki : i = k
        · subst hki
          have hdd := HDD.out
          rw [if_pos rfl] at hdd
          have HD2 := Lib.hid hdd
          clear hdd HDD
          go_wp2_with (at_lookup; refine wpList_lookup_own_int _ rfl _ _ 89 rfl 9 3 .i64 Tryz.keyStr Tryz.underlying89 Tryz.underlying3 (Tryz.zeroInt _) m n D rfl (HOWN.out.alloc _) _ _ rfl (WideMaps.keyOf_string_mk Tryz.underlying9 hlen) ?_; intro c hat hwc; obtain rfl : c = (i : Int) := (by have h1 := hat.symm.trans HAT.out; simpa using h1); clear hat hwc)
          go_roundw
          case rel => exact ⟨i + 1, by omega, by go_num, by rw [← HD2.out], HBK.out.alloc (by omega) _⟩
          case measure => simp [RowKit.intOf]; omega
        · have hdd := HDD.out
          rw [if_neg (by intro e; cases e; exact hki rfl)] at hdd
          have hck := HCK.out
          rw [hdd] at hck
          have HC2 := Lib.hid hck
          have hki2 : ¬ (i : Int) = (k : Int) := by omega
          clear hdd HDD hck
          go_wp2_with (at_lookup; refine wpList_lookup_own_int _ rfl _ _ 89 rfl 9 3 .i64 Tryz.keyStr Tryz.underlying89 Tryz.underlying3 (Tryz.zeroInt _) m n D rfl (HOWN.out.alloc _) _ _ rfl (WideMaps.keyOf_string_mk Tryz.underlying9 hlen) ?_; intro c hat hwc; obtain rfl : c = (i : Int) := (by have h1 := hat.symm.trans HAT.out; simpa using h1); clear hat hwc)
          have hb9 := (HBW.out.alloc (by omega) (.cells (ruOf r0 (.slice a' r0.body.subs.length cap')).cells 60)).alloc (by simp; omega) (.cells #[.int .i64 30, .int .i64 r0.place] 86)
          refine bodyPost_ret (v := .iface 83 (.pointer (some ⟨wr.heap.size + 1, 0, none⟩))) (by simp [results, Tryz.results22, go_sem]) rfl ⟨hb9, _, rfl, by rw [HC2.out]; exact ⟨wr.heap.size + 1, by omega, rfl, last2 _ _ _⟩⟩
      · obtain rfl : k = g.length := by omega
        have hdk := HDK.out
        rw [List.drop_length, Mu.double] at hdk
        have hck := HCK.out
        rw [← hdk] at hck
        have HC2 := Lib.hid hck
        clear hdk HDK hck HCK
        go_wp2_with fail
        go_loopw [41] (fun u wr => ∃ k : Nat, k ≤ g.length ∧ u = .int .i64 k ∧ Mu.lostIn g (g.drop k) = LO ∧ Below (w3.heap.size + 1) (w3.alloc (.cells #[.map (some m)] 89)) wr) (fun u _ => g.length - (RowKit.intOf u).toNat)
        case atStart => exact ⟨0, Nat.zero_le _, rfl, HLO.out, HBK.out⟩
        case round =>
          clear HBK HBW HMW u0 v0 hsk hsk2 hsk3
          obtain ⟨k, hk, rfl, hdk, hbk⟩ := hrel
          clear hlt
          have hsk := hbk.size
          simp at hsk
          have hsk2 : w3.heap.size < wr.heap.size := by omega
          have hsk3 : w.heap.size < wr.heap.size := by omega
          have HBK := Lib.hid hbk
          have hbw : Below w.heap.size w wr := (HB3.out.alloc (by omega) _).trans (hbk.mono (by omega))
          have HBW := Lib.hid hbw
          have hmw : PlMap m g wr := (HM3.out.keep (Below.heap_alloc _ _ _ hm4)).keep (hbk.block m (by omega))
          have hv0 := (hbk.block w3.heap.size (by omega)).trans (last_block w3 _)
          have v0 : wr.cell? ⟨w3.heap.size, 0, none⟩ = some (.map (some m)) := cell_at hv0 0
          have HV0 := Lib.hid hv0
          have HMW := Lib.hid hmw
          have HDK := Lib.hid hdk
          clear hbk hbw hmw hv0 hdk
          by_cases hlt : k < g.length
          · have hn := H.out.keep (Keeps.of_below HBW.out HF.out)
            obtain ⟨a', cap', rfl, hFb, hSk, t0, t1, t2, t3, t4, t5, t6, t7, t8, t9⟩ := hn.one k hlt
            have hRk := hn.hS k hlt
            rw [hSk] at hRk
            have hbl := HF.out b hFb
            have hbl2 : b < wr.heap.size := by omega
            have hdd := lostIn_drop g k hlt
            rw [HDK.out] at hdd
            have hlti : (k : Int) < (g.length : Int) := by omega
            have HDD := Lib.hid hdd
            have HRk := Lib.hid hRk
            clear hn hSk hRk hdd HDK
            generalize g[k] = r0 at t0 t1 t2 t3 t4 t5 t6 t7 t8 t9 HDD HRk
            have hW0 : Below wr.heap.size wr ((wr.alloc (.cells (ruOf r0 (.slice a' r0.body.subs.length cap')).cells 60)).alloc (.cells #[.int .i64 0] 3)) := ((Below.refl _ _).alloc (Nat.le_refl _) _).alloc (by simp) _
            have hJ0 : CkJ g w3.heap.size m (wr.heap.size + 1) 0 ((wr.alloc (.cells (ruOf r0 (.slice a' r0.body.subs.length cap')).cells 60)).alloc (.cells #[.int .i64 0] 3)) :=
              ⟨(hW0.block _ hsk2).trans HV0.out, HMW.out.keep (hW0.block m (by omega)), last2 _ _ _⟩
            have hrc := refs_c 50 (enters_of Tryz.func50 (by kernel_rfl) rfl) #[.pointer (some ⟨w3.heap.size, 0, none⟩), .pointer (some ⟨wr.heap.size + 1, 0, none⟩)] (· = wr.heap.size + 1) (ckStep g) (fun x w => CkJ g w3.heap.size m (wr.heap.size + 1) x w) (fun _ _ _ h hb => h.below hb) (check1_c g w3.heap.size m (wr.heap.size + 1) (by omega)) (Mu.sz r0.body) r0.body (Nat.le_refl _)
              0 _ _ F hJ0 (fun q hq => by subst hq; simp) (HRk.out.keep (w' := (wr.alloc (.cells (ruOf r0 (.slice a' r0.body.subs.length cap')).cells 60)).alloc (.cells #[.int .i64 0] 3)) fun q hq => hW0.block q (by have := HF.out q hq; omega)) (fun q hq => by have := HF.out q hq; exact ⟨by simp; omega, by omega⟩)
            have HRC := Lib.hid hrc
            have HW0 := Lib.hid hW0
            clear hW0 hJ0 hrc
            go_wp2_with fail
            refine HRC.out.mono ?_
            rintro e w4 ⟨rfl, hJ4, hC4⟩
            have hs4 := hC4.size
            simp at hs4
            have hb4 : Below (w3.heap.size + 1) wr w4 := (HW0.out.mono (by omega)).trans (hC4.below (fun q hq => by omega) (by simp; omega))
            have HB4 := Lib.hid hb4
            have hb5 : Below w.heap.size w w4 := HBW.out.trans (hb4.mono (by omega))
            have HB5 := Lib.hid hb5
            have hwl4 : wr.heap.size + 1 < w4.heap.size := by omega
            clear hC4 hb4 hb5
            rcases goR_ck g (Mu.refs r0.body) 0 with ⟨hf, hg2⟩ | ⟨x, hf, hg2⟩
            · rw [hg2]
              have hdd := HDD.out
              rw [show Mu.lost g r0.body = none from hf] at hdd
              have HD2 := Lib.hid hdd
              clear hJ4 hf hg2 hdd HDD HRC
              go_wp2_with fail
              go_roundw
              case rel => exact ⟨k + 1, by omega, by go_num, by rw [HD2.out], HBK.out.trans HB4.out⟩
              case measure => simp [RowKit.intOf]; omega
            · rw [hg2] at hJ4 ⊢
              have hdd := HDD.out
              rw [show Mu.lost g r0.body = some x from hf] at hdd
              have hck := HC2.out
              rw [hdd] at hck
              have HCK2 := Lib.hid hck
              have y9 : w4.cell? ⟨wr.heap.size + 1, 0, none⟩ = some (.int .i64 x.2) := cell_at hJ4.spot 0
              clear hJ4 hf hg2 hdd HDD HRC hck
              go_wp2_with fail
              refine bodyPost_ret (v := .iface 83 (.pointer (some ⟨w4.heap.size, 0, none⟩))) (by simp [results, Tryz.results22, go_sem]) rfl ⟨HB5.out.alloc (by omega) _, _, rfl, by rw [HCK2.out]; exact ⟨w4.heap.size, by omega, rfl, last_block _ _⟩⟩
          · obtain rfl : k = g.length := by omega
            have hdk := HDK.out
            rw [List.drop_length, Mu.lostIn] at hdk
            have hck := HC2.out
            rw [← hdk] at hck
            have HCK2 := Lib.hid hck
            clear hdk HDK hck
            go_wp2_with fail
            go_ret
            exact ⟨HBW.out, _, rfl, by rw [HCK2.out]; rfl⟩

end Go.Proofs.YtdmhjnnogcpccaaGreatDoor
end
