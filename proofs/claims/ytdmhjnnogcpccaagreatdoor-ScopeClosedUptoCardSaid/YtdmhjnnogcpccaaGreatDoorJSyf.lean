/- syntax.reader: row. syntax.reader: choice; all of the reader of trees. -/
import Derived.Test.YtdmhjnnogcpccaaGreatDoorJSye
import Derived.Lib.SliceRun
import Derived.Maps.AppendAt
import Derived.OwnWalk
section
namespace Go.Proofs.YtdmhjnnogcpccaaGreatDoor
open Go.RowKit
open Mu (Cl Bs Nd Ru Gr Tk)
set_option linter.unusedSimpArgs false
set_option linter.unusedVariables false

attribute [local irreducible] wpQuiet wpStill
attribute [local go_sem ↓] Go.wp_at_zero Go.wp_at_succ

/-- how many tokens are left to a reader -/
def rdLeft (b : Nat) (w : World) : Nat := match w.cell? ⟨b, 0, none⟩ with
  | some (.slice _ n _) => n
  | _ => 0

theorem IsRdr.left {b g : Nat} {L : List Tk} {i d : Nat} {w : World} (h : IsRdr b g L i d w) : rdLeft b w = L.length - i := by
  obtain ⟨cap, c0, _⟩ := h.cells
  simp [rdLeft, c0]

/-- a row's tree, out of its parts -/
def rowRes : Except Mu.Flt (List Nd × List Tk) → Except Mu.Flt (Nd × List Tk)
  | .error e => .error e
  | .ok ([], q) => .ok (.mk 1 [] Cl.zero [] (Mu.tk0 q).place, q)
  | .ok (ns, q) => .ok (Mu.joined 6 ns, q)

theorem rowWith_eq (P : List Tk → Except Mu.Flt (Option Nd × List Tk)) (l : List Tk) : Mu.rowWith P l = rowRes (Mu.partsK P (l.length + 1) [] l) := by
  unfold Mu.rowWith
  rcases Mu.partsK P (l.length + 1) [] l with e | ⟨_ | ⟨n, ns⟩, q⟩ <;> rfl

abbrev PartF := List Tk → Except Mu.Flt (Option Nd × List Tk)

def RowInv (B b g c : Nat) (L : List Tk) (d i0 : Nat) (P : PartF) (RES : Except Mu.Flt (List Nd × List Tk)) (W0 wr : World) : Prop :=
  ∃ (ns : List Nd) (v : Value) (i k : Nat), Pf B b c W0 wr ∧ IsRdr b g L i d wr ∧ i0 + ns.length ≤ i ∧ i < L.length ∧ wr.heap[c]? = some (.cells #[v] 28) ∧ NdRow B v ns wr ∧ (ns = [] → v = .slice none 0 0) ∧
    Mu.partsK P k ns.reverse (L.drop i) = RES ∧ L.length - i < k

theorem partsK_err {P : PartF} {k : Nat} {acc : List Nd} {l : List Tk} {f : Mu.Flt} (h : P l = .error f) (hk : 0 < k) : Mu.partsK P k acc l = .error f := by
  cases k with
  | zero => omega
  | succ k => simp [Mu.partsK, h]
theorem partsK_none {P : PartF} {k : Nat} {acc : List Nd} {l q : List Tk} (h : P l = .ok (none, q)) (hk : 0 < k) : Mu.partsK P k acc l = .ok (acc.reverse, q) := by
  cases k with
  | zero => omega
  | succ k => simp [Mu.partsK, h]
theorem partsK_some {P : PartF} {k : Nat} {acc : List Nd} {l q : List Tk} {n : Nd} (h : P l = .ok (some n, q)) : Mu.partsK P (k + 1) acc l = Mu.partsK P k (n :: acc) q := by
  simp [Mu.partsK, h]

theorem NdRow.nil (B : Nat) (w : World) : NdRow B (.slice none 0 0) [] w := ⟨[], rfl, by exact World.ownsRow_nil _ _ _ _, fun i h => by simp at h⟩

theorem Pf.trans {B b c : Nat} {w0 w1 w2 : World} (h : Pf B b c w0 w1) (k : Pf B b c w1 w2) : Pf B b c w0 w2 := ⟨k.os.trans h.os, k.tape.trans h.tape, k.output.trans h.output, Nat.le_trans h.size k.size, fun j h1 h2 h3 => (k.block j h1 h2 h3).trans (h.block j h1 h2 h3)⟩
theorem Pf.refl (B b c : Nat) (w : World) : Pf B b c w w := ⟨rfl, rfl, rfl, Nat.le_refl _, fun _ _ _ _ => rfl⟩

/-- seen from where the call began: c is a block of its own -/
theorem Pf.rf {B b c : Nat} {w W0 w1 : World} (h : Pf B b c W0 w1) (h0 : Below w.heap.size w W0) (hB : w.heap.size ≤ B) (hc : w.heap.size ≤ c) (hb : b < w.heap.size) : Rf b w w1 :=
  ⟨⟨h.os.trans h0.os, h.tape.trans h0.tape, h.output.trans h0.output, Nat.le_trans h0.size h.size, fun k hk => (h.block k (by omega) (by omega) (by omega)).trans (h0.block k (by omega))⟩, fun k hk hne => (h.block k (by omega) hne (by omega)).trans (h0.block k hk)⟩

theorem RN.bound {w : World} {F : Nat → Prop} {v : Value} {n : Nd} (h : RN w F v n) : v = ndv n.kind n.text n.cls (v.cells.getD 6 .nilIface) n.place := by
  obtain ⟨a, b, off, cap, C, hv, _⟩ := h.open
  rw [hv]
  rfl

def RwOk (P : PartF) (d : Nat) : Prop := ∀ (b g : Nat) (L : List Tk) (i : Nat) (w : World), IsRdr b g L i d w → Ends L → i < L.length →
  Calls Tryz.prog 82 #[.pointer (some ⟨b, 0, none⟩)] w (NdEnd b g L i d w (Mu.rowWith P (L.drop i)))

set_option maxHeartbeats 4000000 in
set_option maxRecDepth 20000 in
theorem row_any (d : Nat) (One : List Tk → Except Mu.Flt (Option Nd × List Tk))
    (hO : ∀ (b g : Nat) (L : List Tk) (i : Nat) (w : World), IsRdr b g L i d w → Ends L → i < L.length → Calls Tryz.prog 153 #[.pointer (some ⟨b, 0, none⟩)] w (OneEnd b g L i d w (One (L.drop i)))) :
    RwOk (Mu.partWith One) d := by
  intro b g L i w h hE hi
  have hP := fun (B b g c : Nat) (i : Nat) (v : Value) (ns : List Nd) (w : World) h hi hc hcb hcB hbB hgB hgc hB hr hl => part_any d One hO B b g c L i v ns w h hE hi hc hcb hcB hbB hgB hgc hB hr hl
  have HP := Lib.hid hP
  have H := Lib.hid h
  have hlt := h.lt
  have hlg := h.tok.lt
  have hEl := hE.1
  have qT : ∀ (w : World) (a : Option Addr) (n c n' c' : Nat), (binOp .eql 28 (.slice a n c) (.slice none n' c')).run Tryz.prog w = .ok (.bool a.isNone) w := fun w a n c n' c' => Lib.run_eql_slice_nil w _ _ a n c n' c' Tryz.underlying28
  generalize hR : Mu.partsK (Mu.partWith One) (L.length - i + 1) [] (L.drop i) = RES
  have HRES := Lib.hid hR
  clear h hP hO hR
  go_enter Tryz.func82, Tryz.ntmps82
  go_wp2_with fail
  go_loopw [5] (fun _ wr => RowInv (w.heap.size + 2) b g (w.heap.size + 1) L d i (Mu.partWith One) RES ((w.alloc (.cells #[.int .i64 0, .string ⟨#[]⟩, .int .u64 0, .int .u64 0, .int .u64 0, .int .u64 0, .slice none 0 0, .int .i64 0] 30)).alloc (.cells #[.slice none 0 0] 28)) wr) (fun _ wr => rdLeft b wr)
  case atStart =>
    exact ⟨[], .slice none 0 0, i, _, Pf.refl _ _ _ _, H.out.keep (by (repeat' (first | exact Below.refl _ _ | assumption | refine Below.drew ?_ | refine Below.drewN' ?_ _ | refine Below.setCell ?_ (by first | (simp; done) | omega | (simp; omega)) _ | refine Below.alloc ?_ (by first | (simp; done) | omega | (simp; omega)) _ | refine Below.step ?_ (by assumption) (by first | (simp; done) | omega | (simp; omega))))), by simp, hi, new_at _ _ _ (by simp), NdRow.nil _ _, fun _ => rfl, HRES.out, by omega⟩
  case round =>
    obtain ⟨ns, v, i1, k, hpf, hI, hin, hil, hc, hnr, hnil, hres, hk⟩ := hrel
    have hB0 : Below w.heap.size w ((w.alloc (.cells #[.int .i64 0, .string ⟨#[]⟩, .int .u64 0, .int .u64 0, .int .u64 0, .int .u64 0, .slice none 0 0, .int .i64 0] 30)).alloc (.cells #[.slice none 0 0] 28)) := by (repeat' (first | exact Below.refl _ _ | assumption | refine Below.drew ?_ | refine Below.drewN' ?_ _ | refine Below.setCell ?_ (by first | (simp; done) | omega | (simp; omega)) _ | refine Below.alloc ?_ (by first | (simp; done) | omega | (simp; omega)) _ | refine Below.step ?_ (by assumption) (by first | (simp; done) | omega | (simp; omega))))
    have hR0 : ((w.alloc (.cells #[.int .i64 0, .string ⟨#[]⟩, .int .u64 0, .int .u64 0, .int .u64 0, .int .u64 0, .slice none 0 0, .int .i64 0] 30)).alloc (.cells #[.slice none 0 0] 28)).heap[w.heap.size]? = some (.cells #[.int .i64 0, .string ⟨#[]⟩, .int .u64 0, .int .u64 0, .int .u64 0, .int .u64 0, .slice none 0 0, .int .i64 0] 30) := by
      rw [Below.heap_alloc _ _ _ (by simp)]
      exact last_block _ _
    have hsW : ((w.alloc (.cells #[.int .i64 0, .string ⟨#[]⟩, .int .u64 0, .int .u64 0, .int .u64 0, .int .u64 0, .slice none 0 0, .int .i64 0] 30)).alloc (.cells #[.slice none 0 0] 28)).heap.size = w.heap.size + 2 := by simp
    generalize ((w.alloc (.cells #[.int .i64 0, .string ⟨#[]⟩, .int .u64 0, .int .u64 0, .int .u64 0, .int .u64 0, .slice none 0 0, .int .i64 0] 30)).alloc (.cells #[.slice none 0 0] 28)) = W0 at hpf hB0 hR0 hsW
    have hrw : Mu.rowWith (Mu.partWith One) (L.drop i) = rowRes RES := by
      rw [← HRES.out, rowWith_eq]
      simp
    have hr1 := hpf.size
    have HPF := Lib.hid hpf
    have HI := Lib.hid hI
    have HC := Lib.hid hc
    have HNR := Lib.hid hnr
    have HNIL := Lib.hid hnil
    have HRES' := Lib.hid hres
    have HRW := Lib.hid hrw
    have HB0 := Lib.hid hB0
    have HR0 := Lib.hid hR0
    clear hpf hI hc hnr hnil hres hrw hB0 hR0
    go_wp2_with fail
    refine (HP.out (w.heap.size + 2) b g (w.heap.size + 1) i1 v ns wr HI.out hil HC.out (by omega) (by omega) (by omega) (by omega) (by omega) (by omega) HNR.out (by omega)).mono ?_
    rintro e w1 ⟨hpf1, ⟨f, hf, v', rfl, hv⟩ | ⟨hn, rfl, hI1, hc1, hnr1⟩ | ⟨n, v', i2, hn, hi2, hi2l, rfl, hI1, hc1, hnr1⟩⟩
    · have HV := Lib.hid hv
      have HF := Lib.hid hf
      have HRF := Lib.hid ((HPF.out.trans hpf1).rf HB0.out (by omega) (by omega) hlt)
      clear hv hf hpf1
      go_wp2_with fail
      exact ⟨rfl, HRF.out, .inl ⟨f, by rw [HRW.out, ← HRES'.out, partsK_err HF.out (by omega)]; rfl, _, rfl, HV.out.mono (by omega)⟩⟩
    · have hB1 := (HPF.out.trans hpf1)
      have hq := (hB1.block w.heap.size (by omega) (by omega) (by omega)).trans HR0.out
      have HRF := Lib.hid (hB1.rf HB0.out (by omega) (by omega) hlt)
      have hRES : RES = .ok (ns, L.drop i1) := by rw [← HRES'.out, partsK_none hn (by omega), List.reverse_reverse]
      have hl1 : w.heap.size + 2 ≤ w1.heap.size := by have := hB1.size; omega
      obtain ⟨q0, q1, q2, q3, q4, q5, q6, q7⟩ := (Row.refl hq).cells8
      have z0 := unfrozen_at hq
      have r0 := cell_at hc1 0
      have HQ := Lib.hid hq
      have HI1 := Lib.hid hI1
      have HNR1 := Lib.hid hnr1
      have HRS := Lib.hid hRES
      clear hB1 hq hRES hI1 hnr1 hc1 hn hpf1
      by_cases hne : ns = []
      · have hv0 := HNIL.out hne
        subst hne
        subst hv0
        obtain ⟨tq, htq⟩ : ∃ tq, L[i1]? = some tq := ⟨L[i1], List.getElem?_eq_some_iff.2 ⟨hil, rfl⟩⟩
        obtain ⟨n, cap, HN, c0, c1, hnc, hnl, f0, f1, hlt1, hlg1, hgb, t0, t1, t2, t3, t4, t5, t6⟩ := HI1.out.all htq
        have HTQ := Lib.hid htq
        clear htq
        go_wp2_with fail
        refine ret_row8 HQ.out ?_
        intro W hW
        obtain ⟨x0, x1, x2, x3, x4, x5, x6, x7⟩ := hW.cells8
        have hWs := hW.size
        refine bodyPost_ret (v := ndz 1 (.slice none 0 0) tq.place) (by simp [results, Tryz.results82, go_sem, x0, x1, x2, x3, x4, x5, x6, x7]) rfl ⟨hW.rf HRF.out (Nat.le_refl _) (by omega), .inr ⟨.mk 1 [] Cl.zero [] tq.place, _, i1, ?_, by omega, hil, rfl, RN.leaf _ _ _ [] Cl.zero _ (by simp), HI1.out.row hW (by omega) (by omega)⟩⟩
        rw [HRW.out, HRS.out]
        simp [rowRes, tk0_drop HTQ.out]
      · obtain ⟨a, nb, off, cap, C, hv, hlc, hcm, hrns⟩ := HNR1.out.rns hne (by omega)
        obtain rfl : a = some ⟨nb, off, none⟩ := by
          rcases hrns.ha with h0 | h0
          · exact absurd (List.length_eq_zero_iff.1 h0) hne
          · exact h0
        subst hv
        have hj := joined_any 6 _ _ nb off cap ns C w1 hrns (fun k hk => hk.2) hne (by omega)
        have HJ := Lib.hid hj
        have HNE := Lib.hid hne
        clear hj hrns hlc hcm hne
        go_wp2_with fail
        refine HJ.out.mono ?_
        rintro e w2 ⟨v2, rfl, hrn, hb2⟩
        obtain ⟨a2, nb2, off2, nc2, C2, hv2, _, _⟩ := hrn.open
        subst hv2
        have hq2 := (hb2.block w.heap.size (by omega)).trans HQ.out
        have hI2 := HI1.out.keep hb2
        have hrf2 := HRF.out.step (by omega) hb2
        have hs2 := hb2.size
        obtain ⟨q0, q1, q2, q3, q4, q5, q6, q7⟩ := (Row.refl hq2).cells8
        have z0 := unfrozen_at hq2
        have HQ2 := Lib.hid hq2
        have HI2 := Lib.hid hI2
        have HRF2 := Lib.hid hrf2
        have HRN2 := Lib.hid hrn
        clear hq2 hI2 hrf2 hrn hb2
        go_wp2_with fail
        refine ret_row8 HQ2.out ?_
        intro W hW
        obtain ⟨x0, x1, x2, x3, x4, x5, x6, x7⟩ := hW.cells8
        have hWs := hW.size
        refine bodyPost_ret (v := ndv (Mu.joined 6 ns).kind (Mu.joined 6 ns).text (Mu.joined 6 ns).cls (.slice a2 (Mu.joined 6 ns).subs.length nc2) (Mu.joined 6 ns).place) (by simp [results, Tryz.results82, go_sem, x0, x1, x2, x3, x4, x5, x6, x7]) rfl ⟨hW.rf HRF2.out (Nat.le_refl _) (by omega), .inr ⟨Mu.joined 6 ns, _, i1, ?_, by omega, hil, rfl, ?_, HI2.out.row hW (by omega) (by omega)⟩⟩
        · rw [HRW.out, HRS.out]
          match ns, HNE.out with
          | n :: l, _ => rfl
        · refine (HRN2.out.keep (w' := W) ?_).mono (F' := Fresh w W) ?_
          · intro k hk
            exact hW.only k (by have := hk.1; omega)
          · intro k hk
            exact ⟨by have := hk.1; omega, by have := hk.2; omega⟩
    · have HN := Lib.hid hn
      have HPF1 := Lib.hid (HPF.out.trans hpf1)
      have HI1 := Lib.hid hI1
      have HC1 := Lib.hid hc1
      have HNR1 := Lib.hid hnr1
      clear hn hpf1 hI1 hc1 hnr1
      go_wp2_with fail
      go_roundw
      case rel =>
        obtain ⟨k', rfl⟩ : ∃ k', k = k' + 1 := ⟨k - 1, by omega⟩
        refine ⟨ns ++ [n], v', i2, k', HPF1.out, HI1.out, by simp; omega, hi2l, HC1.out, HNR1.out, by simp, ?_, by omega⟩
        rw [← HRES'.out, partsK_some HN.out]
        simp
      case measure =>
        rw [HI1.out.left, HI.out.left]
        omega

end Go.Proofs.YtdmhjnnogcpccaaGreatDoor
end

section
namespace Go.Proofs.YtdmhjnnogcpccaaGreatDoor
open Go.RowKit
open Mu (Cl Bs Nd Ru Gr Tk)
set_option linter.unusedSimpArgs false
set_option linter.unusedVariables false

attribute [local irreducible] wpQuiet wpStill
attribute [local go_sem ↓] Go.wp_at_zero Go.wp_at_succ

theorem Rf.grown {b : Nat} {w w1 w2 : World} {r : Option Nat} (h : Rf b w w1) (hg : w1.grownBy w2 r) (hr : ∀ j, r = some j → w.heap.size ≤ j) (hb : b ≤ w.heap.size) : Rf b w w2 :=
  ⟨⟨hg.os.trans h.below.os, hg.tape.trans h.below.tape, hg.output.trans h.below.output, Nat.le_trans h.size hg.size, fun k hk => (hg.block k (by have := h.size; omega) (fun e => by have := hr k e.symm; omega)).trans (h.below.block k hk)⟩,
   fun k hk hne => (hg.block k (by have := h.size; omega) (fun e => by have := hr k e.symm; omega)).trans (h.others k hk hne)⟩

theorem IsRdr.at {b g : Nat} {L : List Tk} {i d : Nat} {w w' : World} (h : IsRdr b g L i d w) (hb : w'.heap[b]? = w.heap[b]?) (hg : w'.heap[g]? = w.heap[g]?) : IsRdr b g L i d w' := by
  obtain ⟨cap, h1, h2, h3, h4⟩ := h
  exact ⟨cap, hb.trans h1, h2.keep hg, h3, h4⟩

theorem NdRow.append {B : Nat} {v v' mv : Value} {ns : List Nd} {vs : List Value} {m : Nd} {w w1 : World} {o : Obj} (hvl : vs.length = ns.length)
    (hvr : ∀ i (h : i < ns.length), RN w (fun k => B ≤ k ∧ k < w.heap.size ∧ some k ≠ v.ownBlock) (vs.getD i .nilIface) ns[i])
    (hm : RN w (fun k => B ≤ k ∧ k < w.heap.size ∧ some k ≠ v.ownBlock) mv m) (hg : (w.alloc o).grownBy w1 v.ownBlock)
    (hown : w1.ownsRow B 30 8 v' (ns.length + 1) (cellsOf vs ++ mv.cells.toList)) (hloc : v'.ownBlock = v.ownBlock ∨ v'.ownBlock = some (w.heap.size + 1)) : NdRow B v' (ns ++ [m]) w1 := by
  have hs := hg.size
  simp at hs
  have hk : ∀ k, k < w.heap.size → some k ≠ v.ownBlock → w1.heap[k]? = w.heap[k]? := fun k h1 h2 => (hg.block k (by simp; omega) h2).trans (Below.heap_alloc _ _ _ h1)
  have hfin : ∀ k, B ≤ k ∧ k < w.heap.size ∧ some k ≠ v.ownBlock → B ≤ k ∧ k < w1.heap.size ∧ some k ≠ v'.ownBlock := fun k h => by
    refine ⟨h.1, by omega, ?_⟩
    rcases hloc with e | e
    · rw [e]; exact h.2.2
    · rw [e]; simp; omega
  refine ⟨vs ++ [mv], by simp [hvl], ?_, fun j hj => ?_⟩
  · have e : cellsOf (vs ++ [mv]) = cellsOf vs ++ mv.cells.toList := by simp [cellsOf]
    rw [e, List.length_append]
    exact hown
  · by_cases hjl : j < ns.length
    · have e1 : (vs ++ [mv]).getD j .nilIface = vs.getD j .nilIface := by simp [List.getD_eq_getElem?_getD, List.getElem?_append_left (show j < vs.length by omega)]
      have e2 : (ns ++ [m])[j] = ns[j] := List.getElem_append_left hjl
      rw [e1, e2]
      exact ((hvr j hjl).keep fun k hF => hk k hF.2.1 hF.2.2).mono hfin
    · have hje : j = ns.length := by simp at hj; omega
      subst hje
      have e1 : (vs ++ [mv]).getD ns.length .nilIface = mv := by simp [List.getD_eq_getElem?_getD, ← hvl]
      have e2 : (ns ++ [m])[ns.length] = m := by simp
      rw [e1, e2]
      exact (hm.keep fun k hF => hk k hF.2.1 hF.2.2).mono hfin

abbrev RowF := List Tk → Except Mu.Flt (Nd × List Tk)

/-- a choice's tree, out of its rows -/
def chRes : Except Mu.Flt (List Nd × List Tk) → Except Mu.Flt (Nd × List Tk)
  | .error e => .error e
  | .ok (ns, q) => .ok (Mu.joined 7 ns, q)

theorem choiceWith_err {R : RowF} {l : List Tk} {f : Mu.Flt} (h : R l = .error f) : Mu.choiceWith R l = .error f := by simp [Mu.choiceWith, h]
theorem choiceWith_ok {R : RowF} {l q : List Tk} {n : Nd} (h : R l = .ok (n, q)) : Mu.choiceWith R l = chRes (Mu.rowsK R (q.length + 1) [n] q) := by
  simp only [Mu.choiceWith, h]
  rcases Mu.rowsK R (q.length + 1) [n] q with e | ⟨ns, q2⟩ <;> rfl
theorem rowsK_stop {R : RowF} {k : Nat} {acc : List Nd} {l : List Tk} (h : Mu.signOf l ≠ [47]) (hk : 0 < k) : Mu.rowsK R k acc l = .ok (acc.reverse, l) := by
  cases k with
  | zero => omega
  | succ k => simp [Mu.rowsK, h]
theorem rowsK_err {R : RowF} {k : Nat} {acc : List Nd} {l : List Tk} {f : Mu.Flt} (h : Mu.signOf l = [47]) (hr : R l.tail = .error f) (hk : 0 < k) : Mu.rowsK R k acc l = .error f := by
  cases k with
  | zero => omega
  | succ k => simp [Mu.rowsK, h, hr]
theorem rowsK_ok {R : RowF} {k : Nat} {acc : List Nd} {l q : List Tk} {n : Nd} (h : Mu.signOf l = [47]) (hr : R l.tail = .ok (n, q)) : Mu.rowsK R (k + 1) acc l = Mu.rowsK R k (n :: acc) q := by simp [Mu.rowsK, h, hr]

def ChInv (b g : Nat) (L : List Tk) (d i0 : Nat) (R : RowF) (RES : Except Mu.Flt (List Nd × List Tk)) (w : World) (v : Value) (wr : World) : Prop :=
  ∃ (ns : List Nd) (i k : Nat), ns ≠ [] ∧ Rf b w wr ∧ wr.heap[w.heap.size]? = some (.cells zNd.cells 30) ∧ IsRdr b g L i d wr ∧ i0 ≤ i ∧ i < L.length ∧ ns.length ≤ i + 1 ∧ NdRow (w.heap.size + 1) v ns wr ∧
    Mu.rowsK R k ns.reverse (L.drop i) = RES ∧ L.length - i < k

set_option maxHeartbeats 4000000 in
set_option maxRecDepth 20000 in
theorem choice_any (d : Nat) (P : PartF) (hR : RwOk P d) (b g : Nat) (L : List Tk) (i : Nat) (w : World) (h : IsRdr b g L i d w) (hE : Ends L) (hi : i < L.length) :
    Calls Tryz.prog 59 #[.pointer (some ⟨b, 0, none⟩)] w (NdEnd b g L i d w (Mu.choiceWith (Mu.rowWith P) (L.drop i))) := by
  have HRW := Lib.hid hR
  have H := Lib.hid h
  have hlt := h.lt
  have hlg := h.tok.lt
  have hgb := h.ne
  have hEl := hE.1
  clear h hR
  go_enter Tryz.func59, Tryz.ntmps59
  go_wp2_with fail
  refine (HRW.out b g L i _ (H.out.keep (by (repeat' (first | exact Below.refl _ _ | assumption | refine Below.drew ?_ | refine Below.drewN' ?_ _ | refine Below.setCell ?_ (by first | (simp; done) | omega | (simp; omega)) _ | refine Below.alloc ?_ (by first | (simp; done) | omega | (simp; omega)) _ | refine Below.step ?_ (by assumption) (by first | (simp; done) | omega | (simp; omega)))))) hE hi).mono ?_
  rintro e w1 ⟨hb, ⟨f, hf, v, rfl, hv⟩ | ⟨n0, v, i1, hres, hi1, hi1l, rfl, hrn, hr1⟩⟩
  · have HV := Lib.hid hv
    have HF := Lib.hid hf
    have HB := Lib.hid (((Rf.refl b w).alloc (by omega) _).trans hb)
    clear hv hf hb
    go_wp2_with fail
    exact ⟨rfl, HB.out, .inl ⟨f, choiceWith_err HF.out, _, rfl, HV.out.mono (by simp)⟩⟩
  · have hs1 : w.heap.size + 1 ≤ w1.heap.size := by have := hb.size; simpa using this
    have hq1 := hb.keep (k := w.heap.size) (new_at _ _ _ (by simp)) (by omega)
    have HB1 := Lib.hid (((Rf.refl b w).alloc (by omega) _).trans hb)
    have HQ1 := Lib.hid hq1
    obtain ⟨a, nb, off, nc, C, hv, _, _⟩ := hrn.open
    subst hv
    have HRN1 := Lib.hid hrn
    have HR1 := Lib.hid hr1
    have hch := choiceWith_ok hres
    generalize hRES : Mu.rowsK (Mu.rowWith P) ((L.drop i1).length + 1) [n0] (L.drop i1) = RES at hch
    have HRES := Lib.hid hRES
    have HCH := Lib.hid hch
    clear hb hq1 hrn hr1 hres hRES hch
    go_wp2_with fail
    go_loopw [3] (fun v wr => ChInv b g L d i (Mu.rowWith P) RES w v wr) (fun _ wr => rdLeft b wr)
    case atStart =>
      refine ⟨[n0], i1, (L.drop i1).length + 1, by simp, HB1.out.alloc (by omega) _, (Below.heap_alloc _ _ _ (by omega)).trans HQ1.out, HR1.out.keep (by (repeat' (first | exact Below.refl _ _ | assumption | refine Below.drew ?_ | refine Below.drewN' ?_ _ | refine Below.setCell ?_ (by first | (simp; done) | omega | (simp; omega)) _ | refine Below.alloc ?_ (by first | (simp; done) | omega | (simp; omega)) _ | refine Below.step ?_ (by assumption) (by first | (simp; done) | omega | (simp; omega))))), hi1, hi1l, by simp, ?_, HRES.out, by simp⟩
      refine ⟨[ndv n0.kind n0.text n0.cls (.slice a n0.subs.length nc) n0.place], rfl, ⟨rfl, .inr ⟨w1.heap.size, 1, _, rfl, by omega, last_block _ _, by simp, by unfold maxLen; omega, rfl, rfl⟩⟩, fun j hj => ?_⟩
      obtain rfl : j = 0 := by simp at hj; omega
      refine (HRN1.out.keep fun k hk => Below.heap_alloc _ _ _ hk.2).mono fun k hk => ?_
      have h1 := hk.1
      have h2 := hk.2
      simp at h1
      exact ⟨by omega, by simp; omega, by simp [Value.ownBlock]; omega⟩
    case round =>
      obtain ⟨ns, i2, k, hne, hrf, hq, hI, hi2, hi2l, hnl, hnr, hres, hk⟩ := hrel
      obtain ⟨tq, htq⟩ : ∃ tq, L[i2]? = some tq := ⟨L[i2], List.getElem?_eq_some_iff.2 ⟨hi2l, rfl⟩⟩
      have hsr := hrf.size
      have HTQ := Lib.hid htq
      have HRF := Lib.hid hrf
      have HQ := Lib.hid hq
      have HI := Lib.hid hI
      have HNR := Lib.hid hnr
      have HRES2 := Lib.hid hres
      have HNE := Lib.hid hne
      have hlq := lt_of_block hq
      clear htq hrf hq hI hnr hres hne HRES HQ1 HRN1 HR1 HB1
      by_cases hs : Mu.signOf (L.drop i2) = [47]
      · have hnx := (hE.2 i2 tq HTQ.out).2.2 (sign_kind HTQ.out (by rw [hs]; decide))
        have HS := Lib.hid hs
        clear hs
        go_wp2_with fail
        refine (rdr_sign b g L i2 d tq _ HI.out HTQ.out).mono ?_
        rintro e w2 ⟨rfl, rfl⟩
        rw [HS.out]
        go_wp2_with fail
        refine (rdr_next b g L i2 d tq _ HI.out HTQ.out hnx hEl).mono ?_
        rintro e w2 ⟨rfl, hr2, hb2⟩
        have hs2 := hb2.size
        have HR2 := Lib.hid hr2
        have HB2 := Lib.hid hb2
        clear hr2 hb2
        go_wp2_with fail
        refine (HRW.out b g L (i2 + 1) _ HR2.out hE hnx).mono ?_
        rintro e w3 ⟨hb3, ⟨f, hf, v2, rfl, hv⟩ | ⟨n1, v2, i3, hres3, hi3, hi3l, rfl, hrn3, hr3⟩⟩
        · have HV := Lib.hid hv
          have HF := Lib.hid hf
          have HB3 := Lib.hid ((HRF.out.trans HB2.out).trans hb3)
          clear hv hf hb3
          go_wp2_with fail
          exact ⟨rfl, HB3.out, .inl ⟨f, by rw [HCH.out, ← HRES2.out, rowsK_err HS.out (by rw [List.tail_drop]; exact HF.out) (by omega)]; rfl, _, rfl, HV.out.mono (by omega)⟩⟩
        · have hs3 := hb3.size
          have hB23 := HB2.out.trans hb3
          have hB3 := HRF.out.trans hB23
          obtain ⟨a2, nb2, off2, nc2, C2, hv2, _, _⟩ := hrn3.open
          subst hv2
          obtain ⟨vs, hvl, hown, hvr⟩ := HNR.out.same hB23.size fun k h1 h2 => hB23.others k h2 (by omega)
          have hob : ∀ j, u3.ownBlock = some j → w.heap.size + 1 ≤ j ∧ j < wr.heap.size := by
            obtain ⟨_, _, ho', _⟩ := HNR.out
            exact ho'.lt
          obtain ⟨i0, hti, hz0, hz1, hz2⟩ := info_parts Tryz.infoNode
          have hcl : (cellsOf vs).length = ns.length * 8 := hown.1
          have hq3 := hB23.keep HQ.out (by omega)
          have HOWN := Lib.hid hown
          have HVR := Lib.hid hvr
          have HOB := Lib.hid hob
          have HB3 := Lib.hid hB3
          have HRN3 := Lib.hid hrn3
          have HR3 := Lib.hid hr3
          have HRES3 := Lib.hid hres3
          have HQ3 := Lib.hid hq3
          clear hb3 hB23 hB3 hrn3 hr3 hres3 hown hvr hob hcl hq3
          go_wp2_with (at_builtin; refine wpList_append_own_at _ rfl _ _ 28 rfl (w.heap.size + 1) 30 i0 _ 8 88 Tryz.underlying28 hti hz0 hz1 hz2 rfl (by decide) _ ns.length (cellsOf vs) rfl (HOWN.out.alloc _) ⟨w3.heap.size, 0, none⟩ 1 1 [.int .i64 n1.kind, .string (ba n1.text), .int .u64 (n1.cls.a.toNat : Int), .int .u64 (n1.cls.b.toNat : Int), .int .u64 (n1.cls.c.toNat : Int), .int .u64 (n1.cls.d.toNat : Int), .slice a2 n1.subs.length nc2, .int .i64 n1.place] rfl rfl (World.news_of_block (last_block _ _)) (by simp [Value.oneCell']) (by unfold maxLen; omega) (by omega) (by simp; omega) ?_; intro v' w4 hown4 hgrow _ hloc; have HOWN4 := Lib.hid hown4; have HG4 := Lib.hid hgrow; have HL4 := Lib.hid hloc; clear hown4 hgrow hloc)
          go_roundw
          case rel =>
            have hL : v'.ownBlock = u3.ownBlock ∨ v'.ownBlock = some (w3.heap.size + 1) := by
              rcases HL4.out with e | e
              · exact .inl e
              · exact .inr (e.trans (by simp))
            have hr1 := HRN3.out
            obtain ⟨k', rfl⟩ : ∃ k', k = k' + 1 := ⟨k - 1, by omega⟩
            have hg4 := HG4.out.size
            simp at hg4
            refine ⟨ns ++ [n1], i3, k', by simp, (HB3.out.alloc (by omega) _).grown HG4.out (fun j hj => by have := (HOB.out j hj).1; omega) (by omega), ?_, HR3.out.at ?_ ?_, by omega, hi3l, by simp; omega, ?_, ?_, by omega⟩
            · exact ((HG4.out.block w.heap.size (by simp; omega) (fun e => by have := (HOB.out _ e.symm).1; omega)).trans (Below.heap_alloc _ _ _ (by omega))).trans HQ3.out
            · exact (HG4.out.block b (by simp; omega) (fun e => by have := (HOB.out _ e.symm).1; omega)).trans (Below.heap_alloc _ _ _ (by omega))
            · exact (HG4.out.block g (by simp; omega) (fun e => by have := (HOB.out _ e.symm).1; omega)).trans (Below.heap_alloc _ _ _ (by omega))
            · refine NdRow.append (mv := ndv n1.kind n1.text n1.cls (.slice a2 n1.subs.length nc2) n1.place) hvl HVR.out (HRN3.out.mono fun k hk => ?_) HG4.out HOWN4.out hL
              have h1 := hk.1
              exact ⟨by omega, hk.2, fun e => by have := (HOB.out _ e.symm).2; omega⟩
            · rw [← HRES2.out, rowsK_ok HS.out (by rw [List.tail_drop]; exact HRES3.out)]
              simp
          case measure =>
            have e1 : rdLeft b w4 = L.length - i3 := by
              refine IsRdr.left (g := g) (d := d) (HR3.out.at ?_ ?_)
              · exact (HG4.out.block b (by simp; omega) (fun e => by have := (HOB.out _ e.symm).1; omega)).trans (Below.heap_alloc _ _ _ (by omega))
              · exact (HG4.out.block g (by simp; omega) (fun e => by have := (HOB.out _ e.symm).1; omega)).trans (Below.heap_alloc _ _ _ (by omega))
            rw [e1, HI.out.left]
            omega
      · have hsf : (Mu.signOf (L.drop i2) == [47]) = false := by simpa using hs
        have HS := Lib.hid hs
        generalize hsx : Mu.signOf (L.drop i2) = sx at hsf
        have HSX := Lib.hid hsx
        clear hs hsx
        go_wp2_with fail
        refine (rdr_sign b g L i2 d tq _ HI.out HTQ.out).mono ?_
        rintro e w2 ⟨rfl, rfl⟩
        rw [HSX.out]
        obtain ⟨a3, nb3, off3, cap3, C3, hv3, hlc, hcm, hrns⟩ := HNR.out.rns HNE.out (by omega)
        subst hv3
        have hj := joined_any 7 _ _ nb3 off3 cap3 ns C3 wr hrns (fun k hk => hk.2) HNE.out (by omega)
        have HJ := Lib.hid hj
        clear hj hrns hlc hcm
        go_wp2_with fail
        refine HJ.out.mono ?_
        rintro e w2 ⟨v2, rfl, hrn2, hb2⟩
        obtain ⟨a2, nb2, off2, nc2, C2, hv2, _, _⟩ := hrn2.open
        subst hv2
        have hq2 := (hb2.block w.heap.size hlq).trans HQ.out
        have hI2 := HI.out.keep hb2
        have hrf2 := HRF.out.step (by omega) hb2
        have hs2 := hb2.size
        obtain ⟨q0, q1, q2, q3, q4, q5, q6, q7⟩ := (Row.refl hq2).cells8
        have z0 := unfrozen_at hq2
        have HQ2 := Lib.hid hq2
        have HI2 := Lib.hid hI2
        have HRF2 := Lib.hid hrf2
        have HRN2 := Lib.hid hrn2
        clear hq2 hI2 hrf2 hrn2 hb2
        go_wp2_with fail
        refine ret_row8 HQ2.out ?_
        intro W hW
        obtain ⟨x0, x1, x2, x3, x4, x5, x6, x7⟩ := hW.cells8
        have hWs := hW.size
        refine bodyPost_ret (v := ndv (Mu.joined 7 ns).kind (Mu.joined 7 ns).text (Mu.joined 7 ns).cls (.slice a2 (Mu.joined 7 ns).subs.length nc2) (Mu.joined 7 ns).place) (by simp [results, Tryz.results59, go_sem, x0, x1, x2, x3, x4, x5, x6, x7]) rfl ⟨hW.rf HRF2.out (Nat.le_refl _) (by omega), .inr ⟨Mu.joined 7 ns, _, i2, ?_, by omega, hi2l, rfl, ?_, HI2.out.row hW (by omega) (by omega)⟩⟩
        · rw [HCH.out, ← HRES2.out, rowsK_stop HS.out (by omega)]
          simp [chRes]
        · refine (HRN2.out.keep (w' := W) ?_).mono (F' := Fresh w W) ?_
          · intro k hk
            exact hW.only k (by have := hk.1; omega)
          · intro k hk
            exact ⟨by have := hk.1; omega, by have := hk.2; omega⟩

/-- the reader of a choice, so many parentheses deep -/
theorem ch_ok : ∀ (D d : Nat), d + D = 24 → ChOk D d
  | 0, d, h => by
    obtain rfl : d = 24 := by omega
    intro b g L i w hr hE hi
    rw [Mu.choiceD_eq]
    exact choice_any 24 _ (row_any 24 _ fun b g L i w hr hE hi => one_any_of 0 24 (fun b g L i t w hr ht hE hk => within_deep b g L i t w hr ht) b g L i w hr hE hi) b g L i w hr hE hi
  | D + 1, d, h => by
    intro b g L i w hr hE hi
    rw [Mu.choiceD_eq]
    exact choice_any d _ (row_any d _ fun b g L i w hr hE hi => one_any_of (D + 1) d (fun b g L i t w hr ht hE hk => within_any D d (by omega) (ch_ok D (d + 1) (by omega)) b g L i t w hr ht hE hk) b g L i w hr hE hi) b g L i w hr hE hi

end Go.Proofs.YtdmhjnnogcpccaaGreatDoor
end
