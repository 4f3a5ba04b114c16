/- syntax.reader: stop, wrong, next, must, sign. syntax.reader: one. -/
import Derived.Test.YtdmhjnnogcpccaaGreatDoorJCua
section
namespace Go.Proofs.YtdmhjnnogcpccaaGreatDoor
open Go.RowKit
open Mu (Cl Bs Nd Ru Gr Tk)
set_option linter.unusedSimpArgs false
set_option linter.unusedVariables false

attribute [local irreducible] wpQuiet wpStill
attribute [local go_sem ↓] Go.wp_at_zero Go.wp_at_succ

/-- the tokens lie in block g -/
def TokB (g : Nat) (L : List Tk) (w : World) : Prop := ∃ cs fr, w.heap[g]? = some (.cells cs 112 fr) ∧ ∀ (k : Nat) (t : Tk), L[k]? = some t → ∀ j, j < 7 → cs[7 * k + j]? = (tkCells t)[j]?

theorem TokB.keep {g : Nat} {L : List Tk} {w w' : World} (h : TokB g L w) (hb : w'.heap[g]? = w.heap[g]?) : TokB g L w' := by
  obtain ⟨cs, fr, h1, h2⟩ := h
  exact ⟨cs, fr, hb.trans h1, h2⟩

theorem TokB.row {g B : Nat} {L : List Tk} {cs : Array Value} {t : TypeId} {w w' : World} (h : TokB g L w) (hr : Row B cs t w w') (hg : g ≠ B) : TokB g L w' := h.keep (hr.only g hg)

theorem TokB.lt {g : Nat} {L : List Tk} {w : World} (h : TokB g L w) : g < w.heap.size := by
  obtain ⟨cs, fr, h1, h2⟩ := h
  exact lt_of_block h1

/-- a reader of tokens in block b: it stands at token i, d parentheses are open -/
def IsRdr (b g : Nat) (L : List Tk) (i d : Nat) (w : World) : Prop :=
  ∃ cap, w.heap[b]? = some (.cells #[.slice (some ⟨g, 7 * i, none⟩) (L.length - i) cap, .int .i64 (d : Int)] 110) ∧ TokB g L w ∧ g ≠ b ∧ L.length - i ≤ cap

theorem IsRdr.lt {b g : Nat} {L : List Tk} {i d : Nat} {w : World} (h : IsRdr b g L i d w) : b < w.heap.size := by
  obtain ⟨cap, h1, _⟩ := h
  exact lt_of_block h1

theorem IsRdr.keep {b g : Nat} {L : List Tk} {i d : Nat} {w w' : World} (h : IsRdr b g L i d w) (hb : Below w.heap.size w w') : IsRdr b g L i d w' := by
  obtain ⟨cap, h1, h2, h3, h4⟩ := h
  exact ⟨cap, by rw [hb.block _ (lt_of_block h1)]; exact h1, h2.keep (hb.block _ h2.lt), h3, h4⟩

theorem IsRdr.row {b g B : Nat} {L : List Tk} {i d : Nat} {cs : Array Value} {t : TypeId} {w w' : World} (h : IsRdr b g L i d w) (hr : Row B cs t w w') (hb : b ≠ B) (hg : g ≠ B) : IsRdr b g L i d w' := by
  obtain ⟨cap, h1, h2, h3, h4⟩ := h
  exact ⟨cap, by rw [hr.only _ hb]; exact h1, h2.row hr hg, h3, h4⟩

/-- the cells of a reader, and of the token at which it stands -/
theorem IsRdr.cells {b g : Nat} {L : List Tk} {i d : Nat} {w : World} (h : IsRdr b g L i d w) :
    ∃ cap, w.cell? ⟨b, 0, none⟩ = some (.slice (some ⟨g, 7 * i, none⟩) (L.length - i) cap) ∧ w.cell? ⟨b, 1, none⟩ = some (.int .i64 (d : Int)) ∧ L.length - i ≤ cap ∧ w.frozen? ⟨b, 0, none⟩ = false ∧ w.frozen? ⟨b, 1, none⟩ = false := by
  obtain ⟨cap, h1, h2, h3, h4⟩ := h
  exact ⟨cap, cell_at h1 0, cell_at h1 1, h4, unfrozen_at h1 0, unfrozen_at h1 1⟩

theorem TokB.cells {g : Nat} {L : List Tk} {w : World} (h : TokB g L w) {i : Nat} {t : Tk} (ht : L[i]? = some t) :
    w.cell? ⟨g, 7 * i, none⟩ = some (.int .i64 (t.kind : Int)) ∧ w.cell? ⟨g, 7 * i + 1, none⟩ = some (.string (ba t.text)) ∧ w.cell? ⟨g, 7 * i + 2, none⟩ = some (.int .u64 (t.cls.a.toNat : Int)) ∧
    w.cell? ⟨g, 7 * i + 3, none⟩ = some (.int .u64 (t.cls.b.toNat : Int)) ∧ w.cell? ⟨g, 7 * i + 4, none⟩ = some (.int .u64 (t.cls.c.toNat : Int)) ∧ w.cell? ⟨g, 7 * i + 5, none⟩ = some (.int .u64 (t.cls.d.toNat : Int)) ∧
    w.cell? ⟨g, 7 * i + 6, none⟩ = some (.int .i64 (t.place : Int)) := by
  obtain ⟨cs, fr, h1, h2⟩ := h
  have h3 := h2 i t ht
  have hc : ∀ j, j < 7 → w.cell? ⟨g, 7 * i + j, none⟩ = (tkCells t)[j]? := fun j hj => (cell_at h1 _).trans (h3 j hj)
  exact ⟨hc 0 (by omega), hc 1 (by omega), hc 2 (by omega), hc 3 (by omega), hc 4 (by omega), hc 5 (by omega), hc 6 (by omega)⟩

theorem IsRdr.tok {b g : Nat} {L : List Tk} {i d : Nat} {w : World} (h : IsRdr b g L i d w) : TokB g L w := by
  obtain ⟨cap, h1, h2, h3, h4⟩ := h
  exact h2

/-- a panic with a fault -/
def Thrown (B : Nat) (f : Mu.Flt) (e : Ending) (w : World) : Prop := ∃ v, e = .panicked [{ v := v, recovered := false }] ∧ IsFlt B v f w

theorem Thrown.mono {B B' : Nat} {f : Mu.Flt} {e : Ending} {w : World} (h : Thrown B f e w) (hb : B' ≤ B) : Thrown B' f e w := by
  obtain ⟨v, h1, h2⟩ := h
  exact ⟨v, h1, h2.mono hb⟩

set_option maxHeartbeats 1000000 in
set_option maxRecDepth 20000 in
theorem rdr_stop (b g : Nat) (L : List Tk) (i d : Nat) (c : Int) (t : Tk) (w : World) (h : IsRdr b g L i d w) (ht : L[i]? = some t) :
    Calls Tryz.prog 57 #[.pointer (some ⟨b, 0, none⟩), .int .i64 c] w fun e w' => Thrown w.heap.size ⟨c, t.place⟩ e w' ∧ Below w.heap.size w w' := by
  obtain ⟨cap, c0, c1, hc, f0, f1⟩ := h.cells
  obtain ⟨t0, t1, t2, t3, t4, t5, t6⟩ := h.tok.cells ht
  have hl : 0 < L.length - i := by
    have := (List.getElem?_eq_some_iff.1 ht).1
    omega
  have hlt := h.lt
  generalize L.length - i = n at c0 hc hl
  clear h ht
  go_enter Tryz.func57, Tryz.ntmps57
  go_wp2_with fail
  exact ⟨rfl, ⟨_, rfl, ⟨_, Nat.le_refl _, rfl, last_block _ _⟩⟩, by (repeat' (first | exact Below.refl _ _ | assumption | refine Below.drew ?_ | refine Below.drewN' ?_ _ | refine Below.setCell ?_ (by first | (simp; done) | omega | (simp; omega)) _ | refine Below.alloc ?_ (by first | (simp; done) | omega | (simp; omega)) _ | refine Below.step ?_ (by assumption) (by first | (simp; done) | omega | (simp; omega))))⟩

theorem wrong_end (L : List Tk) (i : Nat) (t : Tk) (ht : L[i]? = some t) (hk : t.kind = 6) : Mu.wrong (L.drop i) = ⟨3, t.place⟩ := by
  have h : Mu.tk0 (L.drop i) = t := by simp [Mu.tk0, List.headD_eq_head?_getD, List.head?_drop, ht]
  simp [Mu.wrong, Mu.stop, h, hk]

theorem wrong_form (L : List Tk) (i : Nat) (t : Tk) (ht : L[i]? = some t) (hk : t.kind ≠ 6) : Mu.wrong (L.drop i) = ⟨4, t.place⟩ := by
  have h : Mu.tk0 (L.drop i) = t := by simp [Mu.tk0, List.headD_eq_head?_getD, List.head?_drop, ht]
  simp [Mu.wrong, Mu.stop, h, hk]

set_option maxHeartbeats 1000000 in
set_option maxRecDepth 20000 in
theorem rdr_wrong (b g : Nat) (L : List Tk) (i d : Nat) (t : Tk) (w : World) (h : IsRdr b g L i d w) (ht : L[i]? = some t) :
    Calls Tryz.prog 80 #[.pointer (some ⟨b, 0, none⟩)] w fun e w' => Thrown w.heap.size (Mu.wrong (L.drop i)) e w' ∧ Below w.heap.size w w' := by
  obtain ⟨cap, c0, c1, hc, f0, f1⟩ := h.cells
  obtain ⟨t0, t1, t2, t3, t4, t5, t6⟩ := h.tok.cells ht
  have hl : 0 < L.length - i := by
    have := (List.getElem?_eq_some_iff.1 ht).1
    omega
  have hlt := h.lt
  generalize L.length - i = n at c0 hc hl
  have H := Lib.hid h
  have HT := Lib.hid ht
  clear h ht
  by_cases hk : t.kind = 6
  · have hw := wrong_end L i t HT.out hk
    have HW := Lib.hid hw
    have hki : (t.kind : Int) = 6 := by omega
    clear hw hk
    go_enter Tryz.func80, Tryz.ntmps80
    go_wp2_with fail
    refine (rdr_stop b g L i d 3 t w H.out HT.out).mono ?_
    rintro e w1 ⟨⟨v, rfl, hv⟩, hb⟩
    have HV := Lib.hid hv
    clear hv
    go_wp2_with fail
    exact ⟨rfl, ⟨_, rfl, by rw [HW.out]; exact HV.out⟩, hb⟩
  · have hw := wrong_form L i t HT.out hk
    have HW := Lib.hid hw
    have hki : ¬ (t.kind : Int) = 6 := by omega
    clear hw hk
    go_enter Tryz.func80, Tryz.ntmps80
    go_wp2_with fail
    refine (rdr_stop b g L i d 4 t w H.out HT.out).mono ?_
    rintro e w1 ⟨⟨v, rfl, hv⟩, hb⟩
    have HV := Lib.hid hv
    clear hv
    go_wp2_with fail
    exact ⟨rfl, ⟨_, rfl, by rw [HW.out]; exact HV.out⟩, hb⟩

set_option maxHeartbeats 1000000 in
set_option maxRecDepth 20000 in
theorem rdr_next (b g : Nat) (L : List Tk) (i d : Nat) (t : Tk) (w : World) (h : IsRdr b g L i d w) (ht : L[i]? = some t) (hn : i + 1 < L.length) (hL : L.length ≤ 100000) :
    Calls Tryz.prog 81 #[.pointer (some ⟨b, 0, none⟩)] w fun e w' => e = .returned (tkv t) ∧ IsRdr b g L (i + 1) d w' ∧ Rf b w w' := by
  obtain ⟨cap, hbk, htk, hgb, hc⟩ := h
  have c0 : w.cell? ⟨b, 0, none⟩ = some (.slice (some ⟨g, 7 * i, none⟩) (L.length - i) cap) := cell_at hbk 0
  have f0 := unfrozen_at hbk 0
  obtain ⟨t0, t1, t2, t3, t4, t5, t6⟩ := htk.cells ht
  have hlt := lt_of_block hbk
  have hlg := htk.lt
  have hl : 1 < L.length - i := by omega
  have hm : L.length - (i + 1) = L.length - i - 1 := by omega
  have hcb : 1 < cap := by omega
  have hn1 : L.length - i ≤ 100000 := by omega
  have HM := Lib.hid hm
  have HBK := Lib.hid hbk
  have HTK := Lib.hid htk
  clear ht hbk htk hm hn
  generalize L.length - i = n at c0 hc hl hn1 HBK HM
  go_enter Tryz.func81, Tryz.ntmps81
  go_wp2_with fail
  refine bodyPost_ret (v := tkv t) (by simp [results, Tryz.results81, go_sem]) rfl ⟨rfl, ⟨cap - 1, ?_, ?_, hgb, by rw [HM.out]; omega⟩, ?_⟩
  · rw [Below.heap_alloc _ _ _ (by simp; omega), Below.heap_alloc _ _ _ (by simpa using hlt), block_set HBK.out, HM.out]
    have : 7 * (i + 1) = 7 * i + 7 := by omega
    rw [this]
    rfl
  · refine HTK.out.keep ?_
    rw [Below.heap_alloc _ _ _ (by simp; omega), Below.heap_alloc _ _ _ (by simpa using hlg), Below.heap_setCell _ _ _ _ hgb]
  · exact (Rf.set w 0 _).trans (Rf.of_below (by (repeat' (first | exact Below.refl _ _ | assumption | refine Below.drew ?_ | refine Below.drewN' ?_ _ | refine Below.setCell ?_ (by first | (simp; done) | omega | (simp; omega)) _ | refine Below.alloc ?_ (by first | (simp; done) | omega | (simp; omega)) _ | refine Below.step ?_ (by assumption) (by first | (simp; done) | omega | (simp; omega))))) (by simp; omega))

set_option maxHeartbeats 1000000 in
set_option maxRecDepth 20000 in
theorem rdr_sign (b g : Nat) (L : List Tk) (i d : Nat) (t : Tk) (w : World) (h : IsRdr b g L i d w) (ht : L[i]? = some t) :
    Calls Tryz.prog 83 #[.pointer (some ⟨b, 0, none⟩)] w fun e w' => e = .returned (.string (ba (Mu.signOf (L.drop i)))) ∧ w = w' := by
  obtain ⟨cap, c0, c1, hc, f0, f1⟩ := h.cells
  obtain ⟨t0, t1, t2, t3, t4, t5, t6⟩ := h.tok.cells ht
  have hl : 0 < L.length - i := by
    have := (List.getElem?_eq_some_iff.1 ht).1
    omega
  have htk : Mu.tk0 (L.drop i) = t := by simp [Mu.tk0, List.headD_eq_head?_getD, List.head?_drop, ht]
  have hlt := h.lt
  generalize L.length - i = n at c0 hc hl
  clear h ht
  by_cases hk : t.kind = 5
  · have hw : Mu.signOf (L.drop i) = t.text := by simp [Mu.signOf, htk, hk]
    rw [hw]
    have hki : (t.kind : Int) = 5 := by omega
    clear hw hk htk
    go_enter Tryz.func83, Tryz.ntmps83
    go_wp2_with fail
    go_ret
    exact ⟨rfl, rfl⟩
  · have hw : Mu.signOf (L.drop i) = [] := by simp [Mu.signOf, htk, hk]
    rw [hw]
    have hki : ¬ (t.kind : Int) = 5 := by omega
    clear hw hk htk
    go_enter Tryz.func83, Tryz.ntmps83
    go_wp2_with fail
    go_ret
    exact ⟨rfl, rfl⟩

theorem must_bad (L : List Tk) (i : Nat) (t : Tk) (k : Nat) (ht : L[i]? = some t) (hk : t.kind ≠ k) : Mu.must k (L.drop i) = .error (Mu.wrong (L.drop i)) := by
  have h : Mu.tk0 (L.drop i) = t := by simp [Mu.tk0, List.headD_eq_head?_getD, List.head?_drop, ht]
  simp [Mu.must, h, hk]

theorem must_good (L : List Tk) (i : Nat) (t : Tk) (k : Nat) (ht : L[i]? = some t) (hk : t.kind = k) : Mu.must k (L.drop i) = .ok (t, L.drop (i + 1)) := by
  have h : Mu.tk0 (L.drop i) = t := by simp [Mu.tk0, List.headD_eq_head?_getD, List.head?_drop, ht]
  simp [Mu.must, h, hk, List.tail_drop]

set_option maxHeartbeats 1000000 in
set_option maxRecDepth 20000 in
theorem rdr_must_bad (b g : Nat) (L : List Tk) (i d : Nat) (t : Tk) (k : Nat) (w : World) (h : IsRdr b g L i d w) (ht : L[i]? = some t) (hk : t.kind ≠ k) :
    Calls Tryz.prog 58 #[.pointer (some ⟨b, 0, none⟩), .int .i64 (k : Int)] w fun e w' => Thrown w.heap.size (Mu.wrong (L.drop i)) e w' ∧ Below w.heap.size w w' := by
  obtain ⟨cap, c0, c1, hc, f0, f1⟩ := h.cells
  obtain ⟨t0, t1, t2, t3, t4, t5, t6⟩ := h.tok.cells ht
  have hl : 0 < L.length - i := by
    have := (List.getElem?_eq_some_iff.1 ht).1
    omega
  have hlt := h.lt
  have hlg := h.tok.lt
  generalize L.length - i = n at c0 hc hl
  have H := Lib.hid h
  have HT := Lib.hid ht
  have hki : ¬ (t.kind : Int) = (k : Int) := by omega
  clear h ht hk
  go_enter Tryz.func58, Tryz.ntmps58
  go_wp2_with fail
  refine (rdr_wrong b g L i d t _ (H.out.keep (by (repeat' (first | exact Below.refl _ _ | assumption | refine Below.drew ?_ | refine Below.drewN' ?_ _ | refine Below.setCell ?_ (by first | (simp; done) | omega | (simp; omega)) _ | refine Below.alloc ?_ (by first | (simp; done) | omega | (simp; omega)) _ | refine Below.step ?_ (by assumption) (by first | (simp; done) | omega | (simp; omega)))))) HT.out).mono ?_
  rintro e w1 ⟨⟨v, rfl, hv⟩, hb⟩
  have HV := Lib.hid hv
  clear hv
  go_wp2_with fail
  exact ⟨rfl, ⟨_, rfl, HV.out.mono (by simp)⟩, Below.trans (by (repeat' (first | exact Below.refl _ _ | assumption | refine Below.drew ?_ | refine Below.drewN' ?_ _ | refine Below.setCell ?_ (by first | (simp; done) | omega | (simp; omega)) _ | refine Below.alloc ?_ (by first | (simp; done) | omega | (simp; omega)) _ | refine Below.step ?_ (by assumption) (by first | (simp; done) | omega | (simp; omega))))) (hb.mono (by simp))⟩

set_option maxHeartbeats 1000000 in
set_option maxRecDepth 20000 in
theorem rdr_must (b g : Nat) (L : List Tk) (i d : Nat) (t : Tk) (k : Nat) (w : World) (h : IsRdr b g L i d w) (ht : L[i]? = some t) (hk : t.kind = k) (hn : i + 1 < L.length) (hL : L.length ≤ 100000) :
    Calls Tryz.prog 58 #[.pointer (some ⟨b, 0, none⟩), .int .i64 (k : Int)] w fun e w' => e = .returned (tkv t) ∧ IsRdr b g L (i + 1) d w' ∧ Rf b w w' := by
  obtain ⟨cap, c0, c1, hc, f0, f1⟩ := h.cells
  obtain ⟨t0, t1, t2, t3, t4, t5, t6⟩ := h.tok.cells ht
  have hl : 0 < L.length - i := by
    have := (List.getElem?_eq_some_iff.1 ht).1
    omega
  have hlt := h.lt
  have hlg := h.tok.lt
  generalize L.length - i = n at c0 hc hl
  have H := Lib.hid h
  have HT := Lib.hid ht
  subst hk
  clear h ht
  go_enter Tryz.func58, Tryz.ntmps58
  go_wp2_with fail
  refine (rdr_next b g L i d t _ (H.out.keep (by (repeat' (first | exact Below.refl _ _ | assumption | refine Below.drew ?_ | refine Below.drewN' ?_ _ | refine Below.setCell ?_ (by first | (simp; done) | omega | (simp; omega)) _ | refine Below.alloc ?_ (by first | (simp; done) | omega | (simp; omega)) _ | refine Below.step ?_ (by assumption) (by first | (simp; done) | omega | (simp; omega)))))) HT.out hn hL).mono ?_
  rintro e w1 ⟨rfl, hr, hb⟩
  have HR := Lib.hid hr
  have HB := Lib.hid hb
  have hsz : w.heap.size + 1 ≤ w1.heap.size := by have := hb.size; simpa using this
  have hq := HB.out.keep (last_block _ _) (by omega)
  have HQ := Lib.hid hq
  have z0 := unfrozen_at hq
  obtain ⟨q0, q1, q2, q3, q4, q5, q6⟩ := (Row.refl hq).cells7
  clear hr hb hq
  go_wp2_with fail
  refine ret_row7 HQ.out ?_
  intro W hW
  obtain ⟨x0, x1, x2, x3, x4, x5, x6⟩ := hW.cells7
  refine bodyPost_ret (v := tkv t) (by simp [results, Tryz.results58, go_sem, x0, x1, x2, x3, x4, x5, x6]) rfl ⟨rfl, HR.out.row hW (by omega) (by omega), ?_⟩
  exact hW.rf (((Rf.refl b w).alloc (by omega) _).trans HB.out) (Nat.le_refl _) (by omega)

end Go.Proofs.YtdmhjnnogcpccaaGreatDoor
end

section
namespace Go.Proofs.YtdmhjnnogcpccaaGreatDoor
open Go.RowKit
open Mu (Cl Bs Nd Ru Gr Tk)
set_option linter.unusedSimpArgs false
set_option linter.unusedVariables false

attribute [local irreducible] wpQuiet wpStill
attribute [local go_sem ↓] Go.wp_at_zero Go.wp_at_succ

theorem IsRdr.all {b g : Nat} {L : List Tk} {i d : Nat} {w : World} {t : Tk} (h : IsRdr b g L i d w) (ht : L[i]? = some t) :
    ∃ n cap, Hid (n = L.length - i) ∧ w.cell? ⟨b, 0, none⟩ = some (.slice (some ⟨g, 7 * i, none⟩) n cap) ∧ w.cell? ⟨b, 1, none⟩ = some (.int .i64 (d : Int)) ∧ n ≤ cap ∧ 0 < n ∧ w.frozen? ⟨b, 0, none⟩ = false ∧ w.frozen? ⟨b, 1, none⟩ = false ∧ b < w.heap.size ∧ g < w.heap.size ∧ g ≠ b ∧
    w.cell? ⟨g, 7 * i, none⟩ = some (.int .i64 (t.kind : Int)) ∧ w.cell? ⟨g, 7 * i + 1, none⟩ = some (.string (ba t.text)) ∧ w.cell? ⟨g, 7 * i + 2, none⟩ = some (.int .u64 (t.cls.a.toNat : Int)) ∧
    w.cell? ⟨g, 7 * i + 3, none⟩ = some (.int .u64 (t.cls.b.toNat : Int)) ∧ w.cell? ⟨g, 7 * i + 4, none⟩ = some (.int .u64 (t.cls.c.toNat : Int)) ∧ w.cell? ⟨g, 7 * i + 5, none⟩ = some (.int .u64 (t.cls.d.toNat : Int)) ∧
    w.cell? ⟨g, 7 * i + 6, none⟩ = some (.int .i64 (t.place : Int)) := by
  obtain ⟨cap, c0, c1, hc, f0, f1⟩ := h.cells
  obtain ⟨t0, t1, t2, t3, t4, t5, t6⟩ := h.tok.cells ht
  have hl : 0 < L.length - i := by
    have := (List.getElem?_eq_some_iff.1 ht).1
    omega
  have h1 := h.lt
  have h2 := h.tok.lt
  obtain ⟨_, _, _, hgb, _⟩ := h
  exact ⟨_, cap, Lib.hid rfl, c0, c1, hc, hl, f0, f1, h1, h2, hgb, t0, t1, t2, t3, t4, t5, t6⟩

/-- behind each token but the end one comes one more -/
def Ends (L : List Tk) : Prop := L.length ≤ 100000 ∧ ∀ (i : Nat) (t : Tk), L[i]? = some t → t.text.length ≤ 255 ∧ t.place ≤ 100000 ∧ (t.kind ≠ 6 → i + 1 < L.length)

theorem tk0_drop {L : List Tk} {i : Nat} {t : Tk} (ht : L[i]? = some t) : Mu.tk0 (L.drop i) = t := by simp [Mu.tk0, List.headD_eq_head?_getD, List.head?_drop, ht]
theorem tk0_tail {L : List Tk} {i : Nat} {t : Tk} (ht : L[i + 1]? = some t) : Mu.tk0 (L.drop i).tail = t := by simp [Mu.tk0, List.headD_eq_head?_getD, List.head?_drop, List.tail_drop, ht]

theorem ba_ne {a b : Bs} (h : a ≠ b) : ¬ ba a = ba b := fun e => h (by simpa [ba] using congrArg (fun z : ByteArray => z.data.toList) e)

/-- what is new in a world -/
def Fresh (w w' : World) (k : Nat) : Prop := w.heap.size ≤ k ∧ k < w'.heap.size

theorem RN.leaf (w : World) (F : Nat → Prop) (k : Int) (t : Bs) (c : Cl) (p : Int) (ht : t.length ≤ 255) : RN w F (ndv k t c (.slice none 0 0) p) (.mk k t c [] p) :=
  RN.mk k t c p none 0 0 0 0 [] (fun _ => .nilIface) rfl (.inl rfl) (fun h => absurd h (by omega)) (by simp) (by omega) (fun i h => absurd h (by omega)) (fun i h => by simp at h)

/-- the empty tree -/
abbrev zNd : Value := .agg #[.int .i64 0, .string ⟨#[]⟩, .int .u64 0, .int .u64 0, .int .u64 0, .int .u64 0, .slice none 0 0, .int .i64 0]

/-- how 'one' ends -/
def OneEnd (b g : Nat) (L : List Tk) (i d : Nat) (w : World) (RES : Except Mu.Flt (Option Nd × List Tk)) (e : Ending) (w' : World) : Prop := Rf b w w' ∧
  ((∃ f, RES = .error f ∧ Thrown w.heap.size f e w') ∨
   (RES = .ok (none, L.drop i) ∧ e = .returned (.tuple #[zNd, .bool false]) ∧ IsRdr b g L i d w') ∨
   (∃ n v i', RES = .ok (some n, L.drop i') ∧ i < i' ∧ i' < L.length ∧ e = .returned (.tuple #[v, .bool true]) ∧ RN w' (Fresh w w') v n ∧ IsRdr b g L i' d w'))

set_option maxHeartbeats 4000000 in
set_option maxRecDepth 20000 in
theorem one_sign_bad (Wn : List Tk → Except Mu.Flt (Nd × List Tk)) (b g : Nat) (L : List Tk) (i d : Nat) (t : Tk) (w : World) (h : IsRdr b g L i d w) (ht : L[i]? = some t) (hE : Ends L)
    (hk : t.kind = 5) (h1 : t.text ≠ [46]) (h2 : t.text ≠ [40]) :
    Calls Tryz.prog 153 #[.pointer (some ⟨b, 0, none⟩)] w (OneEnd b g L i d w (Mu.oneWith Wn (L.drop i))) := by
  obtain ⟨n, cap, HN, c0, c1, hc, hl, f0, f1, hlt, hlg, hgb, t0, t1, t2, t3, t4, t5, t6⟩ := h.all ht
  have hlt1 : b < w.heap.size + 1 := by omega
  have hlt2 : b < w.heap.size + 1 + 1 := by omega
  have hlg1 : g < w.heap.size + 1 := by omega
  have hlg2 : g < w.heap.size + 1 + 1 := by omega
  have hw : Mu.oneWith Wn (L.drop i) = .ok (none, L.drop i) := by simp [Mu.oneWith, tk0_drop ht, hk, h1, h2]
  have HW := Lib.hid hw
  have H := Lib.hid h
  have hki : (t.kind : Int) = 5 := by omega
  have hs1 : (t.text == [46]) = false := by simpa using h1
  have hs2 : (t.text == [40]) = false := by simpa using h2
  clear h ht hw hk h1 h2
  go_enter Tryz.func153, Tryz.ntmps153
  go_wp2_with fail
  refine bodyPost_ret (v := .tuple #[zNd, .bool false]) (by simp [results, Tryz.results153, go_sem]) rfl ⟨?_, .inr (.inl ⟨HW.out, rfl, H.out.keep (by (repeat' (first | exact Below.refl _ _ | assumption | refine Below.drew ?_ | refine Below.drewN' ?_ _ | refine Below.setCell ?_ (by first | (simp; done) | omega | (simp; omega)) _ | refine Below.alloc ?_ (by first | (simp; done) | omega | (simp; omega)) _ | refine Below.step ?_ (by assumption) (by first | (simp; done) | omega | (simp; omega)))))⟩)⟩
  exact Rf.of_below (by (repeat' (first | exact Below.refl _ _ | assumption | refine Below.drew ?_ | refine Below.drewN' ?_ _ | refine Below.setCell ?_ (by first | (simp; done) | omega | (simp; omega)) _ | refine Below.alloc ?_ (by first | (simp; done) | omega | (simp; omega)) _ | refine Below.step ?_ (by assumption) (by first | (simp; done) | omega | (simp; omega))))) (by omega)

set_option maxHeartbeats 4000000 in
set_option maxRecDepth 20000 in
theorem one_other (Wn : List Tk → Except Mu.Flt (Nd × List Tk)) (b g : Nat) (L : List Tk) (i d : Nat) (t : Tk) (w : World) (h : IsRdr b g L i d w) (ht : L[i]? = some t) (hE : Ends L)
    (hk1 : t.kind ≠ 1) (hk3 : t.kind ≠ 3) (hk4 : t.kind ≠ 4) (hk5 : t.kind ≠ 5) :
    Calls Tryz.prog 153 #[.pointer (some ⟨b, 0, none⟩)] w (OneEnd b g L i d w (Mu.oneWith Wn (L.drop i))) := by
  obtain ⟨n, cap, HN, c0, c1, hc, hl, f0, f1, hlt, hlg, hgb, t0, t1, t2, t3, t4, t5, t6⟩ := h.all ht
  have hlt1 : b < w.heap.size + 1 := by omega
  have hlt2 : b < w.heap.size + 1 + 1 := by omega
  have hlg1 : g < w.heap.size + 1 := by omega
  have hlg2 : g < w.heap.size + 1 + 1 := by omega
  have hw : Mu.oneWith Wn (L.drop i) = .ok (none, L.drop i) := by simp [Mu.oneWith, tk0_drop ht, hk1, hk3, hk4, hk5]
  have HW := Lib.hid hw
  have H := Lib.hid h
  have hi1 : ¬ (t.kind : Int) = 1 := by omega
  have hi3 : ¬ (t.kind : Int) = 3 := by omega
  have hi4 : ¬ (t.kind : Int) = 4 := by omega
  have hi5 : ¬ (t.kind : Int) = 5 := by omega
  clear h ht hw hk1 hk3 hk4 hk5
  go_enter Tryz.func153, Tryz.ntmps153
  go_wp2_with fail
  refine bodyPost_ret (v := .tuple #[zNd, .bool false]) (by simp [results, Tryz.results153, go_sem]) rfl ⟨?_, .inr (.inl ⟨HW.out, rfl, H.out.keep (by (repeat' (first | exact Below.refl _ _ | assumption | refine Below.drew ?_ | refine Below.drewN' ?_ _ | refine Below.setCell ?_ (by first | (simp; done) | omega | (simp; omega)) _ | refine Below.alloc ?_ (by first | (simp; done) | omega | (simp; omega)) _ | refine Below.step ?_ (by assumption) (by first | (simp; done) | omega | (simp; omega)))))⟩)⟩
  exact Rf.of_below (by (repeat' (first | exact Below.refl _ _ | assumption | refine Below.drew ?_ | refine Below.drewN' ?_ _ | refine Below.setCell ?_ (by first | (simp; done) | omega | (simp; omega)) _ | refine Below.alloc ?_ (by first | (simp; done) | omega | (simp; omega)) _ | refine Below.step ?_ (by assumption) (by first | (simp; done) | omega | (simp; omega))))) (by omega)

set_option maxHeartbeats 4000000 in
set_option maxRecDepth 20000 in
theorem one_name_arrow (Wn : List Tk → Except Mu.Flt (Nd × List Tk)) (b g : Nat) (L : List Tk) (i d : Nat) (t : Tk) (w : World) (h : IsRdr b g L i d w) (ht : L[i]? = some t) (hE : Ends L)
    (hk : t.kind = 1) (t' : Tk) (ht' : L[i + 1]? = some t') (hk2 : t'.kind = 2) :
    Calls Tryz.prog 153 #[.pointer (some ⟨b, 0, none⟩)] w (OneEnd b g L i d w (Mu.oneWith Wn (L.drop i))) := by
  obtain ⟨n, cap, HN, c0, c1, hc, hl, f0, f1, hlt, hlg, hgb, t0, t1, t2, t3, t4, t5, t6⟩ := h.all ht
  have hlt1 : b < w.heap.size + 1 := by omega
  have hlt2 : b < w.heap.size + 1 + 1 := by omega
  have hlg1 : g < w.heap.size + 1 := by omega
  have hlg2 : g < w.heap.size + 1 + 1 := by omega
  have hw : Mu.oneWith Wn (L.drop i) = .ok (none, L.drop i) := by simp [Mu.oneWith, tk0_drop ht, tk0_drop ht', hk, hk2, List.tail_drop]
  have u0 := (h.tok.cells ht').1
  have hn1 : 1 < n := by have := HN.out; have := (List.getElem?_eq_some_iff.1 ht').1; omega
  have ho : 7 * (i + 1) = 7 * i + 7 := by omega
  rw [ho] at u0
  clear ho ht'
  have HW := Lib.hid hw
  have H := Lib.hid h
  have hki : (t.kind : Int) = 1 := by omega
  have hki2 : (t'.kind : Int) = 2 := by omega
  clear h ht hw hk hk2
  go_enter Tryz.func153, Tryz.ntmps153
  go_wp2_with fail
  refine bodyPost_ret (v := .tuple #[zNd, .bool false]) (by simp [results, Tryz.results153, go_sem]) rfl ⟨?_, .inr (.inl ⟨HW.out, rfl, H.out.keep (by (repeat' (first | exact Below.refl _ _ | assumption | refine Below.drew ?_ | refine Below.drewN' ?_ _ | refine Below.setCell ?_ (by first | (simp; done) | omega | (simp; omega)) _ | refine Below.alloc ?_ (by first | (simp; done) | omega | (simp; omega)) _ | refine Below.step ?_ (by assumption) (by first | (simp; done) | omega | (simp; omega)))))⟩)⟩
  exact Rf.of_below (by (repeat' (first | exact Below.refl _ _ | assumption | refine Below.drew ?_ | refine Below.drewN' ?_ _ | refine Below.setCell ?_ (by first | (simp; done) | omega | (simp; omega)) _ | refine Below.alloc ?_ (by first | (simp; done) | omega | (simp; omega)) _ | refine Below.step ?_ (by assumption) (by first | (simp; done) | omega | (simp; omega))))) (by omega)

set_option maxHeartbeats 4000000 in
set_option maxRecDepth 20000 in
theorem one_name (Wn : List Tk → Except Mu.Flt (Nd × List Tk)) (b g : Nat) (L : List Tk) (i d : Nat) (t : Tk) (w : World) (h : IsRdr b g L i d w) (ht : L[i]? = some t) (hE : Ends L)
    (hk : t.kind = 1) (t' : Tk) (ht' : L[i + 1]? = some t') (hk2 : t'.kind ≠ 2) :
    Calls Tryz.prog 153 #[.pointer (some ⟨b, 0, none⟩)] w (OneEnd b g L i d w (Mu.oneWith Wn (L.drop i))) := by
  obtain ⟨n, cap, HN, c0, c1, hc, hl, f0, f1, hlt, hlg, hgb, t0, t1, t2, t3, t4, t5, t6⟩ := h.all ht
  have hlt1 : b < w.heap.size + 1 := by omega
  have hlt2 : b < w.heap.size + 1 + 1 := by omega
  have hlg1 : g < w.heap.size + 1 := by omega
  have hlg2 : g < w.heap.size + 1 + 1 := by omega
  have hw : Mu.oneWith Wn (L.drop i) = .ok (some (.mk 5 t.text t.cls [] t.place), L.drop (i + 1)) := by simp [Mu.oneWith, tk0_drop ht, tk0_drop ht', hk, hk2, List.tail_drop]
  have u0 := (h.tok.cells ht').1
  have hn1 : 1 < n := by have := HN.out; have := (List.getElem?_eq_some_iff.1 ht').1; omega
  have ho : 7 * (i + 1) = 7 * i + 7 := by omega
  rw [ho] at u0
  clear ho ht'
  have HW := Lib.hid hw
  have H := Lib.hid h
  have HT := Lib.hid ht
  have htl := (hE.2 i t ht).1
  have hnx := (hE.2 i t ht).2.2 (by omega)
  have hki : (t.kind : Int) = 1 := by omega
  have hki2 : ¬ (t'.kind : Int) = 2 := by omega
  clear h ht hw hk hk2
  go_enter Tryz.func153, Tryz.ntmps153
  go_wp2_with fail
  refine (rdr_next b g L i d t _ (H.out.keep (by (repeat' (first | exact Below.refl _ _ | assumption | refine Below.drew ?_ | refine Below.drewN' ?_ _ | refine Below.setCell ?_ (by first | (simp; done) | omega | (simp; omega)) _ | refine Below.alloc ?_ (by first | (simp; done) | omega | (simp; omega)) _ | refine Below.step ?_ (by assumption) (by first | (simp; done) | omega | (simp; omega)))))) HT.out hnx hE.1).mono ?_
  rintro e w1 ⟨rfl, hr, hb⟩
  have HR := Lib.hid hr
  have HB := Lib.hid hb
  have hsz : w.heap.size + 3 ≤ w1.heap.size := by have := hb.size; simpa using this
  have hq := HB.out.keep (k := w.heap.size) (by rw [Below.heap_alloc _ _ _ (by simp; omega), Below.heap_alloc _ _ _ (by simp)]; exact last_block _ _) (by omega)
  have hp := HB.out.keep (k := w.heap.size + 1 + 1) (new_at _ _ _ (by simp)) (by omega)
  obtain ⟨p0, p1, p2, p3, p4, p5, p6, p7⟩ := (Row.refl hp).cells8
  obtain ⟨q0, q1, q2, q3, q4, q5, q6, q7⟩ := (Row.refl hq).cells8
  have HQ := Lib.hid hq
  have z0 := unfrozen_at hq
  clear hr hb hq hp
  go_wp2_with fail
  refine ret_row8 HQ.out ?_
  intro W hW
  obtain ⟨x0, x1, x2, x3, x4, x5, x6, x7⟩ := hW.cells8
  refine bodyPost_ret (v := .tuple #[ndv 5 t.text t.cls (.slice none 0 0) t.place, .bool true]) (by simp [results, Tryz.results153, go_sem, x0, x1, x2, x3, x4, x5, x6, x7]) rfl ⟨?_, .inr (.inr ⟨_, _, i + 1, HW.out, by omega, hnx, rfl, RN.leaf _ _ _ _ _ _ htl, HR.out.row hW (by omega) (by omega)⟩)⟩
  exact hW.rf (((((Rf.refl b w).alloc (by omega) _).alloc (by omega) _).alloc (by omega) _).trans HB.out) (Nat.le_refl _) (by omega)

set_option maxHeartbeats 4000000 in
set_option maxRecDepth 20000 in
theorem one_lit (Wn : List Tk → Except Mu.Flt (Nd × List Tk)) (b g : Nat) (L : List Tk) (i d : Nat) (t : Tk) (w : World) (h : IsRdr b g L i d w) (ht : L[i]? = some t) (hE : Ends L)
    (hk : t.kind = 3) :
    Calls Tryz.prog 153 #[.pointer (some ⟨b, 0, none⟩)] w (OneEnd b g L i d w (Mu.oneWith Wn (L.drop i))) := by
  obtain ⟨n, cap, HN, c0, c1, hc, hl, f0, f1, hlt, hlg, hgb, t0, t1, t2, t3, t4, t5, t6⟩ := h.all ht
  have hlt1 : b < w.heap.size + 1 := by omega
  have hlt2 : b < w.heap.size + 1 + 1 := by omega
  have hlg1 : g < w.heap.size + 1 := by omega
  have hlg2 : g < w.heap.size + 1 + 1 := by omega
  have hw : Mu.oneWith Wn (L.drop i) = .ok (some (.mk 2 t.text t.cls [] t.place), L.drop (i + 1)) := by simp [Mu.oneWith, tk0_drop ht, hk, List.tail_drop]
  have HW := Lib.hid hw
  have H := Lib.hid h
  have HT := Lib.hid ht
  have htl := (hE.2 i t ht).1
  have hnx := (hE.2 i t ht).2.2 (by omega)
  have hki : (t.kind : Int) = 3 := by omega
  clear h ht hw hk
  go_enter Tryz.func153, Tryz.ntmps153
  go_wp2_with fail
  refine (rdr_next b g L i d t _ (H.out.keep (by (repeat' (first | exact Below.refl _ _ | assumption | refine Below.drew ?_ | refine Below.drewN' ?_ _ | refine Below.setCell ?_ (by first | (simp; done) | omega | (simp; omega)) _ | refine Below.alloc ?_ (by first | (simp; done) | omega | (simp; omega)) _ | refine Below.step ?_ (by assumption) (by first | (simp; done) | omega | (simp; omega)))))) HT.out hnx hE.1).mono ?_
  rintro e w1 ⟨rfl, hr, hb⟩
  have HR := Lib.hid hr
  have HB := Lib.hid hb
  have hsz : w.heap.size + 3 ≤ w1.heap.size := by have := hb.size; simpa using this
  have hq := HB.out.keep (k := w.heap.size) (by rw [Below.heap_alloc _ _ _ (by simp; omega), Below.heap_alloc _ _ _ (by simp)]; exact last_block _ _) (by omega)
  have hp := HB.out.keep (k := w.heap.size + 1 + 1) (new_at _ _ _ (by simp)) (by omega)
  obtain ⟨p0, p1, p2, p3, p4, p5, p6, p7⟩ := (Row.refl hp).cells8
  obtain ⟨q0, q1, q2, q3, q4, q5, q6, q7⟩ := (Row.refl hq).cells8
  have HQ := Lib.hid hq
  have z0 := unfrozen_at hq
  clear hr hb hq hp
  go_wp2_with fail
  refine ret_row8 HQ.out ?_
  intro W hW
  obtain ⟨x0, x1, x2, x3, x4, x5, x6, x7⟩ := hW.cells8
  refine bodyPost_ret (v := .tuple #[ndv 2 t.text t.cls (.slice none 0 0) t.place, .bool true]) (by simp [results, Tryz.results153, go_sem, x0, x1, x2, x3, x4, x5, x6, x7]) rfl ⟨?_, .inr (.inr ⟨_, _, i + 1, HW.out, by omega, hnx, rfl, RN.leaf _ _ _ _ _ _ htl, HR.out.row hW (by omega) (by omega)⟩)⟩
  exact hW.rf (((((Rf.refl b w).alloc (by omega) _).alloc (by omega) _).alloc (by omega) _).trans HB.out) (Nat.le_refl _) (by omega)

set_option maxHeartbeats 4000000 in
set_option maxRecDepth 20000 in
theorem one_set (Wn : List Tk → Except Mu.Flt (Nd × List Tk)) (b g : Nat) (L : List Tk) (i d : Nat) (t : Tk) (w : World) (h : IsRdr b g L i d w) (ht : L[i]? = some t) (hE : Ends L)
    (hk : t.kind = 4) :
    Calls Tryz.prog 153 #[.pointer (some ⟨b, 0, none⟩)] w (OneEnd b g L i d w (Mu.oneWith Wn (L.drop i))) := by
  obtain ⟨n, cap, HN, c0, c1, hc, hl, f0, f1, hlt, hlg, hgb, t0, t1, t2, t3, t4, t5, t6⟩ := h.all ht
  have hlt1 : b < w.heap.size + 1 := by omega
  have hlt2 : b < w.heap.size + 1 + 1 := by omega
  have hlg1 : g < w.heap.size + 1 := by omega
  have hlg2 : g < w.heap.size + 1 + 1 := by omega
  have hw : Mu.oneWith Wn (L.drop i) = .ok (some (.mk 3 t.text t.cls [] t.place), L.drop (i + 1)) := by simp [Mu.oneWith, tk0_drop ht, hk, List.tail_drop]
  have HW := Lib.hid hw
  have H := Lib.hid h
  have HT := Lib.hid ht
  have htl := (hE.2 i t ht).1
  have hnx := (hE.2 i t ht).2.2 (by omega)
  have hki : (t.kind : Int) = 4 := by omega
  clear h ht hw hk
  go_enter Tryz.func153, Tryz.ntmps153
  go_wp2_with fail
  refine (rdr_next b g L i d t _ (H.out.keep (by (repeat' (first | exact Below.refl _ _ | assumption | refine Below.drew ?_ | refine Below.drewN' ?_ _ | refine Below.setCell ?_ (by first | (simp; done) | omega | (simp; omega)) _ | refine Below.alloc ?_ (by first | (simp; done) | omega | (simp; omega)) _ | refine Below.step ?_ (by assumption) (by first | (simp; done) | omega | (simp; omega)))))) HT.out hnx hE.1).mono ?_
  rintro e w1 ⟨rfl, hr, hb⟩
  have HR := Lib.hid hr
  have HB := Lib.hid hb
  have hsz : w.heap.size + 3 ≤ w1.heap.size := by have := hb.size; simpa using this
  have hq := HB.out.keep (k := w.heap.size) (by rw [Below.heap_alloc _ _ _ (by simp; omega), Below.heap_alloc _ _ _ (by simp)]; exact last_block _ _) (by omega)
  have hp := HB.out.keep (k := w.heap.size + 1 + 1) (new_at _ _ _ (by simp)) (by omega)
  obtain ⟨p0, p1, p2, p3, p4, p5, p6, p7⟩ := (Row.refl hp).cells8
  obtain ⟨q0, q1, q2, q3, q4, q5, q6, q7⟩ := (Row.refl hq).cells8
  have HQ := Lib.hid hq
  have z0 := unfrozen_at hq
  clear hr hb hq hp
  go_wp2_with fail
  refine ret_row8 HQ.out ?_
  intro W hW
  obtain ⟨x0, x1, x2, x3, x4, x5, x6, x7⟩ := hW.cells8
  refine bodyPost_ret (v := .tuple #[ndv 3 t.text t.cls (.slice none 0 0) t.place, .bool true]) (by simp [results, Tryz.results153, go_sem, x0, x1, x2, x3, x4, x5, x6, x7]) rfl ⟨?_, .inr (.inr ⟨_, _, i + 1, HW.out, by omega, hnx, rfl, RN.leaf _ _ _ _ _ _ htl, HR.out.row hW (by omega) (by omega)⟩)⟩
  exact hW.rf (((((Rf.refl b w).alloc (by omega) _).alloc (by omega) _).alloc (by omega) _).trans HB.out) (Nat.le_refl _) (by omega)

set_option maxHeartbeats 4000000 in
set_option maxRecDepth 20000 in
theorem one_any (Wn : List Tk → Except Mu.Flt (Nd × List Tk)) (b g : Nat) (L : List Tk) (i d : Nat) (t : Tk) (w : World) (h : IsRdr b g L i d w) (ht : L[i]? = some t) (hE : Ends L)
    (hk : t.kind = 5) (h1 : t.text = [46]) :
    Calls Tryz.prog 153 #[.pointer (some ⟨b, 0, none⟩)] w (OneEnd b g L i d w (Mu.oneWith Wn (L.drop i))) := by
  obtain ⟨n, cap, HN, c0, c1, hc, hl, f0, f1, hlt, hlg, hgb, t0, t1, t2, t3, t4, t5, t6⟩ := h.all ht
  have hlt1 : b < w.heap.size + 1 := by omega
  have hlt2 : b < w.heap.size + 1 + 1 := by omega
  have hlg1 : g < w.heap.size + 1 := by omega
  have hlg2 : g < w.heap.size + 1 + 1 := by omega
  have hw : Mu.oneWith Wn (L.drop i) = .ok (some (.mk 4 [] t.cls [] t.place), L.drop (i + 1)) := by simp [Mu.oneWith, tk0_drop ht, hk, h1, List.tail_drop]
  rw [h1] at t1
  have HW := Lib.hid hw
  have H := Lib.hid h
  have HT := Lib.hid ht
  have htl := (hE.2 i t ht).1
  have hnx := (hE.2 i t ht).2.2 (by omega)
  have hki : (t.kind : Int) = 5 := by omega
  clear h ht hw hk h1
  go_enter Tryz.func153, Tryz.ntmps153
  go_wp2_with fail
  refine (rdr_next b g L i d t _ (H.out.keep (by (repeat' (first | exact Below.refl _ _ | assumption | refine Below.drew ?_ | refine Below.drewN' ?_ _ | refine Below.setCell ?_ (by first | (simp; done) | omega | (simp; omega)) _ | refine Below.alloc ?_ (by first | (simp; done) | omega | (simp; omega)) _ | refine Below.step ?_ (by assumption) (by first | (simp; done) | omega | (simp; omega)))))) HT.out hnx hE.1).mono ?_
  rintro e w1 ⟨rfl, hr, hb⟩
  have HR := Lib.hid hr
  have HB := Lib.hid hb
  have hsz : w.heap.size + 3 ≤ w1.heap.size := by have := hb.size; simpa using this
  have hq := HB.out.keep (k := w.heap.size) (by rw [Below.heap_alloc _ _ _ (by simp; omega), Below.heap_alloc _ _ _ (by simp)]; exact last_block _ _) (by omega)
  have hp := HB.out.keep (k := w.heap.size + 1 + 1) (new_at _ _ _ (by simp)) (by omega)
  obtain ⟨p0, p1, p2, p3, p4, p5, p6, p7⟩ := (Row.refl hp).cells8
  obtain ⟨q0, q1, q2, q3, q4, q5, q6, q7⟩ := (Row.refl hq).cells8
  have HQ := Lib.hid hq
  have z0 := unfrozen_at hq
  clear hr hb hq hp
  go_wp2_with fail
  refine ret_row8 HQ.out ?_
  intro W hW
  obtain ⟨x0, x1, x2, x3, x4, x5, x6, x7⟩ := hW.cells8
  refine bodyPost_ret (v := .tuple #[ndv 4 [] t.cls (.slice none 0 0) t.place, .bool true]) (by simp [results, Tryz.results153, go_sem, x0, x1, x2, x3, x4, x5, x6, x7]) rfl ⟨?_, .inr (.inr ⟨_, _, i + 1, HW.out, by omega, hnx, rfl, RN.leaf _ _ _ _ _ _ (by simp), HR.out.row hW (by omega) (by omega)⟩)⟩
  exact hW.rf (((((Rf.refl b w).alloc (by omega) _).alloc (by omega) _).alloc (by omega) _).trans HB.out) (Nat.le_refl _) (by omega)

end Go.Proofs.YtdmhjnnogcpccaaGreatDoor
end
