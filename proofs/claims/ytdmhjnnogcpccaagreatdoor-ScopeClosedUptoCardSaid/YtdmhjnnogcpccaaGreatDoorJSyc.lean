/- syntax.reader: within; and one at a parenthesis. syntax.joined; what a row of trees of the call's own is. -/
import Derived.Test.YtdmhjnnogcpccaaGreatDoorJSya
section
namespace Go.Proofs.YtdmhjnnogcpccaaGreatDoor
open Go.RowKit
open Mu (Cl Bs Nd Ru Gr Tk)
set_option linter.unusedSimpArgs false
set_option linter.unusedVariables false

attribute [local irreducible] wpQuiet wpStill
attribute [local go_sem ↓] Go.wp_at_zero Go.wp_at_succ

namespace Mu
/-- what stands in parentheses; so many more may be opened -/
def withinD : Nat → List Tk → Except Flt (Nd × List Tk)
  | 0, l => .error (stop 2 l)
  | D + 1, l => match choiceD D l.tail with
    | .error e => .error e
    | .ok (n, q) => if signOf q = [41] then .ok (n, q.tail) else .error (wrong q)
theorem choiceD_eq (D : Nat) : choiceD D = choiceWith (rowWith (partWith (oneWith (withinD D)))) := by cases D <;> rfl
end Mu

/-- how a reader of a tree ends: it stands at k at least then -/
def NdEnd (b g : Nat) (L : List Tk) (k d : Nat) (w : World) (RES : Except Mu.Flt (Nd × List Tk)) (e : Ending) (w' : World) : Prop := Rf b w w' ∧
  ((∃ f, RES = .error f ∧ Thrown w.heap.size f e w') ∨
   (∃ n v i', RES = .ok (n, L.drop i') ∧ k ≤ i' ∧ i' < L.length ∧ e = .returned v ∧ RN w' (Fresh w w') v n ∧ IsRdr b g L i' d w'))

def ChOk (D d : Nat) : Prop := ∀ (b g : Nat) (L : List Tk) (i : Nat) (w : World), IsRdr b g L i d w → Ends L → i < L.length →
  Calls Tryz.prog 59 #[.pointer (some ⟨b, 0, none⟩)] w (NdEnd b g L i d w (Mu.choiceD D (L.drop i)))

theorem IsRdr.deep {b g : Nat} {L : List Tk} {i d : Nat} {w : World} (h : IsRdr b g L i d w) (d' : Nat) (x : Int) (hx : x = (d' : Int)) : IsRdr b g L i d' (w.setCell ⟨b, 1, none⟩ (.int .i64 x)) := by
  obtain ⟨cap, h1, h2, h3, h4⟩ := h
  subst hx
  exact ⟨cap, by rw [block_set h1]; rfl, h2.keep (Below.heap_setCell _ _ _ _ h3), h3, h4⟩

theorem IsRdr.ne {b g : Nat} {L : List Tk} {i d : Nat} {w : World} (h : IsRdr b g L i d w) : g ≠ b := by
  obtain ⟨cap, h1, h2, h3, h4⟩ := h
  exact h3

set_option maxHeartbeats 4000000 in
set_option maxRecDepth 20000 in
theorem within_deep (b g : Nat) (L : List Tk) (i : Nat) (t : Tk) (w : World) (h : IsRdr b g L i 24 w) (ht : L[i]? = some t) :
    Calls Tryz.prog 181 #[.pointer (some ⟨b, 0, none⟩)] w (NdEnd b g L (i + 1) 24 w (Mu.withinD 0 (L.drop i))) := by
  obtain ⟨n, cap, HN, c0, c1, hc, hl, f0, f1, hlt, hlg, hgb, t0, t1, t2, t3, t4, t5, t6⟩ := h.all ht
  have hw : Mu.withinD 0 (L.drop i) = .error ⟨2, t.place⟩ := by simp [Mu.withinD, Mu.stop, tk0_drop ht]
  have HW := Lib.hid hw
  have H := Lib.hid h
  have HT := Lib.hid ht
  have c1' : w.cell? ⟨b, 1, none⟩ = some (.int .i64 24) := c1
  clear h ht hw c1
  go_enter Tryz.func181, Tryz.ntmps181
  go_wp2_with fail
  refine (rdr_stop b g L i 24 2 t _ (H.out.keep (by (repeat' (first | exact Below.refl _ _ | assumption | refine Below.drew ?_ | refine Below.drewN' ?_ _ | refine Below.setCell ?_ (by first | (simp; done) | omega | (simp; omega)) _ | refine Below.alloc ?_ (by first | (simp; done) | omega | (simp; omega)) _ | refine Below.step ?_ (by assumption) (by first | (simp; done) | omega | (simp; omega)))))) HT.out).mono ?_
  rintro e w1 ⟨⟨v, rfl, hv⟩, hb⟩
  have HV := Lib.hid hv
  clear hv
  go_wp2_with fail
  exact ⟨rfl, Rf.of_below (Below.trans (by (repeat' (first | exact Below.refl _ _ | assumption | refine Below.drew ?_ | refine Below.drewN' ?_ _ | refine Below.setCell ?_ (by first | (simp; done) | omega | (simp; omega)) _ | refine Below.alloc ?_ (by first | (simp; done) | omega | (simp; omega)) _ | refine Below.step ?_ (by assumption) (by first | (simp; done) | omega | (simp; omega))))) (hb.mono (by simp))) (by omega), .inl ⟨_, HW.out, _, rfl, HV.out.mono (by simp)⟩⟩

set_option maxHeartbeats 4000000 in
set_option maxRecDepth 20000 in
theorem within_any (D d : Nat) (hD : d + D = 23) (IH : ChOk D (d + 1)) (b g : Nat) (L : List Tk) (i : Nat) (t : Tk) (w : World) (h : IsRdr b g L i d w) (ht : L[i]? = some t) (hE : Ends L) (hk : t.kind = 5) :
    Calls Tryz.prog 181 #[.pointer (some ⟨b, 0, none⟩)] w (NdEnd b g L (i + 1) d w (Mu.withinD (D + 1) (L.drop i))) := by
  obtain ⟨n, cap, HN, c0, c1, hc, hl, f0, f1, hlt, hlg, hgb, t0, t1, t2, t3, t4, t5, t6⟩ := h.all ht
  have H := Lib.hid h
  have HT := Lib.hid ht
  have hnx := (hE.2 i t ht).2.2 (by omega)
  have hw : Mu.withinD (D + 1) (L.drop i) = match Mu.choiceD D (L.drop (i + 1)) with
    | .error e => .error e
    | .ok (n, q) => if Mu.signOf q = [41] then .ok (n, q.tail) else .error (Mu.wrong q) := by simp only [Mu.withinD, List.tail_drop]
  have HW := Lib.hid hw
  have hdi : ¬ (d : Int) = 24 := by omega
  have hdb : (d : Int) ≤ 23 := by omega
  clear h ht hw hk
  go_enter Tryz.func181, Tryz.ntmps181
  go_wp2_with fail
  refine (rdr_next b g L i (d + 1) t _ ((H.out.deep (d + 1) _ (by omega)).keep ((Below.refl _ _).alloc (Nat.le_refl _) _)) HT.out hnx hE.1).mono ?_
  rintro e w1 ⟨rfl, hr, hb⟩
  have hB : Rf b w w1 := ((((Rf.refl b w).setOwn 1 _).alloc (by omega) _).trans hb)
  have hsz : w.heap.size + 1 ≤ w1.heap.size := by have := hb.size; simpa using this
  have hq := hb.keep (k := w.heap.size) (new_at _ _ _ (by simp)) (by omega)
  have HR := Lib.hid hr
  have HB := Lib.hid hB
  have HQ := Lib.hid hq
  clear hr hb hB hq c0 c1 f0 f1 t0 t1 t2 t3 t4 t5 t6
  go_wp2_with fail
  refine (IH b g L (i + 1) w1 HR.out hE hnx).mono ?_
  rintro e w2 ⟨hb2, ⟨f, hf, v, rfl, hv⟩ | ⟨nd, v, i2, hres, hi2, hi2l, rfl, hrn, hr2⟩⟩
  · have HV := Lib.hid hv
    have HF := Lib.hid hf
    have HB2 := Lib.hid hb2
    clear hv hf hb2
    go_wp2_with fail
    exact ⟨rfl, HB.out.trans HB2.out, .inl ⟨f, by rw [HW.out, HF.out], _, rfl, HV.out.mono (by omega)⟩⟩
  · obtain ⟨a, nb, off, nc, C, hv, hns, htl⟩ := hrn.open
    obtain ⟨tq, htq⟩ : ∃ tq, L[i2]? = some tq := ⟨L[i2], List.getElem?_eq_some_iff.2 ⟨hi2l, rfl⟩⟩
    have hs2 := hb2.size
    have hq2 := hb2.keep HQ.out (by omega)
    have hB2 := HB.out.trans hb2
    subst hv
    have HRN := Lib.hid hrn
    have HRES := Lib.hid hres
    have HR2 := Lib.hid hr2
    have HB2 := Lib.hid hB2
    have HQ2 := Lib.hid hq2
    have HTQ := Lib.hid htq
    have hlb2 := hr2.lt
    have hlg2 := hr2.tok.lt
    clear hrn hres hr2 hb2 hB2 hq2 htq hns HQ
    go_wp2_with fail
    refine (rdr_sign b g L i2 (d + 1) tq _ (HR2.out.keep (by (repeat' (first | exact Below.refl _ _ | assumption | refine Below.drew ?_ | refine Below.drewN' ?_ _ | refine Below.setCell ?_ (by first | (simp; done) | omega | (simp; omega)) _ | refine Below.alloc ?_ (by first | (simp; done) | omega | (simp; omega)) _ | refine Below.step ?_ (by assumption) (by first | (simp; done) | omega | (simp; omega)))))) HTQ.out).mono ?_
    rintro e w3 ⟨rfl, rfl⟩
    by_cases hsg : Mu.signOf (L.drop i2) = [41]
    · have hk2 : tq.kind ≠ 6 := by
        intro h6
        simp [Mu.signOf, tk0_drop HTQ.out, h6] at hsg
      have hnx2 := (hE.2 i2 tq HTQ.out).2.2 hk2
      have HSG := Lib.hid hsg
      rw [hsg]
      clear hsg
      go_wp2_with fail
      refine (rdr_next b g L i2 (d + 1) tq _ (HR2.out.keep (by (repeat' (first | exact Below.refl _ _ | assumption | refine Below.drew ?_ | refine Below.drewN' ?_ _ | refine Below.setCell ?_ (by first | (simp; done) | omega | (simp; omega)) _ | refine Below.alloc ?_ (by first | (simp; done) | omega | (simp; omega)) _ | refine Below.step ?_ (by assumption) (by first | (simp; done) | omega | (simp; omega)))))) HTQ.out hnx2 hE.1).mono ?_
      rintro e w4 ⟨rfl, hr4, hb4⟩
      have hs4 : w2.heap.size + 1 ≤ w4.heap.size := by have := hb4.size; simpa using this
      have hB4 := (HB2.out.alloc (by omega) _).trans hb4
      have hq4 := hb4.keep (k := w.heap.size) ((Below.heap_alloc _ _ _ (by omega)).trans HQ2.out) (by omega)
      have hp4 := hb4.keep (k := w2.heap.size) (last_block _ _) (by omega)
      obtain ⟨n', cap', d0, d1, e0, e1⟩ : ∃ (n' cap' : Nat), w4.cell? ⟨b, 0, none⟩ = some (.slice (some ⟨g, 7 * (i2 + 1), none⟩) n' cap') ∧ w4.cell? ⟨b, 1, none⟩ = some (.int .i64 ((d + 1 : Nat) : Int)) ∧ w4.frozen? ⟨b, 0, none⟩ = false ∧ w4.frozen? ⟨b, 1, none⟩ = false := by
        obtain ⟨cap', y0, y1, y2, y3, y4⟩ := hr4.cells
        exact ⟨_, cap', y0, y1, y3, y4⟩
      have d1' : w4.cell? ⟨b, 1, none⟩ = some (.int .i64 ((d : Int) + 1)) := d1
      obtain ⟨p0, p1, p2, p3, p4, p5, p6, p7⟩ := (Row.refl hp4).cells8
      obtain ⟨q0, q1, q2, q3, q4, q5, q6, q7⟩ := (Row.refl hq4).cells8
      have z0 := unfrozen_at hq4
      have HR4 := Lib.hid hr4
      have HB4 := Lib.hid hB4
      have HQ4 := Lib.hid hq4
      have HK : Hid (Keeps (Fresh w1 w2) w2 w4) := Lib.hid fun k hk => (hb4.others k (by have := hk.2; simp; omega) (by have := hk.1; omega)).trans (Below.heap_alloc _ _ _ hk.2)
      clear hr4 hB4 hb4 hq4 hp4 d1
      go_wp2_with fail
      refine ret_row8 (w := w4.setCell ⟨b, 1, none⟩ (.int .i64 (d : Int))) ((Below.heap_setCell _ _ _ _ (by show w.heap.size ≠ b; omega)).trans HQ4.out) ?_
      intro W hW
      obtain ⟨x0, x1, x2, x3, x4, x5, x6, x7⟩ := hW.cells8
      have hWs := hW.size
      refine bodyPost_ret (v := ndv nd.kind nd.text nd.cls (.slice a nd.subs.length nc) nd.place) (by simp [results, Tryz.results181, go_sem, x0, x1, x2, x3, x4, x5, x6, x7]) rfl ⟨?_, .inr ⟨nd, _, i2 + 1, by rw [HW.out, HRES.out]; simp [HSG.out, List.tail_drop], by omega, hnx2, rfl, ?_, (HR4.out.deep d _ rfl).row hW (by omega) (by omega)⟩⟩
      · exact hW.rf (HB4.out.setOwn 1 _) (Nat.le_refl _) (by omega)
      · refine ((HRN.out.keep HK.out).keep (w' := W) ?_).mono (F' := Fresh w W) ?_
        · intro k hk
          have h1 := hk.1
          exact (hW.only k (by omega)).trans (Below.heap_setCell _ _ _ _ (by show k ≠ b; omega))
        · intro k hk
          have h1 := hk.1
          have h2 := hk.2
          simp at hWs
          exact ⟨by omega, by omega⟩
    · have hsf : (Mu.signOf (L.drop i2) == [41]) = false := by simpa using hsg
      have HSG := Lib.hid hsg
      clear hsg
      generalize hsx : Mu.signOf (L.drop i2) = sx at hsf ⊢
      have HSX := Lib.hid hsx
      clear hsx
      go_wp2_with fail
      refine (rdr_wrong b g L i2 (d + 1) tq _ (HR2.out.keep (by (repeat' (first | exact Below.refl _ _ | assumption | refine Below.drew ?_ | refine Below.drewN' ?_ _ | refine Below.setCell ?_ (by first | (simp; done) | omega | (simp; omega)) _ | refine Below.alloc ?_ (by first | (simp; done) | omega | (simp; omega)) _ | refine Below.step ?_ (by assumption) (by first | (simp; done) | omega | (simp; omega)))))) HTQ.out).mono ?_
      rintro e w4 ⟨⟨v, rfl, hv⟩, hb4⟩
      have HV := Lib.hid hv
      clear hv
      go_wp2_with fail
      exact ⟨rfl, HB2.out.step (by omega) (Below.trans (by (repeat' (first | exact Below.refl _ _ | assumption | refine Below.drew ?_ | refine Below.drewN' ?_ _ | refine Below.setCell ?_ (by first | (simp; done) | omega | (simp; omega)) _ | refine Below.alloc ?_ (by first | (simp; done) | omega | (simp; omega)) _ | refine Below.step ?_ (by assumption) (by first | (simp; done) | omega | (simp; omega))))) (hb4.mono (by simp))), .inl ⟨_, by rw [HW.out, HRES.out]; simp [HSG.out], _, rfl, HV.out.mono (by simp; omega)⟩⟩

set_option maxHeartbeats 4000000 in
set_option maxRecDepth 20000 in
theorem one_open (D d : Nat) (hW : ∀ (b g : Nat) (L : List Tk) (i : Nat) (t : Tk) (w : World), IsRdr b g L i d w → L[i]? = some t → Ends L → t.kind = 5 → Calls Tryz.prog 181 #[.pointer (some ⟨b, 0, none⟩)] w (NdEnd b g L (i + 1) d w (Mu.withinD D (L.drop i))))
    (b g : Nat) (L : List Tk) (i : Nat) (t : Tk) (w : World) (h : IsRdr b g L i d w) (ht : L[i]? = some t) (hE : Ends L) (hk : t.kind = 5) (h1 : t.text = [40]) :
    Calls Tryz.prog 153 #[.pointer (some ⟨b, 0, none⟩)] w (OneEnd b g L i d w (Mu.oneWith (Mu.withinD D) (L.drop i))) := by
  obtain ⟨n, cap, HN, c0, c1, hc, hl, f0, f1, hlt, hlg, hgb, t0, t1, t2, t3, t4, t5, t6⟩ := h.all ht
  have hlt1 : b < w.heap.size + 1 := by omega
  have hlt2 : b < w.heap.size + 1 + 1 := by omega
  have hlg1 : g < w.heap.size + 1 := by omega
  have hlg2 : g < w.heap.size + 1 + 1 := by omega
  have hw : Mu.oneWith (Mu.withinD D) (L.drop i) = match Mu.withinD D (L.drop i) with
    | .error e => .error e
    | .ok (n, q) => .ok (some n, q) := by
    simp [Mu.oneWith, tk0_drop ht, hk, h1]
    cases Mu.withinD D (List.drop i L) <;> rfl
  have HW := Lib.hid hw
  have H := Lib.hid h
  have HT := Lib.hid ht
  have HK := Lib.hid hk
  have hki : (t.kind : Int) = 5 := by omega
  rw [h1] at t1
  clear h ht hw hk h1
  go_enter Tryz.func153, Tryz.ntmps153
  go_wp2_with fail
  refine (hW b g L i t _ (H.out.keep (by (repeat' (first | exact Below.refl _ _ | assumption | refine Below.drew ?_ | refine Below.drewN' ?_ _ | refine Below.setCell ?_ (by first | (simp; done) | omega | (simp; omega)) _ | refine Below.alloc ?_ (by first | (simp; done) | omega | (simp; omega)) _ | refine Below.step ?_ (by assumption) (by first | (simp; done) | omega | (simp; omega)))))) HT.out hE HK.out).mono ?_
  rintro e w1 ⟨hb, ⟨f, hf, v, rfl, hv⟩ | ⟨nd, v, i2, hres, hi2, hi2l, rfl, hrn, hr2⟩⟩
  · have HV := Lib.hid hv
    have HF := Lib.hid hf
    have hB := (((((Rf.refl b w).alloc (by omega) _).alloc (by omega) _).alloc (by omega) _).trans hb)
    have HB := Lib.hid hB
    clear hv hf hb hB
    go_wp2_with fail
    exact ⟨rfl, HB.out, .inl ⟨f, by rw [HW.out, HF.out], _, rfl, HV.out.mono (by simp; omega)⟩⟩
  · obtain ⟨a, nb, off, nc, C, hv, hns, htl⟩ := hrn.open
    have hB := (((((Rf.refl b w).alloc (by omega) _).alloc (by omega) _).alloc (by omega) _).trans hb)
    have hsz : w.heap.size + 3 ≤ w1.heap.size := by have := hb.size; simpa using this
    have hq := hb.keep (k := w.heap.size) (by rw [Below.heap_alloc _ _ _ (by simp; omega), Below.heap_alloc _ _ _ (by simp)]; exact last_block _ _) (by omega)
    subst hv
    obtain ⟨q0, q1, q2, q3, q4, q5, q6, q7⟩ := (Row.refl hq).cells8
    have z0 := unfrozen_at hq
    have HRN := Lib.hid hrn
    have HRES := Lib.hid hres
    have HR2 := Lib.hid hr2
    have HB := Lib.hid hB
    have HQ := Lib.hid hq
    clear hrn hres hr2 hb hB hq hns
    go_wp2_with fail
    refine ret_row8 HQ.out ?_
    intro W hW
    obtain ⟨x0, x1, x2, x3, x4, x5, x6, x7⟩ := hW.cells8
    have hWs := hW.size
    refine bodyPost_ret (v := .tuple #[ndv nd.kind nd.text nd.cls (.slice a nd.subs.length nc) nd.place, .bool true]) (by simp [results, Tryz.results153, go_sem, x0, x1, x2, x3, x4, x5, x6, x7]) rfl ⟨?_, .inr (.inr ⟨nd, _, i2, by rw [HW.out, HRES.out], by omega, hi2l, rfl, ?_, HR2.out.row hW (by omega) (by omega)⟩)⟩
    · exact hW.rf HB.out (Nat.le_refl _) (by omega)
    · refine (HRN.out.keep (w' := W) ?_).mono (F' := Fresh w W) ?_
      · intro k hk
        have h1 := hk.1
        simp at h1
        exact hW.only k (by omega)
      · intro k hk
        have h1 := hk.1
        have h2 := hk.2
        simp at h1
        exact ⟨by omega, by omega⟩

/-- one, whatever comes -/
theorem one_any_of (D d : Nat) (hW : ∀ (b g : Nat) (L : List Tk) (i : Nat) (t : Tk) (w : World), IsRdr b g L i d w → L[i]? = some t → Ends L → t.kind = 5 → Calls Tryz.prog 181 #[.pointer (some ⟨b, 0, none⟩)] w (NdEnd b g L (i + 1) d w (Mu.withinD D (L.drop i))))
    (b g : Nat) (L : List Tk) (i : Nat) (w : World) (h : IsRdr b g L i d w) (hE : Ends L) (hi : i < L.length) :
    Calls Tryz.prog 153 #[.pointer (some ⟨b, 0, none⟩)] w (OneEnd b g L i d w (Mu.oneWith (Mu.withinD D) (L.drop i))) := by
  obtain ⟨t, ht⟩ : ∃ t, L[i]? = some t := ⟨L[i], List.getElem?_eq_some_iff.2 ⟨hi, rfl⟩⟩
  by_cases h1 : t.kind = 1
  · obtain ⟨t', ht'⟩ : ∃ t', L[i + 1]? = some t' := ⟨_, List.getElem?_eq_some_iff.2 ⟨(hE.2 i t ht).2.2 (by omega), rfl⟩⟩
    by_cases h2 : t'.kind = 2
    · exact one_name_arrow _ b g L i d t w h ht hE h1 t' ht' h2
    · exact one_name _ b g L i d t w h ht hE h1 t' ht' h2
  · by_cases h3 : t.kind = 3
    · exact one_lit _ b g L i d t w h ht hE h3
    · by_cases h4 : t.kind = 4
      · exact one_set _ b g L i d t w h ht hE h4
      · by_cases h5 : t.kind = 5
        · by_cases h6 : t.text = [46]
          · exact one_any _ b g L i d t w h ht hE h5 h6
          · by_cases h7 : t.text = [40]
            · exact one_open D d hW b g L i t w h ht hE h5 h7
            · exact one_sign_bad _ b g L i d t w h ht hE h5 h6 h7
        · exact one_other _ b g L i d t w h ht hE h1 h3 h4 h5

end Go.Proofs.YtdmhjnnogcpccaaGreatDoor
end

section
namespace Go.Proofs.YtdmhjnnogcpccaaGreatDoor
open Go.RowKit
open Mu (Cl Bs Nd Ru Gr Tk)
set_option linter.unusedSimpArgs false
set_option linter.unusedVariables false

attribute [local irreducible] wpQuiet wpStill
attribute [local go_sem ↓] Go.wp_at_zero Go.wp_at_succ

def cellsOf (vs : List Value) : List Value := vs.flatMap fun x => x.cells.toList

/-- a tree without text and class -/
abbrev ndz (k : Int) (s : Value) (p : Int) : Value := .agg #[.int .i64 k, .string ⟨#[]⟩, .int .u64 0, .int .u64 0, .int .u64 0, .int .u64 0, s, .int .i64 p]

/-- a row of trees that the call owns, in blocks from B on -/
def NdRow (B : Nat) (v : Value) (ns : List Nd) (w : World) : Prop := ∃ vs : List Value, vs.length = ns.length ∧ w.ownsRow B 30 8 v ns.length (cellsOf vs) ∧
  ∀ i (h : i < ns.length), RN w (fun k => B ≤ k ∧ k < w.heap.size ∧ some k ≠ v.ownBlock) (vs.getD i .nilIface) ns[i]

theorem RN.cells {w : World} {F : Nat → Prop} {v : Value} {n : Nd} (h : RN w F v n) : v.cells.size = 8 := by
  obtain ⟨a, b, off, cap, C, hv, _⟩ := h.open
  rw [hv]
  rfl

theorem cellsOf_get : ∀ (vs : List Value) (i j : Nat), (∀ k, k < vs.length → (vs.getD k .nilIface).cells.size = 8) → i < vs.length → j < 8 → (cellsOf vs)[i * 8 + j]? = (vs.getD i .nilIface).cells[j]?
  | [], i, j, _, h, _ => by simp at h
  | v :: vs, i, j, hc, h, hj => by
    have h0 : v.cells.size = 8 := hc 0 (by simp)
    unfold cellsOf
    rw [List.flatMap_cons]
    cases i with
    | zero =>
      rw [List.getElem?_append_left (by simp [h0]; omega)]
      simp
    | succ i =>
      rw [List.getElem?_append_right (by simp [h0]; omega)]
      have := cellsOf_get vs i j (fun k hk => by have := hc (k + 1) (by simp; omega); simpa using this) (by simpa using h) hj
      unfold cellsOf at this
      have e : (i + 1) * 8 + j - v.cells.toList.length = i * 8 + j := by simp [h0]; omega
      rw [e, this]
      simp

theorem NdRow.same {B : Nat} {v : Value} {ns : List Nd} {w w' : World} (h : NdRow B v ns w) (hs : w.heap.size ≤ w'.heap.size) (hk : ∀ k, B ≤ k → k < w.heap.size → w'.heap[k]? = w.heap[k]?) : NdRow B v ns w' := by
  obtain ⟨vs, h1, ⟨h2, h3⟩, h4⟩ := h
  refine ⟨vs, h1, ⟨h2, ?_⟩, fun i hi => ((h4 i hi).keep (w' := w') fun k hF => hk k hF.1 hF.2.1).mono fun k hF => ⟨hF.1, by omega, hF.2.2⟩⟩
  rcases h3 with h3 | ⟨g, cap, cur, hv, hg, hh, r⟩
  · exact .inl h3
  · exact .inr ⟨g, cap, cur, hv, hg, by rw [hk g hg (lt_of_block hh)]; exact hh, r⟩

/-- the row's trees as they are read -/
theorem NdRow.rns {B : Nat} {v : Value} {ns : List Nd} {w : World} (h : NdRow B v ns w) (h0 : ns ≠ []) (hl : ns.length ≤ 100000) : ∃ (a : Option Addr) (b off cap : Nat) (C : Nat → Value), v = .slice a ns.length cap ∧ ns.length ≤ cap ∧ cap ≤ maxLen ∧ RNs w (fun k => B ≤ k ∧ k < w.heap.size) a b off ns C := by
  obtain ⟨vs, h1, ⟨h2, h3⟩, h4⟩ := h
  have hne : 0 < ns.length := List.length_pos_iff.2 h0
  rcases h3 with ⟨_, h3⟩ | ⟨g, cap, cur, hv, hg, hh, hc1, hc2, hsz, htk⟩
  · omega
  · refine ⟨some ⟨g, 0, none⟩, g, 0, cap, fun i => vs.getD i .nilIface, hv, hc1, hc2, .inr rfl, fun _ => ⟨hg, lt_of_block hh⟩, by unfold maxSubs; omega, ?_, fun i hi => (h4 i hi).mono fun k hF => ⟨hF.1, hF.2.1⟩⟩
    intro i hi j hj
    rw [cell_at hh]
    have hcs : ∀ k, k < vs.length → (vs.getD k .nilIface).cells.size = 8 := fun k hk => (h4 k (by omega)).cells
    rw [← cellsOf_get vs i j hcs (by omega) hj, ← htk]
    rw [List.getElem?_take_of_lt (by omega)]
    simp

theorem RNs.below {w w' : World} {F : Nat → Prop} {a : Option Addr} {b off : Nat} {ns : List Nd} {C : Nat → Value} (h : RNs w F a b off ns C) (hF : ∀ k, F k → k < w.heap.size) (hb : Below w.heap.size w w') : RNs w' F a b off ns C := h.keep (Keeps.of_below hb hF)

set_option maxHeartbeats 4000000 in
set_option maxRecDepth 20000 in
theorem joined_any (k : Int) (F : Nat → Prop) (a : Option Addr) (b off cap : Nat) (ns : List Nd) (C : Nat → Value) (w : World) (h : RNs w F a b off ns C) (hF : ∀ k, F k → k < w.heap.size) (h0 : ns ≠ []) (hl : ns.length ≤ 100000) :
    Calls Tryz.prog 84 #[.int .i64 k, .slice a ns.length cap] w fun e w' => ∃ v, e = .returned v ∧ RN w' F v (Mu.joined k ns) ∧ Below w.heap.size w w' := by
  have hne : 0 < ns.length := List.length_pos_iff.2 h0
  obtain ⟨a', cap', rfl, hFb, hC, t0, t1, t2, t3, t4, t5, t6, t7⟩ := h.one 0 hne
  have hlt := hF b hFb
  have hR := h.hC 0 hne
  rw [hC] at hR
  have HH := Lib.hid h
  have HR := Lib.hid hR
  clear h hR hC
  simp only [Nat.zero_mul, Nat.add_zero] at t0 t1 t2 t3 t4 t5 t6 t7
  by_cases h1 : ns.length = 1
  · have hj : Mu.joined k ns = ns[0] := by
      match ns, h1 with
      | [n], _ => rfl
    have HJ := Lib.hid hj
    rw [h1]
    clear hj
    generalize ns[0] = n0 at t0 t1 t2 t3 t4 t5 t6 t7 HR HJ
    clear h1 h0 hne hl
    go_enter Tryz.func84, Tryz.ntmps84
    go_wp2_with fail
    refine bodyPost_ret (v := ndv n0.kind n0.text n0.cls (.slice a' n0.subs.length cap') n0.place) (by simp [results, Tryz.results84, go_sem]) rfl ⟨_, rfl, by rw [HJ.out]; exact HR.out.keep (Keeps.of_below (by (repeat' (first | exact Below.refl _ _ | assumption | refine Below.drew ?_ | refine Below.drewN' ?_ _ | refine Below.setCell ?_ (by first | (simp; done) | omega | (simp; omega)) _ | refine Below.alloc ?_ (by first | (simp; done) | omega | (simp; omega)) _ | refine Below.step ?_ (by assumption) (by first | (simp; done) | omega | (simp; omega)))) : Below w.heap.size w _) hF), by (repeat' (first | exact Below.refl _ _ | assumption | refine Below.drew ?_ | refine Below.drewN' ?_ _ | refine Below.setCell ?_ (by first | (simp; done) | omega | (simp; omega)) _ | refine Below.alloc ?_ (by first | (simp; done) | omega | (simp; omega)) _ | refine Below.step ?_ (by assumption) (by first | (simp; done) | omega | (simp; omega))))⟩
  · have hj : Mu.joined k ns = .mk k [] Cl.zero ns ns[0].place := by
      match ns, h1, h0 with
      | n :: m :: l, _, _ => rfl
    have HJ := Lib.hid hj
    have hl1 : ¬ (ns.length : Int) = 1 := by omega
    clear hj
    generalize ns[0] = n0 at t0 t1 t2 t3 t4 t5 t6 t7 HR HJ
    clear h1 h0
    go_enter Tryz.func84, Tryz.ntmps84
    go_wp2_with fail
    refine bodyPost_ret (v := ndz k (.slice (some ⟨b, off, none⟩) ns.length cap) n0.place) (by simp [results, Tryz.results84, go_sem]) rfl ⟨_, rfl, by rw [HJ.out]; exact RN.mk' (t := []) (c := Cl.zero) (HH.out.below hF (by (repeat' (first | exact Below.refl _ _ | assumption | refine Below.drew ?_ | refine Below.drewN' ?_ _ | refine Below.setCell ?_ (by first | (simp; done) | omega | (simp; omega)) _ | refine Below.alloc ?_ (by first | (simp; done) | omega | (simp; omega)) _ | refine Below.step ?_ (by assumption) (by first | (simp; done) | omega | (simp; omega)))))) (by simp), by (repeat' (first | exact Below.refl _ _ | assumption | refine Below.drew ?_ | refine Below.drewN' ?_ _ | refine Below.setCell ?_ (by first | (simp; done) | omega | (simp; omega)) _ | refine Below.alloc ?_ (by first | (simp; done) | omega | (simp; omega)) _ | refine Below.step ?_ (by assumption) (by first | (simp; done) | omega | (simp; omega))))⟩

end Go.Proofs.YtdmhjnnogcpccaaGreatDoor
end
