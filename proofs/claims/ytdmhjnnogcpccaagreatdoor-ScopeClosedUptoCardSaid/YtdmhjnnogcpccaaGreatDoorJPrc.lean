/- printer: part, and the row of an expression's parts. printer: expr. -/
import Derived.Test.YtdmhjnnogcpccaaGreatDoorJPra
import Derived.Deep.RegionWith
import Derived.StillTailTactics
section
namespace Go.Proofs.YtdmhjnnogcpccaaGreatDoor
open Go.RowKit
open Mu (Cl Bs Nd Ru Gr Tk)
set_option linter.unusedSimpArgs false
set_option linter.unusedVariables false

attribute [local irreducible] wpQuiet wpStill
attribute [local go_sem ↓] Go.wp_at_zero Go.wp_at_succ

/-- what 'expr' does at a tree -/
def ExprC (n : Nd) : Prop := ∀ (v : Value) (w : World) (F : Nat → Prop) (b : Nat) (l : Bs), RN w F v n → (∀ k, F k → k < b) → Bld 157 b l w → Mu.nodeOk n = true → l.length + 2400 * Mu.sz n ≤ 140737488300000 →
  Calls Tryz.prog 89 #[.pointer (some ⟨b, 0, none⟩), v] w fun e w' => e = .returned (.tuple #[]) ∧ Bld 157 b (Mu.exprT n l) w' ∧ Wr b w w' ∧ (Mu.exprT n l).length + 10 ≤ l.length + 2400 * Mu.sz n

/-- what 'part' does at a tree -/
def PartC (n : Nd) : Prop := ∀ (m : Nat) (v : Value) (w : World) (F : Nat → Prop) (b : Nat) (l : Bs), RN w F v n → (∀ k, F k → k < b) → Bld 157 b l w → Mu.nodeOk n = true → l.length + 8 + 2400 * Mu.sz n ≤ 140737488300000 → m ≤ 100 →
  Calls Tryz.prog 120 #[.pointer (some ⟨b, 0, none⟩), v, .int .i64 (m : Int)] w fun e w' => e = .returned (.tuple #[]) ∧ Bld 157 b (Mu.partT m n l) w' ∧ Wr b w w' ∧ (Mu.partT m n l).length + 8 ≤ l.length + 2400 * Mu.sz n

theorem sz_pos (n : Nd) : 1 ≤ Mu.sz n := by
  cases n
  simp [Mu.sz]

theorem Wr.alloc {b : Nat} {w w1 : World} (h : Wr b w w1) (o : Obj) (hb : b ≤ w1.heap.size) : Wr b w (w1.alloc o) := h.trans (Wr.of_below ((Below.refl _ _).alloc (Nat.le_refl _) _) hb)

set_option maxHeartbeats 4000000 in
set_option maxRecDepth 20000 in
theorem prn_part (n : Nd) (hX : ExprC n) : PartC n := by
  intro m v w F b l hR hF hB hok hlen hm
  obtain ⟨a, nb, off, cap, C, hv, _⟩ := hR.open
  subst hv
  have hlb := hB.lt
  have hp := sz_pos n
  have hR1 := hR.keep (w' := w.alloc (.cells (ndv n.kind n.text n.cls (.slice a n.subs.length cap) n.place).cells 30)) (fun k hk => Below.heap_alloc _ _ _ (by have := hF k hk; omega))
  have hB1 := hB.keep (by (repeat' (first | exact Below.refl _ _ | assumption | refine Below.drew ?_ | refine Below.drewN' ?_ _ | refine Below.setCell ?_ (by first | (simp; done) | omega | (simp; omega)) _ | refine Below.alloc ?_ (by first | (simp; done) | omega | (simp; omega)) _ | refine Below.step ?_ (by assumption) (by first | (simp; done) | omega | (simp; omega)))) : Below w.heap.size w (w.alloc (.cells (ndv n.kind n.text n.cls (.slice a n.subs.length cap) n.place).cells 30)))
  have hW1 : Wr b w (w.alloc (.cells (ndv n.kind n.text n.cls (.slice a n.subs.length cap) n.place).cells 30)) := (Wr.refl b w).alloc _ (by omega)
  have hq := last_block w (.cells (ndv n.kind n.text n.cls (.slice a n.subs.length cap) n.place).cells 30)
  by_cases hr : m ≤ Mu.rank n.kind
  · have ht : Mu.partT m n l = Mu.exprT n l := by
      simp only [Mu.partT, if_pos hr]
    have hri : (m : Int) ≤ (Mu.rank n.kind : Int) := by omega
    rw [ht]
    have HX := Lib.hid (hX _ _ F b l hR1 hF hB1 hok (by omega))
    have HW1 := Lib.hid hW1
    clear ht hX hR hR1 hB hB1 hW1 hq
    go_enter Tryz.func120, Tryz.ntmps120
    go_wp2_with fail
    refine (prn_rank n.kind _).mono ?_
    rintro e w1 ⟨rfl, rfl⟩
    go_wp2_with fail
    refine HX.out.mono ?_
    rintro e w2 ⟨rfl, hB2, hW2, hl2⟩
    have HB2 := Lib.hid hB2
    have HW2 := Lib.hid hW2
    clear hB2 hW2
    go_wp2_with fail
    first
      | go_end0
      | refine bodyPost_ret (results_none rfl _ _ _) rfl ?_
    exact ⟨rfl, HB2.out, HW1.out.trans HW2.out, by omega⟩
  · have ht : Mu.partT m n l = Mu.exprT n (l ++ [40]) ++ [41] := by
      simp only [Mu.partT, if_neg hr]
    have hri : ¬ (m : Int) ≤ (Mu.rank n.kind : Int) := by omega
    rw [ht]
    have HX := Lib.hid hX
    have HW1 := Lib.hid hW1
    have HB1 := Lib.hid hB1
    have HR1 := Lib.hid hR1
    have HQ := Lib.hid hq
    clear ht hX hR hR1 hB hB1 hW1 hq
    go_enter Tryz.func120, Tryz.ntmps120
    go_wp2_with fail
    refine (prn_rank n.kind _).mono ?_
    rintro e w1 ⟨rfl, rfl⟩
    go_wp2_with fail
    refine (writeByte 157 bt_page b l 40 _ HB1.out (by omega)).mono ?_
    rintro e w2 ⟨rfl, hB2, hW2⟩
    have hq2 := hW2.keep HQ.out (by omega) (by intro c fz e; cases e)
    obtain ⟨q0, q1, q2, q3, q4, q5, q6, q7⟩ := (Row.refl hq2).cells8
    have hR2 := HR1.out.keep (Keeps.of_below hW2.below hF)
    have HX2 := Lib.hid (HX.out _ _ F b (l ++ [40]) hR2 hF hB2 hok (by simp; omega))
    have HB2 := Lib.hid hB2
    have HW2 := Lib.hid (HW1.out.trans hW2)
    have hs2 := hW2.size
    have hq2l : w.heap.size < w2.heap.size := lt_of_block hq2
    clear hB2 hW2 hq2 hR2
    go_wp2_with fail
    refine HX2.out.mono ?_
    rintro e w3 ⟨rfl, hB3, hW3, hl3⟩
    have HW3 := Lib.hid (HW2.out.trans hW3)
    have HL3 := Lib.hid hl3
    simp at hl3
    have HC := Lib.hid (writeByte 157 bt_page b _ 41 _ hB3 (by omega))
    clear hB3 hW3
    go_wp2_with fail
    refine HC.out.mono ?_
    rintro e w4 ⟨rfl, hB4, hW4⟩
    have HB4 := Lib.hid hB4
    have HW4 := Lib.hid (HW3.out.trans hW4)
    clear hB4 hW4
    go_wp2_with fail
    first
      | go_end0
      | refine bodyPost_ret (results_none rfl _ _ _) rfl ?_
    exact ⟨rfl, HB4.out, HW4.out, by simp; omega⟩

/-- what the closure 'row' of 'expr' does: the parts of a tree with a text between each two -/
theorem partsT_nil (bt : Bs) (m : Nat) (f : Bool) (p : Bs) : Mu.partsT bt m f [] p = p := by simp [Mu.partsT]
theorem partsT_cons (bt : Bs) (m : Nat) (f : Bool) (n : Nd) (l : List Nd) (p : Bs) : Mu.partsT bt m f (n :: l) p = Mu.partsT bt m false l (Mu.partT m n (if f then p else p ++ bt)) := by simp [Mu.partsT]

theorem szs_drop : ∀ (l : List Nd) (k : Nat) (h : k < l.length), Mu.szs (l.drop k) = Mu.sz l[k] + Mu.szs (l.drop (k + 1))
  | [], k, h => by simp at h
  | n :: l, 0, _ => by simp [Mu.szs]
  | n :: l, k + 1, h => by simpa using szs_drop l k (by simpa using h)

set_option maxHeartbeats 8000000 in
set_option maxRecDepth 20000 in
theorem prn_row (ns : List Nd) (hP : ∀ n ∈ ns, PartC n) (hok : ∀ n ∈ ns, Mu.nodeOk n = true) (bt : Bs) (hbt : bt.length ≤ 3) (m : Nat) (hm : m ≤ 100) (k : Int) (t : Bs) (c : Cl) (p : Int) (F : Nat → Prop) (a : Option Addr) (nb off cap : Nat) (C : Nat → Value)
    (b T2 T3 : Nat) (l : Bs) (w : World) (hns : RNs w F a nb off ns C) (hF : ∀ k, F k → k < b) (hB : Bld 157 b l w) (h2 : w.heap[T2]? = some (.cells #[.pointer (some ⟨b, 0, none⟩)] 194)) (h3 : w.heap[T3]? = some (.cells (ndv k t c (.slice a ns.length cap) p).cells 30))
    (hb2 : b < T2) (hb3 : b < T3) (hlen : l.length + 11 + 2400 * Mu.szs ns ≤ 140737488300000) :
    Calls Tryz.prog 119 #[.string (ba bt), .int .i64 (m : Int), .pointer (some ⟨T3, 0, none⟩), .pointer (some ⟨T2, 0, none⟩)] w fun e w' => e = .returned (.tuple #[]) ∧ Bld 157 b (Mu.partsT bt m true ns l) w' ∧ Wr b w w' ∧ (Mu.partsT bt m true ns l).length ≤ l.length + 2400 * Mu.szs ns := by
  have hlim := hns.hlim
  unfold maxSubs at hlim
  obtain ⟨q0, q1, q2, q3, q4, q5, q6, q7⟩ := (Row.refl h3).cells8
  have HNS := Lib.hid hns
  have HF := Lib.hid hF
  have HB := Lib.hid hB
  have H2 := Lib.hid h2
  have H3 := Lib.hid h3
  have HP := Lib.hid hP
  have HOK := Lib.hid hok
  generalize hR : Mu.partsT bt m true ns l = R
  have HR := Lib.hid hR
  clear hns hF hB h2 h3 hP hok hR
  go_enter Tryz.func119, Tryz.ntmps119
  go_wp2_with fail
  go_loopw [6, 11] (fun _ s wr => ∃ (j : Nat) (lj : Bs), j ≤ ns.length ∧ s = .int .i64 j ∧ Bld 157 b lj wr ∧ Wr b w wr ∧ Mu.partsT bt m (decide (j = 0)) (ns.drop j) lj = R ∧ lj.length + 2400 * Mu.szs (ns.drop j) ≤ l.length + 2400 * Mu.szs ns) (fun _ s _ => ns.length - (intOf s).toNat)
  case atStart => exact ⟨0, l, Nat.zero_le _, rfl, HB.out, Wr.refl _ _, HR.out, Nat.le_refl _⟩
  case round =>
    obtain ⟨j, lj, hj, rfl, hBj, hWj, hRj, hlj⟩ := hrel
    have hszj := hWj.size
    have h2j := hWj.keep H2.out (by omega) (by intro c fz e; cases e)
    have p2 := cell_at h2j 0
    have hT2 := lt_of_block h2j
    have hblt := hBj.lt
    have HBj := Lib.hid hBj
    have HWj := Lib.hid hWj
    have HRj := Lib.hid hRj
    have H2j := Lib.hid h2j
    clear hBj hWj hRj h2j
    by_cases hlt : j < ns.length
    · have hn := HNS.out.keep (Keeps.of_below HWj.out.below HF.out)
      obtain ⟨a', cap', rfl, hFb, hCk, t0, t1, t2, t3, t4, t5, t6, t7⟩ := hn.one j hlt
      have hRn := hn.hC j hlt
      rw [hCk] at hRn
      have hnb := HF.out nb hFb
      have hmem : ns[j] ∈ ns := List.getElem_mem hlt
      have hPj := HP.out _ hmem
      have hokj := HOK.out _ hmem
      have hsd := szs_drop ns j hlt
      have hdr : ns.drop j = ns[j] :: ns.drop (j + 1) := List.drop_eq_getElem_cons hlt
      have hRj := HRj.out
      rw [hdr, partsT_cons] at hRj
      have hps := sz_pos ns[j]
      have hzz := Mu.sz_mem ns _ hmem
      have HRn := Lib.hid hRn
      have HPj := Lib.hid hPj
      have HRj2 := Lib.hid hRj
      have HSD := Lib.hid hsd
      rw [hsd] at hlj
      have HLJ := Lib.hid hlj
      have HOKj := Lib.hid hokj
      clear hn hRn hCk hmem hPj hokj hsd hdr hRj HRj hlj
      generalize ns[j] = n0 at t0 t1 t2 t3 t4 t5 t6 t7 HRn HPj HRj2 HSD HLJ HOKj hps hzz
      have hlti : (j : Int) < (ns.length : Int) := by omega
      have hRn1 := HRn.out.keep (w' := wr.alloc (.cells (ndv n0.kind n0.text n0.cls (.slice a' n0.subs.length cap') n0.place).cells 30)) (fun k hk => Below.heap_alloc _ _ _ (by have := HF.out k hk; omega))
      have hB1 := HBj.out.keep (by (repeat' (first | exact Below.refl _ _ | assumption | refine Below.drew ?_ | refine Below.drewN' ?_ _ | refine Below.setCell ?_ (by first | (simp; done) | omega | (simp; omega)) _ | refine Below.alloc ?_ (by first | (simp; done) | omega | (simp; omega)) _ | refine Below.step ?_ (by assumption) (by first | (simp; done) | omega | (simp; omega)))) : Below wr.heap.size wr (wr.alloc (.cells (ndv n0.kind n0.text n0.cls (.slice a' n0.subs.length cap') n0.place).cells 30)))
      have hW1 := HWj.out.alloc (.cells (ndv n0.kind n0.text n0.cls (.slice a' n0.subs.length cap') n0.place).cells 30) (by omega)
      have hq1 := last_block wr (.cells (ndv n0.kind n0.text n0.cls (.slice a' n0.subs.length cap') n0.place).cells 30)
      have h21 := (Below.heap_alloc wr (.cells (ndv n0.kind n0.text n0.cls (.slice a' n0.subs.length cap') n0.place).cells 30) _ hT2).trans H2j.out
      by_cases hj0 : j = 0
      · have hj0i : ¬ (0 : Int) < (j : Int) := by omega
        have hif : (if decide (j = 0) = true then lj else lj ++ bt) = lj := by simp [hj0]
        have hRR := HRj2.out
        rw [hif] at hRR
        have HC := Lib.hid (HPj.out m _ _ F b lj hRn1 HF.out hB1 HOKj.out (by have := HLJ.out; omega) hm)
        have HRR := Lib.hid hRR
        have HW1 := Lib.hid hW1
        clear hj0 hif hRR hRn1 hB1 hW1 hq1 h21
        go_wp2_with fail
        refine HC.out.mono ?_
        rintro e w2 ⟨rfl, hB2, hW2, hl2⟩
        have HB2 := Lib.hid hB2
        have HW2 := Lib.hid (HW1.out.trans hW2)
        have HL2 := Lib.hid hl2
        clear hB2 hW2 hl2
        go_wp2_with fail
        go_roundw
        case rel => exact ⟨j + 1, _, by omega, by go_num, HB2.out, HW2.out, by simpa using HRR.out, by have := HL2.out; have := HLJ.out; omega⟩
        case measure => simp [intOf]; omega
      · have hj0i : (0 : Int) < (j : Int) := by omega
        have hif : (if decide (j = 0) = true then lj else lj ++ bt) = lj ++ bt := by simp [hj0]
        have hRR := HRj2.out
        rw [hif] at hRR
        have HS := Lib.hid (writeString 157 bt_page b lj (ba bt) _ hB1 (by show lj.length + bt.length ≤ _; have := HLJ.out; omega))
        have HRR := Lib.hid hRR
        have HW1 := Lib.hid hW1
        have HR1 := Lib.hid hRn1
        have HQ1 := Lib.hid hq1
        have H21 := Lib.hid h21
        clear hj0 hif hRR hRn1 hB1 hW1 hq1 h21
        go_wp2_with fail
        refine HS.out.mono ?_
        rintro e w2 ⟨rfl, hB2, hW2⟩
        have hq2 := hW2.keep HQ1.out (by omega) (by intro c fz e; cases e)
        have h22 := hW2.keep H21.out (by omega) (by intro c fz e; cases e)
        have hs2 := hW2.size
        simp at hs2
        have hT22 := lt_of_block h22
        have hq2l := lt_of_block hq2
        have p22 := cell_at h22 0
        obtain ⟨y0, y1, y2, y3, y4, y5, y6, y7⟩ := (Row.refl hq2).cells8
        have HC := Lib.hid (HPj.out m _ _ F b (lj ++ bt) (HR1.out.keep (Keeps.of_below hW2.below HF.out)) HF.out hB2 HOKj.out (by have := HLJ.out; simp; omega) hm)
        have HW2 := Lib.hid (HW1.out.trans hW2)
        clear hB2 hW2 hq2 h22
        go_wp2_with fail
        refine HC.out.mono ?_
        rintro e w3 ⟨rfl, hB3, hW3, hl3⟩
        have HB3 := Lib.hid hB3
        have HW3 := Lib.hid (HW2.out.trans hW3)
        have HL3 := Lib.hid hl3
        clear hB3 hW3 hl3
        go_wp2_with fail
        go_roundw
        case rel => exact ⟨j + 1, _, by omega, by go_num, HB3.out, HW3.out, by simpa using HRR.out, by have := HL3.out; have := HLJ.out; simp at *; omega⟩
        case measure => simp [intOf]; omega
    · obtain rfl : j = ns.length := by omega
      have hRj := HRj.out
      rw [List.drop_length, partsT_nil] at hRj
      have HRE := Lib.hid hRj
      have hl2 : lj.length ≤ l.length + 2400 * Mu.szs ns := by omega
      clear hRj HRj
      go_wp2_with fail
      first
        | go_end0
        | refine bodyPost_ret (results_none rfl _ _ _) rfl ?_
      exact ⟨rfl, by rw [← HRE.out]; exact HBj.out, HWj.out, by rw [← HRE.out]; exact hl2⟩

end Go.Proofs.YtdmhjnnogcpccaaGreatDoor
end

section
namespace Go.Proofs.YtdmhjnnogcpccaaGreatDoor
open Go.RowKit
open Mu (Cl Bs Nd Ru Gr Tk)
set_option linter.unusedSimpArgs false
set_option linter.unusedVariables false

attribute [local irreducible] wpQuiet wpStill
attribute [local go_sem ↓] Go.wp_at_zero Go.wp_at_succ

theorem quote_len (t : Bs) (h : t.length ≤ 255) : (Mu.quote t).length ≤ 1100 := by
  have := quote_flat_len t
  simp [Mu.quote]
  simp at this
  omega

theorem clText_len (c : Cl) : (Mu.clText c).length ≤ 2310 := by
  have h1 := runs_flat_len (Mu.runs c)
  have h2 := runs_length c
  simp [Mu.clText]
  simp at h1
  omega

theorem isName_len (t : Bs) (h : Mu.isName t = true) : t.length ≤ 32 := by
  simp [Mu.isName] at h
  exact h.1.2

theorem exprT_wide (k : Int) (t : Bs) (c : Cl) (ns : List Nd) (p : Int) (l : Bs) (h : 8192 < l.length) : Mu.exprT (.mk k t c ns p) l = l := by simp [Mu.exprT, h]

set_option maxHeartbeats 8000000 in
set_option maxRecDepth 100000 in
theorem expr_any (k : Int) (t : Bs) (c : Cl) (ns : List Nd) (p : Int) (hIH : ∀ n ∈ ns, ExprC n) : ExprC (.mk k t c ns p) := by
  intro v w F b l hR hF hB hok hlen
  obtain ⟨a, nb, off, cap, C, hv, hns, htl⟩ := hR.open
  simp only [Nd.kind, Nd.text, Nd.cls, Nd.subs, Nd.place] at hv hns htl
  subst hv
  have hmf : ∀ (fn : Fn) (first cap : Array Value) (w : World), (Instr.makeFunc fn first cap).run Tryz.prog w = .ok (.func fn first cap) w := fun _ _ _ _ => rfl
  have hlb := hB.lt
  have hsz : Mu.sz (.mk k t c ns p) = Mu.szs ns + 1 := by simp [Mu.sz]
  rw [hsz] at hlen ⊢
  rw [Mu.nodeOk_eq] at hok
  have hhead : Mu.okHead k t ns.length = true ∧ Mu.nodesOk ns = true := by
    split at hok
    · cases hok
    · simpa using hok
  have hokn : ∀ n ∈ ns, Mu.nodeOk n = true := by
    have := hhead.2
    rw [nodesOk_all, List.all_eq_true] at this
    exact this
  have hP : ∀ n ∈ ns, PartC n := fun n hn => prn_part n (hIH n hn)
  -- the world in which the body runs
  have hB2 : Bld 157 b l ((w.alloc (.cells #[.pointer (some ⟨b, 0, none⟩)] 194)).alloc (.cells #[.int .i64 k, .string (ba t), .int .u64 (c.a.toNat : Int), .int .u64 (c.b.toNat : Int), .int .u64 (c.c.toNat : Int), .int .u64 (c.d.toNat : Int), .slice a ns.length cap, .int .i64 p] 30)) := hB.keep (by (repeat' (first | exact Below.refl _ _ | assumption | refine Below.drew ?_ | refine Below.drewN' ?_ _ | refine Below.setCell ?_ (by first | (simp; done) | omega | (simp; omega)) _ | refine Below.alloc ?_ (by first | (simp; done) | omega | (simp; omega)) _ | refine Below.step ?_ (by assumption) (by first | (simp; done) | omega | (simp; omega)))))
  have hns2 := hns.keep (w' := (w.alloc (.cells #[.pointer (some ⟨b, 0, none⟩)] 194)).alloc (.cells #[.int .i64 k, .string (ba t), .int .u64 (c.a.toNat : Int), .int .u64 (c.b.toNat : Int), .int .u64 (c.c.toNat : Int), .int .u64 (c.d.toNat : Int), .slice a ns.length cap, .int .i64 p] 30)) (fun k hk => by
    have := hF k hk
    rw [Below.heap_alloc _ _ _ (by simp; omega), Below.heap_alloc _ _ _ (by omega)])
  have hW2 : Wr b w ((w.alloc (.cells #[.pointer (some ⟨b, 0, none⟩)] 194)).alloc (.cells #[.int .i64 k, .string (ba t), .int .u64 (c.a.toNat : Int), .int .u64 (c.b.toNat : Int), .int .u64 (c.c.toNat : Int), .int .u64 (c.d.toNat : Int), .slice a ns.length cap, .int .i64 p] 30)) := Wr.of_below (by (repeat' (first | exact Below.refl _ _ | assumption | refine Below.drew ?_ | refine Below.drewN' ?_ _ | refine Below.setCell ?_ (by first | (simp; done) | omega | (simp; omega)) _ | refine Below.alloc ?_ (by first | (simp; done) | omega | (simp; omega)) _ | refine Below.step ?_ (by assumption) (by first | (simp; done) | omega | (simp; omega))))) (by omega)
  have h2 : ((w.alloc (.cells #[.pointer (some ⟨b, 0, none⟩)] 194)).alloc (.cells #[.int .i64 k, .string (ba t), .int .u64 (c.a.toNat : Int), .int .u64 (c.b.toNat : Int), .int .u64 (c.c.toNat : Int), .int .u64 (c.d.toNat : Int), .slice a ns.length cap, .int .i64 p] 30)).heap[w.heap.size]? = some (.cells #[.pointer (some ⟨b, 0, none⟩)] 194) := by
    rw [Below.heap_alloc _ _ _ (by simp)]
    exact last_block _ _
  have h3 : ((w.alloc (.cells #[.pointer (some ⟨b, 0, none⟩)] 194)).alloc (.cells #[.int .i64 k, .string (ba t), .int .u64 (c.a.toNat : Int), .int .u64 (c.b.toNat : Int), .int .u64 (c.c.toNat : Int), .int .u64 (c.d.toNat : Int), .slice a ns.length cap, .int .i64 p] 30)).heap[w.heap.size + 1]? = some (.cells #[.int .i64 k, .string (ba t), .int .u64 (c.a.toNat : Int), .int .u64 (c.b.toNat : Int), .int .u64 (c.c.toNat : Int), .int .u64 (c.d.toNat : Int), .slice a ns.length cap, .int .i64 p] 30) := new_at _ _ _ (by simp)
  have hs2 : ((w.alloc (.cells #[.pointer (some ⟨b, 0, none⟩)] 194)).alloc (.cells #[.int .i64 k, .string (ba t), .int .u64 (c.a.toNat : Int), .int .u64 (c.b.toNat : Int), .int .u64 (c.c.toNat : Int), .int .u64 (c.d.toNat : Int), .slice a ns.length cap, .int .i64 p] 30)).heap.size = w.heap.size + 2 := by simp
  have HB2 := Lib.hid hB2
  have HNS2 := Lib.hid hns2
  have HW2 := Lib.hid hW2
  have H2 := Lib.hid h2
  have H3 := Lib.hid h3
  have HS2 := Lib.hid hs2
  have HH := Lib.hid hhead
  have HOKN := Lib.hid hokn
  have HP := Lib.hid hP
  have HF := Lib.hid hF
  clear hR hns hB hok hB2 hns2 hW2 h2 h3 hs2 hhead hokn hP hF hIH hsz
  by_cases h8 : 8192 < l.length
  · have hw : Mu.wide l = true := by simp [Mu.wide, h8]
    rw [exprT_wide k t c ns p l h8]
    have HWD := Lib.hid hw
    clear hw
    go_enter Tryz.func89, Tryz.ntmps89
    go_wp2_with fail
    refine (prn_wide b l _ HB2.out (by omega)).mono ?_
    rintro e w1 ⟨rfl, rfl⟩
    rw [HWD.out]
    go_wp2_with fail
    first
      | go_end0
      | refine bodyPost_ret (results_none rfl _ _ _) rfl ?_
    exact ⟨rfl, HB2.out, HW2.out, by omega⟩
  · have hw : Mu.wide l = false := by simp [Mu.wide, h8]
    have HWD := Lib.hid hw
    have h8n : ¬ 8192 < l.length := h8
    clear hw
    have hk : k = 1 ∨ k = 2 ∨ k = 3 ∨ k = 4 ∨ k = 5 ∨ k = 6 ∨ k = 7 ∨ k = 8 ∨ k = 9 ∨ k = 10 ∨ k = 11 ∨ k = 12 := by
      have := HH.out.1
      apply Classical.byContradiction
      intro hn
      unfold Mu.okHead at this
      rw [if_neg (by omega), if_neg (by omega), if_neg (by omega), if_neg (by omega), if_neg (by omega)] at this
      cases this
    by_cases hrow : k = 6 ∨ k = 7
    · rcases hrow with rfl | rfl
      · have hx : Mu.exprT (.mk 6 t c ns p) l = Mu.partsT [32] 2 true ns l := by
          simp [Mu.exprT, h8n, Mu.between, Mu.least, Mu.ahead, Mu.behindS]
        rw [hx]
        clear hk hx
        go_enter Tryz.func89, Tryz.ntmps89
        go_wp2_with fail
        refine (prn_wide b l _ HB2.out (by omega)).mono ?_
        rintro e w1 ⟨rfl, rfl⟩
        rw [HWD.out]
        go_wp2_with fail
        refine (prn_row ns HP.out HOKN.out [32] (by simp) 2 (by omega) 6 t c p F a nb off cap C b w.heap.size (w.heap.size + 1) l _ HNS2.out HF.out HB2.out H2.out H3.out (by omega) (by omega) (by omega)).mono ?_
        rintro e w3 ⟨rfl, hB3, hW3, hl3⟩
        have HB3 := Lib.hid hB3
        have HW3 := Lib.hid (HW2.out.trans hW3)
        clear hB3 hW3
        go_wp2_with fail
        first
          | go_end0
          | refine bodyPost_ret (results_none rfl _ _ _) rfl ?_
        exact ⟨rfl, HB3.out, HW3.out, by omega⟩
      · have hx : Mu.exprT (.mk 7 t c ns p) l = Mu.partsT [32, 47, 32] 1 true ns l := by
          simp [Mu.exprT, h8n, Mu.between, Mu.least, Mu.ahead, Mu.behindS]
        rw [hx]
        clear hk hx
        go_enter Tryz.func89, Tryz.ntmps89
        go_wp2_with fail
        refine (prn_wide b l _ HB2.out (by omega)).mono ?_
        rintro e w1 ⟨rfl, rfl⟩
        rw [HWD.out]
        go_wp2_with fail
        refine (prn_row ns HP.out HOKN.out [32, 47, 32] (by simp) 1 (by omega) 7 t c p F a nb off cap C b w.heap.size (w.heap.size + 1) l _ HNS2.out HF.out HB2.out H2.out H3.out (by omega) (by omega) (by omega)).mono ?_
        rintro e w3 ⟨rfl, hB3, hW3, hl3⟩
        have HB3 := Lib.hid hB3
        have HW3 := Lib.hid (HW2.out.trans hW3)
        clear hB3 hW3
        go_wp2_with fail
        first
          | go_end0
          | refine bodyPost_ret (results_none rfl _ _ _) rfl ?_
        exact ⟨rfl, HB3.out, HW3.out, by omega⟩
    · have hk2 : k = 1 ∨ k = 2 ∨ k = 3 ∨ k = 4 ∨ k = 5 ∨ k = 8 ∨ k = 9 ∨ k = 10 ∨ k = 11 ∨ k = 12 := by omega
      clear hk hrow
      rcases hk2 with rfl | rfl | rfl | rfl | rfl | hk
      · have hx : Mu.exprT (.mk 1 t c ns p) l = l ++ [40, 41] := by simp [Mu.exprT, h8n]
        rw [hx]
        clear hx
        go_enter Tryz.func89, Tryz.ntmps89
        go_wp2_with fail
        refine (prn_wide b l _ HB2.out (by omega)).mono ?_
        rintro e w1 ⟨rfl, rfl⟩
        rw [HWD.out]
        go_wp2_with fail
        refine (writeString 157 bt_page b l (ba [40, 41]) _ HB2.out (by show l.length + 2 ≤ _; omega)).mono ?_
        rintro e w3 ⟨rfl, hB3, hW3⟩
        have HB3 := Lib.hid hB3
        have HW3 := Lib.hid (HW2.out.trans hW3)
        clear hB3 hW3
        go_wp2_with fail
        first
          | go_end0
          | refine bodyPost_ret (results_none rfl _ _ _) rfl ?_
        exact ⟨rfl, HB3.out, HW3.out, by simp; omega⟩
      · have hx : Mu.exprT (.mk 2 t c ns p) l = l ++ Mu.quote t := by simp [Mu.exprT, h8n]
        have htl2 : t.length ≤ 255 := by
          have := HH.out.1
          simp [Mu.okHead] at this
          exact this.1
        have hql := quote_len t htl2
        rw [hx]
        clear hx
        go_enter Tryz.func89, Tryz.ntmps89
        go_wp2_with fail
        refine (prn_wide b l _ HB2.out (by omega)).mono ?_
        rintro e w1 ⟨rfl, rfl⟩
        rw [HWD.out]
        go_wp2_with fail
        generalize ((w.alloc (.cells #[.pointer (some ⟨b, 0, none⟩)] 194)).alloc (.cells #[.int .i64 2, .string (ba t), .int .u64 (c.a.toNat : Int), .int .u64 (c.b.toNat : Int), .int .u64 (c.c.toNat : Int), .int .u64 (c.d.toNat : Int), .slice a ns.length cap, .int .i64 p] 30)) = W2 at HB2 HW2 H2 H3 HS2 ⊢
        have hs2 := HS2.out
        have u0 := cell_at H2.out 0
        have hT2 := lt_of_block H2.out
        have hT3 := lt_of_block H3.out
        obtain ⟨x0, x1, x2, x3, x4, x5, x6, x7⟩ := (Row.refl H3.out).cells8
        go_region_with (first
          | (go_at_call 121; refine (lex_quote t (by omega) W2.drew).mono ?_; rintro e w4 ⟨rfl, hb4⟩; have hb4' : Below W2.heap.size W2 w4 := ((Below.refl _ _).drew).trans hb4; have hB4 := HB2.out.keep hb4'; have u4 := cell_at ((hb4'.block _ hT2).trans H2.out) 0; have hs4 := hb4'.size; have HB4 := Lib.hid hB4; have HWW4 := Lib.hid (Wr.of_below hb4' (show b ≤ W2.heap.size by omega)); clear hb4 hb4' hB4)
          | (go_at_call 88; refine (writeString 157 bt_page b l (ba (Mu.quote t)) _ HB4.out (by show l.length + (Mu.quote t).length ≤ _; omega)).mono ?_; rintro e w5 ⟨rfl, hB5, hW5⟩; have HB5 := Lib.hid hB5; have HW5 := Lib.hid (HWW4.out.trans hW5); clear hB5 hW5))
        all_goals
          go_wp2_with fail
          first
            | go_end0
            | refine bodyPost_ret (results_none rfl _ _ _) rfl ?_
          exact ⟨rfl, HB5.out, HW2.out.trans HW5.out, by simp; omega⟩
      · have hx : Mu.exprT (.mk 3 t c ns p) l = l ++ Mu.clText c := by simp [Mu.exprT, h8n]
        have hql := clText_len c
        rw [hx]
        clear hx
        go_enter Tryz.func89, Tryz.ntmps89
        go_wp2_with fail
        refine (prn_wide b l _ HB2.out (by omega)).mono ?_
        rintro e w1 ⟨rfl, rfl⟩
        rw [HWD.out]
        go_wp2_with fail
        generalize ((w.alloc (.cells #[.pointer (some ⟨b, 0, none⟩)] 194)).alloc (.cells #[.int .i64 3, .string (ba t), .int .u64 (c.a.toNat : Int), .int .u64 (c.b.toNat : Int), .int .u64 (c.c.toNat : Int), .int .u64 (c.d.toNat : Int), .slice a ns.length cap, .int .i64 p] 30)) = W2 at HB2 HW2 H2 H3 HS2 ⊢
        have hs2 := HS2.out
        have u0 := cell_at H2.out 0
        have hT2 := lt_of_block H2.out
        have hT3 := lt_of_block H3.out
        obtain ⟨x0, x1, x2, x3, x4, x5, x6, x7⟩ := (Row.refl H3.out).cells8
        go_region_with (first
          | (go_at_call 122; refine (class_text c W2.drew).mono ?_; rintro e w4 ⟨rfl, hb4⟩; have hb4' : Below W2.heap.size W2 w4 := ((Below.refl _ _).drew).trans hb4; have hB4 := HB2.out.keep hb4'; have u4 := cell_at ((hb4'.block _ hT2).trans H2.out) 0; have hs4 := hb4'.size; have HB4 := Lib.hid hB4; have HWW4 := Lib.hid (Wr.of_below hb4' (show b ≤ W2.heap.size by omega)); clear hb4 hb4' hB4)
          | (go_at_call 88; refine (writeString 157 bt_page b l (ba (Mu.clText c)) _ HB4.out (by show l.length + (Mu.clText c).length ≤ _; omega)).mono ?_; rintro e w5 ⟨rfl, hB5, hW5⟩; have HB5 := Lib.hid hB5; have HW5 := Lib.hid (HWW4.out.trans hW5); clear hB5 hW5))
        all_goals
          go_wp2_with fail
          first
            | go_end0
            | refine bodyPost_ret (results_none rfl _ _ _) rfl ?_
          exact ⟨rfl, HB5.out, HW2.out.trans HW5.out, by simp; omega⟩
      · have hx : Mu.exprT (.mk 4 t c ns p) l = l ++ [46] := by simp [Mu.exprT, h8n]
        rw [hx]
        clear hx
        go_enter Tryz.func89, Tryz.ntmps89
        go_wp2_with fail
        refine (prn_wide b l _ HB2.out (by omega)).mono ?_
        rintro e w1 ⟨rfl, rfl⟩
        rw [HWD.out]
        go_wp2_with fail
        refine (writeByte 157 bt_page b l 46 _ HB2.out (by omega)).mono ?_
        rintro e w3 ⟨rfl, hB3, hW3⟩
        have HB3 := Lib.hid hB3
        have HW3 := Lib.hid (HW2.out.trans hW3)
        clear hB3 hW3
        go_wp2_with fail
        first
          | go_end0
          | refine bodyPost_ret (results_none rfl _ _ _) rfl ?_
        exact ⟨rfl, HB3.out, HW3.out, by simp; omega⟩
      · have hx : Mu.exprT (.mk 5 t c ns p) l = l ++ t := by simp [Mu.exprT, h8n]
        have hnm : t.length ≤ 32 := by
          have := HH.out.1
          simp [Mu.okHead] at this
          exact isName_len t this.1
        rw [hx]
        clear hx
        go_enter Tryz.func89, Tryz.ntmps89
        go_wp2_with fail
        refine (prn_wide b l _ HB2.out (by omega)).mono ?_
        rintro e w1 ⟨rfl, rfl⟩
        rw [HWD.out]
        go_wp2_with fail
        generalize ((w.alloc (.cells #[.pointer (some ⟨b, 0, none⟩)] 194)).alloc (.cells #[.int .i64 5, .string (ba t), .int .u64 (c.a.toNat : Int), .int .u64 (c.b.toNat : Int), .int .u64 (c.c.toNat : Int), .int .u64 (c.d.toNat : Int), .slice a ns.length cap, .int .i64 p] 30)) = W2 at HB2 HW2 H2 H3 HS2 ⊢
        have hs2 := HS2.out
        have u0 := cell_at H2.out 0
        have hT2 := lt_of_block H2.out
        have hT3 := lt_of_block H3.out
        obtain ⟨x0, x1, x2, x3, x4, x5, x6, x7⟩ := (Row.refl H3.out).cells8
        go_still_tail 5, (by kernel_rfl)
        go_wp2_with fail
        refine (writeString 157 bt_page b l (ba t) _ (HB2.out.keep (by (repeat' (first | exact Below.refl _ _ | assumption | refine Below.drew ?_ | refine Below.drewN' ?_ _ | refine Below.setCell ?_ (by first | (simp; done) | omega | (simp; omega)) _ | refine Below.alloc ?_ (by first | (simp; done) | omega | (simp; omega)) _ | refine Below.step ?_ (by assumption) (by first | (simp; done) | omega | (simp; omega)))))) (by show l.length + t.length ≤ _; omega)).mono ?_
        rintro e w3 ⟨rfl, hB3, hW3⟩
        have HB3 := Lib.hid hB3
        have HW3 := Lib.hid (HW2.out.trans ((Wr.of_below (by (repeat' (first | exact Below.refl _ _ | assumption | refine Below.drew ?_ | refine Below.drewN' ?_ _ | refine Below.setCell ?_ (by first | (simp; done) | omega | (simp; omega)) _ | refine Below.alloc ?_ (by first | (simp; done) | omega | (simp; omega)) _ | refine Below.step ?_ (by assumption) (by first | (simp; done) | omega | (simp; omega)))) : Below W2.heap.size W2 W2.drew) (by omega)).trans hW3))
        clear hB3 hW3
        go_wp2_with fail
        first
          | go_end0
          | refine bodyPost_ret (results_none rfl _ _ _) rfl ?_
        exact ⟨rfl, HB3.out, HW3.out, by simp; omega⟩
      · rcases hk with rfl | rfl | rfl | rfl | rfl
        · have hx : Mu.exprT (.mk 8 t c ns p) l = Mu.partsT [] 4 true ns l ++ [63] := by
            simp [Mu.exprT, h8n, Mu.between, Mu.least, Mu.ahead, Mu.behindS]
          rw [hx]
          clear hx
          go_enter Tryz.func89, Tryz.ntmps89
          go_wp2_with fail
          refine (prn_wide b l _ HB2.out (by omega)).mono ?_
          rintro e w1 ⟨rfl, rfl⟩
          rw [HWD.out]
          go_wp2_with fail
          generalize ((w.alloc (.cells #[.pointer (some ⟨b, 0, none⟩)] 194)).alloc (.cells #[.int .i64 8, .string (ba t), .int .u64 (c.a.toNat : Int), .int .u64 (c.b.toNat : Int), .int .u64 (c.c.toNat : Int), .int .u64 (c.d.toNat : Int), .slice a ns.length cap, .int .i64 p] 30)) = W2 at HB2 HNS2 HW2 H2 H3 HS2 ⊢
          have hs2 := HS2.out
          have u0 := cell_at H2.out 0
          have hT2 := lt_of_block H2.out
          have hT3 := lt_of_block H3.out
          obtain ⟨x0, x1, x2, x3, x4, x5, x6, x7⟩ := (Row.refl H3.out).cells8
          refine (prn_row ns HP.out HOKN.out [] (by simp) 4 (by omega) 8 t c p F a nb off cap C b w.heap.size (w.heap.size + 1) l W2 HNS2.out HF.out HB2.out H2.out H3.out (by omega) (by omega) (by omega)).mono ?_
          rintro e w3 ⟨rfl, hB3, hW3, hl3⟩
          have h23 := hW3.keep H2.out (by omega) (by intro c fz e; cases e)
          have h33 := hW3.keep H3.out (by omega) (by intro c fz e; cases e)
          have v0 := cell_at h23 0
          have hT23 := lt_of_block h23
          have hT33 := lt_of_block h33
          have hbl3 := hB3.lt
          obtain ⟨y0, y1, y2, y3, y4, y5, y6, y7⟩ := (Row.refl h33).cells8
          have HB3 := Lib.hid hB3
          have HW3 := Lib.hid hW3
          clear hB3 hW3 h23 h33
          go_wp2_with fail
          have wr0 : IntKind.i64.wrap 0 = 0 := by decide
          have wr1 : IntKind.i64.wrap 1 = 1 := by decide
          have wr2 : IntKind.i64.wrap 2 = 2 := by decide
          go_still_tail 7, (by kernel_rfl)
          go_wp2_with fail
          refine (writeByte 157 bt_page b _ 63 _ (HB3.out.keep (by (repeat' (first | exact Below.refl _ _ | assumption | refine Below.drew ?_ | refine Below.drewN' ?_ _ | refine Below.setCell ?_ (by first | (simp; done) | omega | (simp; omega)) _ | refine Below.alloc ?_ (by first | (simp; done) | omega | (simp; omega)) _ | refine Below.step ?_ (by assumption) (by first | (simp; done) | omega | (simp; omega)))))) (by omega)).mono ?_
          rintro e w4 ⟨rfl, hB4, hW4⟩
          have HB4 := Lib.hid hB4
          have HW4 := Lib.hid ((HW2.out.trans HW3.out).trans ((Wr.of_below (by (repeat' (first | exact Below.refl _ _ | assumption | refine Below.drew ?_ | refine Below.drewN' ?_ _ | refine Below.setCell ?_ (by first | (simp; done) | omega | (simp; omega)) _ | refine Below.alloc ?_ (by first | (simp; done) | omega | (simp; omega)) _ | refine Below.step ?_ (by assumption) (by first | (simp; done) | omega | (simp; omega)))) : Below w3.heap.size w3 w3.drew) (by omega)).trans hW4))
          clear hB4 hW4
          go_wp2_with fail
          first
            | go_end0
            | refine bodyPost_ret (results_none rfl _ _ _) rfl ?_
          exact ⟨rfl, HB4.out, HW4.out, by simp; omega⟩
        · have hx : Mu.exprT (.mk 9 t c ns p) l = Mu.partsT [] 4 true ns l ++ [42] := by
            simp [Mu.exprT, h8n, Mu.between, Mu.least, Mu.ahead, Mu.behindS]
          rw [hx]
          clear hx
          go_enter Tryz.func89, Tryz.ntmps89
          go_wp2_with fail
          refine (prn_wide b l _ HB2.out (by omega)).mono ?_
          rintro e w1 ⟨rfl, rfl⟩
          rw [HWD.out]
          go_wp2_with fail
          generalize ((w.alloc (.cells #[.pointer (some ⟨b, 0, none⟩)] 194)).alloc (.cells #[.int .i64 9, .string (ba t), .int .u64 (c.a.toNat : Int), .int .u64 (c.b.toNat : Int), .int .u64 (c.c.toNat : Int), .int .u64 (c.d.toNat : Int), .slice a ns.length cap, .int .i64 p] 30)) = W2 at HB2 HNS2 HW2 H2 H3 HS2 ⊢
          have hs2 := HS2.out
          have u0 := cell_at H2.out 0
          have hT2 := lt_of_block H2.out
          have hT3 := lt_of_block H3.out
          obtain ⟨x0, x1, x2, x3, x4, x5, x6, x7⟩ := (Row.refl H3.out).cells8
          refine (prn_row ns HP.out HOKN.out [] (by simp) 4 (by omega) 9 t c p F a nb off cap C b w.heap.size (w.heap.size + 1) l W2 HNS2.out HF.out HB2.out H2.out H3.out (by omega) (by omega) (by omega)).mono ?_
          rintro e w3 ⟨rfl, hB3, hW3, hl3⟩
          have h23 := hW3.keep H2.out (by omega) (by intro c fz e; cases e)
          have h33 := hW3.keep H3.out (by omega) (by intro c fz e; cases e)
          have v0 := cell_at h23 0
          have hT23 := lt_of_block h23
          have hT33 := lt_of_block h33
          have hbl3 := hB3.lt
          obtain ⟨y0, y1, y2, y3, y4, y5, y6, y7⟩ := (Row.refl h33).cells8
          have HB3 := Lib.hid hB3
          have HW3 := Lib.hid hW3
          clear hB3 hW3 h23 h33
          go_wp2_with fail
          have wr0 : IntKind.i64.wrap 0 = 0 := by decide
          have wr1 : IntKind.i64.wrap 1 = 1 := by decide
          have wr2 : IntKind.i64.wrap 2 = 2 := by decide
          go_still_tail 7, (by kernel_rfl)
          go_wp2_with fail
          refine (writeByte 157 bt_page b _ 42 _ (HB3.out.keep (by (repeat' (first | exact Below.refl _ _ | assumption | refine Below.drew ?_ | refine Below.drewN' ?_ _ | refine Below.setCell ?_ (by first | (simp; done) | omega | (simp; omega)) _ | refine Below.alloc ?_ (by first | (simp; done) | omega | (simp; omega)) _ | refine Below.step ?_ (by assumption) (by first | (simp; done) | omega | (simp; omega)))))) (by omega)).mono ?_
          rintro e w4 ⟨rfl, hB4, hW4⟩
          have HB4 := Lib.hid hB4
          have HW4 := Lib.hid ((HW2.out.trans HW3.out).trans ((Wr.of_below (by (repeat' (first | exact Below.refl _ _ | assumption | refine Below.drew ?_ | refine Below.drewN' ?_ _ | refine Below.setCell ?_ (by first | (simp; done) | omega | (simp; omega)) _ | refine Below.alloc ?_ (by first | (simp; done) | omega | (simp; omega)) _ | refine Below.step ?_ (by assumption) (by first | (simp; done) | omega | (simp; omega)))) : Below w3.heap.size w3 w3.drew) (by omega)).trans hW4))
          clear hB4 hW4
          go_wp2_with fail
          first
            | go_end0
            | refine bodyPost_ret (results_none rfl _ _ _) rfl ?_
          exact ⟨rfl, HB4.out, HW4.out, by simp; omega⟩
        · have hx : Mu.exprT (.mk 10 t c ns p) l = Mu.partsT [] 4 true ns l ++ [43] := by
            simp [Mu.exprT, h8n, Mu.between, Mu.least, Mu.ahead, Mu.behindS]
          rw [hx]
          clear hx
          go_enter Tryz.func89, Tryz.ntmps89
          go_wp2_with fail
          refine (prn_wide b l _ HB2.out (by omega)).mono ?_
          rintro e w1 ⟨rfl, rfl⟩
          rw [HWD.out]
          go_wp2_with fail
          generalize ((w.alloc (.cells #[.pointer (some ⟨b, 0, none⟩)] 194)).alloc (.cells #[.int .i64 10, .string (ba t), .int .u64 (c.a.toNat : Int), .int .u64 (c.b.toNat : Int), .int .u64 (c.c.toNat : Int), .int .u64 (c.d.toNat : Int), .slice a ns.length cap, .int .i64 p] 30)) = W2 at HB2 HNS2 HW2 H2 H3 HS2 ⊢
          have hs2 := HS2.out
          have u0 := cell_at H2.out 0
          have hT2 := lt_of_block H2.out
          have hT3 := lt_of_block H3.out
          obtain ⟨x0, x1, x2, x3, x4, x5, x6, x7⟩ := (Row.refl H3.out).cells8
          refine (prn_row ns HP.out HOKN.out [] (by simp) 4 (by omega) 10 t c p F a nb off cap C b w.heap.size (w.heap.size + 1) l W2 HNS2.out HF.out HB2.out H2.out H3.out (by omega) (by omega) (by omega)).mono ?_
          rintro e w3 ⟨rfl, hB3, hW3, hl3⟩
          have h23 := hW3.keep H2.out (by omega) (by intro c fz e; cases e)
          have h33 := hW3.keep H3.out (by omega) (by intro c fz e; cases e)
          have v0 := cell_at h23 0
          have hT23 := lt_of_block h23
          have hT33 := lt_of_block h33
          have hbl3 := hB3.lt
          obtain ⟨y0, y1, y2, y3, y4, y5, y6, y7⟩ := (Row.refl h33).cells8
          have HB3 := Lib.hid hB3
          have HW3 := Lib.hid hW3
          clear hB3 hW3 h23 h33
          go_wp2_with fail
          have wr0 : IntKind.i64.wrap 0 = 0 := by decide
          have wr1 : IntKind.i64.wrap 1 = 1 := by decide
          have wr2 : IntKind.i64.wrap 2 = 2 := by decide
          go_still_tail 7, (by kernel_rfl)
          go_wp2_with fail
          refine (writeByte 157 bt_page b _ 43 _ (HB3.out.keep (by (repeat' (first | exact Below.refl _ _ | assumption | refine Below.drew ?_ | refine Below.drewN' ?_ _ | refine Below.setCell ?_ (by first | (simp; done) | omega | (simp; omega)) _ | refine Below.alloc ?_ (by first | (simp; done) | omega | (simp; omega)) _ | refine Below.step ?_ (by assumption) (by first | (simp; done) | omega | (simp; omega)))))) (by omega)).mono ?_
          rintro e w4 ⟨rfl, hB4, hW4⟩
          have HB4 := Lib.hid hB4
          have HW4 := Lib.hid ((HW2.out.trans HW3.out).trans ((Wr.of_below (by (repeat' (first | exact Below.refl _ _ | assumption | refine Below.drew ?_ | refine Below.drewN' ?_ _ | refine Below.setCell ?_ (by first | (simp; done) | omega | (simp; omega)) _ | refine Below.alloc ?_ (by first | (simp; done) | omega | (simp; omega)) _ | refine Below.step ?_ (by assumption) (by first | (simp; done) | omega | (simp; omega)))) : Below w3.heap.size w3 w3.drew) (by omega)).trans hW4))
          clear hB4 hW4
          go_wp2_with fail
          first
            | go_end0
            | refine bodyPost_ret (results_none rfl _ _ _) rfl ?_
          exact ⟨rfl, HB4.out, HW4.out, by simp; omega⟩
        · have hx : Mu.exprT (.mk 11 t c ns p) l = Mu.partsT [] 3 true ns (l ++ [38]) := by
            simp [Mu.exprT, h8n, Mu.between, Mu.least, Mu.ahead, Mu.behindS]
          rw [hx]
          clear hx
          go_enter Tryz.func89, Tryz.ntmps89
          go_wp2_with fail
          refine (prn_wide b l _ HB2.out (by omega)).mono ?_
          rintro e w1 ⟨rfl, rfl⟩
          rw [HWD.out]
          go_wp2_with fail
          generalize ((w.alloc (.cells #[.pointer (some ⟨b, 0, none⟩)] 194)).alloc (.cells #[.int .i64 11, .string (ba t), .int .u64 (c.a.toNat : Int), .int .u64 (c.b.toNat : Int), .int .u64 (c.c.toNat : Int), .int .u64 (c.d.toNat : Int), .slice a ns.length cap, .int .i64 p] 30)) = W2 at HB2 HNS2 HW2 H2 H3 HS2 ⊢
          have hs2 := HS2.out
          have u0 := cell_at H2.out 0
          have hT2 := lt_of_block H2.out
          have hT3 := lt_of_block H3.out
          obtain ⟨x0, x1, x2, x3, x4, x5, x6, x7⟩ := (Row.refl H3.out).cells8
          have wr0 : IntKind.i64.wrap 0 = 0 := by decide
          have wr1 : IntKind.i64.wrap 1 = 1 := by decide
          have wr2 : IntKind.i64.wrap 2 = 2 := by decide
          go_still_tail 7, (by kernel_rfl)
          go_wp2_with fail
          refine (writeByte 157 bt_page b l 38 _ (HB2.out.keep (by (repeat' (first | exact Below.refl _ _ | assumption | refine Below.drew ?_ | refine Below.drewN' ?_ _ | refine Below.setCell ?_ (by first | (simp; done) | omega | (simp; omega)) _ | refine Below.alloc ?_ (by first | (simp; done) | omega | (simp; omega)) _ | refine Below.step ?_ (by assumption) (by first | (simp; done) | omega | (simp; omega)))))) (by omega)).mono ?_
          rintro e w3 ⟨rfl, hB3, hW3⟩
          have hW23 : Wr b W2 w3 := (Wr.of_below (by (repeat' (first | exact Below.refl _ _ | assumption | refine Below.drew ?_ | refine Below.drewN' ?_ _ | refine Below.setCell ?_ (by first | (simp; done) | omega | (simp; omega)) _ | refine Below.alloc ?_ (by first | (simp; done) | omega | (simp; omega)) _ | refine Below.step ?_ (by assumption) (by first | (simp; done) | omega | (simp; omega)))) : Below W2.heap.size W2 W2.drew) (by omega)).trans hW3
          have h23 := hW23.keep H2.out (by omega) (by intro c fz e; cases e)
          have h33 := hW23.keep H3.out (by omega) (by intro c fz e; cases e)
          have HR := Lib.hid (prn_row ns HP.out HOKN.out [] (by simp) 3 (by omega) 11 t c p F a nb off cap C b w.heap.size (w.heap.size + 1) (l ++ [38]) w3 (HNS2.out.keep (Keeps.of_below hW23.below HF.out)) HF.out hB3 h23 h33 (by omega) (by omega) (by simp; omega))
          have HW23 := Lib.hid hW23
          clear hB3 hW3 hW23 h23 h33
          go_wp2_with fail
          refine HR.out.mono ?_
          rintro e w4 ⟨rfl, hB4, hW4, hl4⟩
          have HB4 := Lib.hid hB4
          have HW4 := Lib.hid ((HW2.out.trans HW23.out).trans hW4)
          simp at hl4
          clear hB4 hW4
          go_wp2_with fail
          first
            | go_end0
            | refine bodyPost_ret (results_none rfl _ _ _) rfl ?_
          exact ⟨rfl, HB4.out, HW4.out, by omega⟩
        · have hx : Mu.exprT (.mk 12 t c ns p) l = Mu.partsT [] 3 true ns (l ++ [33]) := by
            simp [Mu.exprT, h8n, Mu.between, Mu.least, Mu.ahead, Mu.behindS]
          rw [hx]
          clear hx
          go_enter Tryz.func89, Tryz.ntmps89
          go_wp2_with fail
          refine (prn_wide b l _ HB2.out (by omega)).mono ?_
          rintro e w1 ⟨rfl, rfl⟩
          rw [HWD.out]
          go_wp2_with fail
          generalize ((w.alloc (.cells #[.pointer (some ⟨b, 0, none⟩)] 194)).alloc (.cells #[.int .i64 12, .string (ba t), .int .u64 (c.a.toNat : Int), .int .u64 (c.b.toNat : Int), .int .u64 (c.c.toNat : Int), .int .u64 (c.d.toNat : Int), .slice a ns.length cap, .int .i64 p] 30)) = W2 at HB2 HNS2 HW2 H2 H3 HS2 ⊢
          have hs2 := HS2.out
          have u0 := cell_at H2.out 0
          have hT2 := lt_of_block H2.out
          have hT3 := lt_of_block H3.out
          obtain ⟨x0, x1, x2, x3, x4, x5, x6, x7⟩ := (Row.refl H3.out).cells8
          have wr0 : IntKind.i64.wrap 0 = 0 := by decide
          have wr1 : IntKind.i64.wrap 1 = 1 := by decide
          have wr2 : IntKind.i64.wrap 2 = 2 := by decide
          go_still_tail 7, (by kernel_rfl)
          go_wp2_with fail
          refine (writeByte 157 bt_page b l 33 _ (HB2.out.keep (by (repeat' (first | exact Below.refl _ _ | assumption | refine Below.drew ?_ | refine Below.drewN' ?_ _ | refine Below.setCell ?_ (by first | (simp; done) | omega | (simp; omega)) _ | refine Below.alloc ?_ (by first | (simp; done) | omega | (simp; omega)) _ | refine Below.step ?_ (by assumption) (by first | (simp; done) | omega | (simp; omega)))))) (by omega)).mono ?_
          rintro e w3 ⟨rfl, hB3, hW3⟩
          have hW23 : Wr b W2 w3 := (Wr.of_below (by (repeat' (first | exact Below.refl _ _ | assumption | refine Below.drew ?_ | refine Below.drewN' ?_ _ | refine Below.setCell ?_ (by first | (simp; done) | omega | (simp; omega)) _ | refine Below.alloc ?_ (by first | (simp; done) | omega | (simp; omega)) _ | refine Below.step ?_ (by assumption) (by first | (simp; done) | omega | (simp; omega)))) : Below W2.heap.size W2 W2.drew) (by omega)).trans hW3
          have h23 := hW23.keep H2.out (by omega) (by intro c fz e; cases e)
          have h33 := hW23.keep H3.out (by omega) (by intro c fz e; cases e)
          have HR := Lib.hid (prn_row ns HP.out HOKN.out [] (by simp) 3 (by omega) 12 t c p F a nb off cap C b w.heap.size (w.heap.size + 1) (l ++ [33]) w3 (HNS2.out.keep (Keeps.of_below hW23.below HF.out)) HF.out hB3 h23 h33 (by omega) (by omega) (by simp; omega))
          have HW23 := Lib.hid hW23
          clear hB3 hW3 hW23 h23 h33
          go_wp2_with fail
          refine HR.out.mono ?_
          rintro e w4 ⟨rfl, hB4, hW4, hl4⟩
          have HB4 := Lib.hid hB4
          have HW4 := Lib.hid ((HW2.out.trans HW23.out).trans hW4)
          simp at hl4
          clear hB4 hW4
          go_wp2_with fail
          first
            | go_end0
            | refine bodyPost_ret (results_none rfl _ _ _) rfl ?_
          exact ⟨rfl, HB4.out, HW4.out, by omega⟩

theorem expr_c : ∀ (m : Nat) (n : Nd), Mu.sz n ≤ m → ExprC n
  | 0, .mk k t c l p, h => by simp [Mu.sz] at h
  | m + 1, .mk k t c l p, h => expr_any k t c l p fun n hn => expr_c m n (by
      have := Mu.sz_mem l n hn
      simp [Mu.sz] at h
      omega)

/-- printer.page.expr -/
theorem prn_expr (n : Nd) : ExprC n := expr_c _ n (Nat.le_refl _)

end Go.Proofs.YtdmhjnnogcpccaaGreatDoor
end
