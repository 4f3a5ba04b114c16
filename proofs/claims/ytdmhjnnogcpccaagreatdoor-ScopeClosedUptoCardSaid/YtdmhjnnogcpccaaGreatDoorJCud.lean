/- lex.cutter.class. lex.cutter.token. -/
import Derived.Test.YtdmhjnnogcpccaaGreatDoorJCub
import Derived.Test.YtdmhjnnogcpccaaGreatDoorJEas
import Derived.Deep.RegionWith
import Derived.Test.YtdmhjnnogcpccaaGreatDoorJSgn
section
namespace Go.Proofs.YtdmhjnnogcpccaaGreatDoor
open Go.RowKit
open Mu (Cl Bs Nd Ru Gr Tk)
set_option linter.unusedSimpArgs false
set_option linter.unusedVariables false

attribute [local irreducible] wpQuiet wpStill
attribute [local go_sem ↓] Go.wp_at_zero Go.wp_at_succ

def ParseOut (s : Bs) (B : Nat) (c : Cl) (n : Nat) (v : Value) (w' : World) : Prop :=
  (∃ f, Mu.clParse s = .error f ∧ c = Cl.zero ∧ n = 0 ∧ IsFlt B v f w') ∨ (Mu.clParse s = .ok (c, n) ∧ n ≤ s.length ∧ v = .nilIface)

theorem class_parse' (s r : Bs) (hs : s = 91 :: r) (hn : s.length ≤ 100000) (w : World) :
    Calls Tryz.prog 152 #[.string (ba s)] w fun e w' => ∃ c n v, e = .returned (.tuple #[clv c, .int .i64 (n : Nat), v]) ∧ Below w.heap.size w w' ∧ ParseOut s w.heap.size c n v w' := by
  refine (class_parse s r hs hn w).mono ?_
  rintro e w' ⟨hb, ⟨f, v, h1, rfl, h2⟩ | ⟨c, n, h1, h2, rfl⟩⟩
  · exact ⟨Cl.zero, 0, v, rfl, hb, .inl ⟨f, h1, rfl, rfl, h2⟩⟩
  · exact ⟨c, n, .nilIface, rfl, hb, .inr ⟨h1, h2, rfl⟩⟩

/-- the package variable of errors, as every run finds it -/
def ErrT (w : World) : Prop := w.cell? ⟨0, 0, none⟩ = some (.iface 174 (.agg #[.pointer (some ⟨2, 35, none⟩)])) ∧ 0 < w.heap.size

theorem ErrT.keep {w w' : World} {n : Nat} (h : ErrT w) (hb : Below n w w') (hn : 0 < n) : ErrT w' :=
  ⟨by rw [hb.cell (p := ⟨0, 0, none⟩) hn]; exact h.1, Nat.lt_of_lt_of_le h.2 hb.size⟩

/-- a class read at a place of the source -/
def ClassEnd (b : Nat) (s : Bs) (k : Nat) (l : List Tk) (w : World) (e : Ending) (w' : World) : Prop := Below b w w' ∧
  ((∃ f v, Mu.clParse (s.drop k) = .error f ∧ e = .returned v ∧ IsFlt w.heap.size v ⟨f.code, (k : Int) + f.place⟩ w') ∨
   (∃ (c : Cl) (n : Nat), Mu.clParse (s.drop k) = .ok (c, n) ∧ k + n ≤ s.length ∧ e = .returned .nilIface ∧ IsCut b s (k + n) (l ++ [⟨4, [], c, k⟩]) w'))

set_option maxHeartbeats 4000000 in
set_option maxRecDepth 20000 in
theorem cut_class (b : Nat) (s : Bs) (k : Nat) (l : List Tk) (w : World) (h : IsCut b s k l w) (hG : ErrT w) (hn : s.length ≤ 100000) (hl : l.length ≤ 10000) (hk : k < s.length) (r : Bs) (hd : s.drop k = 91 :: r) :
    Calls Tryz.prog 114 #[.pointer (some ⟨b, 0, none⟩)] w (ClassEnd b s k l w) := by
  obtain ⟨c0, c1, f1, hlt⟩ := h.cells
  have hsz : (ba s).size = s.length := rfl
  have hex : (ba s).extract k s.length = ba (s.drop k) := by
    apply ByteArray.ext
    simp [ba, ByteArray.data_extract, List.extract_eq_take_drop]
    exact List.take_of_length_le (by simp)
  have HEX := Lib.hid hex
  have HD := Lib.hid hd
  have H := Lib.hid h
  have HG := Lib.hid hG
  have hdl : (s.drop k).length ≤ 100000 := by simp; omega
  clear h hG hd hex
  go_enter Tryz.func114, Tryz.ntmps114
  go_wp2_with fail
  go_region_with (go_at_call 152; rw [HEX.out]; first
    | (refine (class_parse' (s.drop k) r HD.out hdl (w.drew.alloc (.cells #[.int .u64 0, .int .u64 0, .int .u64 0, .int .u64 0] 27))).mono ?_; rintro e w1 ⟨c, n, v, rfl, hb, ho⟩; have HO := Lib.hid ho; clear ho; have hbx := (hb.block w.heap.size (by simp)).trans (last_block w.drew _); have HBX := Lib.hid hbx; obtain ⟨q0, q1, q2, q3, z0, z1, z2, z3, hql⟩ := box4 hbx; clear hbx)
    | (refine (class_parse' (s.drop k) r HD.out hdl _).mono ?_; rintro e w1 ⟨c, n, v, rfl, hb, ho⟩; have HO := Lib.hid ho; clear ho))
  all_goals
    first
    | (have hbox : IsBox w.heap.size c ((((w1.setCell ⟨w.heap.size, 0, none⟩ (.int .u64 (c.a.toNat : Int))).setCell ⟨w.heap.size, 1, none⟩ (.int .u64 (c.b.toNat : Int))).setCell ⟨w.heap.size, 2, none⟩ (.int .u64 (c.c.toNat : Int))).setCell ⟨w.heap.size, 3, none⟩ (.int .u64 (c.d.toNat : Int))) := IsBox.put (c := Cl.zero) HBX.out _ _ _ _ c rfl rfl rfl rfl
       have hBW : Below w.heap.size w ((((w1.setCell ⟨w.heap.size, 0, none⟩ (.int .u64 (c.a.toNat : Int))).setCell ⟨w.heap.size, 1, none⟩ (.int .u64 (c.b.toNat : Int))).setCell ⟨w.heap.size, 2, none⟩ (.int .u64 (c.c.toNat : Int))).setCell ⟨w.heap.size, 3, none⟩ (.int .u64 (c.d.toNat : Int))) := by
         have h1 : Below w.heap.size w w1 := Below.trans (by (repeat' (first | exact Below.refl _ _ | assumption | refine Below.drew ?_ | refine Below.drewN' ?_ _ | refine Below.setCell ?_ (by first | (simp; done) | omega | (simp; omega)) _ | refine Below.alloc ?_ (by first | (simp; done) | omega | (simp; omega)) _ | refine Below.step ?_ (by assumption) (by first | (simp; done) | omega | (simp; omega)))) : Below w.heap.size w (w.drew.alloc (.cells #[.int .u64 0, .int .u64 0, .int .u64 0, .int .u64 0] 27))) (hb.mono (by simp))
         (repeat' (first | exact Below.refl _ _ | assumption | refine Below.drew ?_ | refine Below.drewN' ?_ _ | refine Below.setCell ?_ (by first | (simp; done) | omega | (simp; omega)) _ | refine Below.alloc ?_ (by first | (simp; done) | omega | (simp; omega)) _ | refine Below.step ?_ (by assumption) (by first | (simp; done) | omega | (simp; omega))))
       have hPO : ParseOut (s.drop k) w.heap.size c n v ((((w1.setCell ⟨w.heap.size, 0, none⟩ (.int .u64 (c.a.toNat : Int))).setCell ⟨w.heap.size, 1, none⟩ (.int .u64 (c.b.toNat : Int))).setCell ⟨w.heap.size, 2, none⟩ (.int .u64 (c.c.toNat : Int))).setCell ⟨w.heap.size, 3, none⟩ (.int .u64 (c.d.toNat : Int))) := by
         rcases HO.out with ⟨f, p1, p2, p3, fp, p4, p5, p6⟩ | ⟨p1, p2, p3⟩
         · refine .inl ⟨f, p1, p2, p3, fp, ?_, p5, ?_⟩
           · simp at p4; omega
           · rw [four_other _ _ _ _ _ _ _ (by simp at p4; omega)]; exact p6
         · exact .inr ⟨p1, p2, p3⟩
       generalize (((w1.setCell ⟨w.heap.size, 0, none⟩ (.int .u64 (c.a.toNat : Int))).setCell ⟨w.heap.size, 1, none⟩ (.int .u64 (c.b.toNat : Int))).setCell ⟨w.heap.size, 2, none⟩ (.int .u64 (c.c.toNat : Int))).setCell ⟨w.heap.size, 3, none⟩ (.int .u64 (c.d.toNat : Int)) = W at hbox hBW hPO ⊢
       have hge : w.heap.size ≤ w.heap.size := Nat.le_refl _
       clear q0 q1 q2 q3 z0 z1 z2 z3 hql HBX hb HO)
    | (have hbox : IsBox w1.heap.size c (w1.alloc (.cells #[.int .u64 (c.a.toNat : Int), .int .u64 (c.b.toNat : Int), .int .u64 (c.c.toNat : Int), .int .u64 (c.d.toNat : Int)] 27)) := last_block _ _
       have hBW : Below w.heap.size w (w1.alloc (.cells #[.int .u64 (c.a.toNat : Int), .int .u64 (c.b.toNat : Int), .int .u64 (c.c.toNat : Int), .int .u64 (c.d.toNat : Int)] 27)) := by
         have h1 : Below w.heap.size w w1 := Below.trans (by (repeat' (first | exact Below.refl _ _ | assumption | refine Below.drew ?_ | refine Below.drewN' ?_ _ | refine Below.setCell ?_ (by first | (simp; done) | omega | (simp; omega)) _ | refine Below.alloc ?_ (by first | (simp; done) | omega | (simp; omega)) _ | refine Below.step ?_ (by assumption) (by first | (simp; done) | omega | (simp; omega)))) : Below w.heap.size w w.drew) hb
         have h2 := h1.size
         (repeat' (first | exact Below.refl _ _ | assumption | refine Below.drew ?_ | refine Below.drewN' ?_ _ | refine Below.setCell ?_ (by first | (simp; done) | omega | (simp; omega)) _ | refine Below.alloc ?_ (by first | (simp; done) | omega | (simp; omega)) _ | refine Below.step ?_ (by assumption) (by first | (simp; done) | omega | (simp; omega))))
       have hPO : ParseOut (s.drop k) w.heap.size c n v (w1.alloc (.cells #[.int .u64 (c.a.toNat : Int), .int .u64 (c.b.toNat : Int), .int .u64 (c.c.toNat : Int), .int .u64 (c.d.toNat : Int)] 27)) := by
         rcases HO.out with ⟨f, p1, p2, p3, p4⟩ | ⟨p1, p2, p3⟩
         · exact .inl ⟨f, p1, p2, p3, p4.keep (by (repeat' (first | exact Below.refl _ _ | assumption | refine Below.drew ?_ | refine Below.drewN' ?_ _ | refine Below.setCell ?_ (by first | (simp; done) | omega | (simp; omega)) _ | refine Below.alloc ?_ (by first | (simp; done) | omega | (simp; omega)) _ | refine Below.step ?_ (by assumption) (by first | (simp; done) | omega | (simp; omega)))))⟩
         · exact .inr ⟨p1, p2, p3⟩
       have hge : w.heap.size ≤ w1.heap.size := hb.size
       generalize w1.alloc (.cells #[.int .u64 (c.a.toNat : Int), .int .u64 (c.b.toNat : Int), .int .u64 (c.c.toNat : Int), .int .u64 (c.d.toNat : Int)] 27) = W at hbox hBW hPO ⊢
       clear hb HO)
  all_goals
    have hcW := H.out.keep hBW
    have hGW := HG.out.keep hBW HG.out.2
    have HCW := Lib.hid hcW
    have HGW := Lib.hid hGW
    have HPO := Lib.hid hPO
    have HBOX := Lib.hid hbox
    have hbl := lt_of_block hbox
    have hWs := hBW.size
    clear hcW hGW hPO hbox c0 c1 f1
    rcases HPO.out with ⟨f, p1, rfl, rfl, fp, p4, rfl, p6⟩ | ⟨p1, p2, rfl⟩
    · have hpl := clParse_place r f (by rw [← HD.out]; exact p1)
      have HP1 := Lib.hid p1
      have HP6 := Lib.hid p6
      have hfl := lt_of_block p6
      have hrl : r.length + 1 = (s.drop k).length := by rw [HD.out]; rfl
      have hdk : (s.drop k).length = s.length - k := by simp
      have hne : fp ≠ W.heap.size := by omega
      have hg1 := HGW.out.keep (by (repeat' (first | exact Below.refl _ _ | assumption | refine Below.drew ?_ | refine Below.drewN' ?_ _ | refine Below.setCell ?_ (by first | (simp; done) | omega | (simp; omega)) _ | refine Below.alloc ?_ (by first | (simp; done) | omega | (simp; omega)) _ | refine Below.step ?_ (by assumption) (by first | (simp; done) | omega | (simp; omega)))) : Below W.heap.size W (W.alloc (.cells #[.pointer none] 83))) HGW.out.2
      have ht0 : (W.alloc (.cells #[.pointer none] 83)).cell? ⟨W.heap.size, 0, none⟩ = some (.pointer none) := cell_at (last_block _ _) 0
      have hf0 : (W.alloc (.cells #[.pointer none] 83)).frozen? ⟨W.heap.size, 0, none⟩ = false := unfrozen_at (last_block _ _) 0
      have HG1 := Lib.hid hg1.1
      have HT0 := Lib.hid ht0
      have HF0 := Lib.hid hf0
      clear p1 p6 HPO hg1 ht0 hf0
      go_wp2_with fail
      refine (as_hit ⟨fp, 0, none⟩ ⟨W.heap.size, 0, none⟩ (.pointer none) (W.alloc (.cells #[.pointer none] 83)) HG1.out HT0.out HF0.out).mono ?_
      rintro e w2 ⟨rfl, hw2⟩
      have hB2 : Below W.heap.size W w2 := by rw [hw2]; exact Below.setCell (p := ⟨W.heap.size, 0, none⟩) (by (repeat' (first | exact Below.refl _ _ | assumption | refine Below.drew ?_ | refine Below.drewN' ?_ _ | refine Below.setCell ?_ (by first | (simp; done) | omega | (simp; omega)) _ | refine Below.alloc ?_ (by first | (simp; done) | omega | (simp; omega)) _ | refine Below.step ?_ (by assumption) (by first | (simp; done) | omega | (simp; omega))))) (Nat.le_refl _) _
      have hblk : w2.heap[W.heap.size]? = some (.cells #[.pointer (some ⟨fp, 0, none⟩)] 83) := by
        rw [hw2]
        exact one_setCell (by rw [Below.heap_alloc _ _ _ (by simp; omega), Below.heap_alloc _ _ _ (by simp; omega), Below.heap_alloc _ _ _ (by simp; omega), Below.heap_alloc _ _ _ (by simp)]; exact last_block _ _)
      have hc2 := HCW.out.keep hB2
      obtain ⟨c0, c1, f1, hlt2⟩ := hc2.cells
      have hfb := (hB2.block fp hfl).trans HP6.out
      have g0 := cell_at hfb 0
      have g1 := cell_at hfb 1
      have t0 := cell_at hblk 0
      have hpl2 : (k : Int) + f.place ≤ 100010 := by omega
      have hpl0 := hpl.1
      have hs2 := hB2.size
      have hB2' : Below w.heap.size w w2 := hBW.trans (hB2.mono (by omega))
      clear hw2 hblk hc2 hfb HP6 HBOX hpl
      go_wp2_with fail
      go_still_tail 13, (by kernel_rfl)
      go_wp2_with fail
      refine (lex_fault f.code ((k : Int) + f.place) _).mono ?_
      rintro e w3 ⟨v, rfl, hv, hb3⟩
      have HV := Lib.hid hv
      clear hv
      go_wp2_with fail
      go_ret
      exact ⟨((hB2'.drew).trans (hb3.mono (by simp; omega))).mono (by omega), .inl ⟨f, v, HP1.out, rfl, HV.out.mono (by simp; omega)⟩⟩
    · have HP1 := Lib.hid p1
      clear p1 HPO
      have hkn : k + n ≤ s.length := by simp at p2; omega
      have hki : (k : Int) + (n : Int) ≤ 100010 := by omega
      have hki0 : (0 : Int) ≤ (k : Int) + (n : Int) := by omega
      go_wp2_with fail
      refine (as_nil _ _).mono ?_
      rintro e w2 ⟨rfl, rfl⟩
      have hc2 := HCW.out.keep (by (repeat' (first | exact Below.refl _ _ | assumption | refine Below.drew ?_ | refine Below.drewN' ?_ _ | refine Below.setCell ?_ (by first | (simp; done) | omega | (simp; omega)) _ | refine Below.alloc ?_ (by first | (simp; done) | omega | (simp; omega)) _ | refine Below.step ?_ (by assumption) (by first | (simp; done) | omega | (simp; omega)))) : Below W.heap.size W (W.alloc (.cells #[.pointer none] 83)))
      obtain ⟨c0, c1, f1, hlt2⟩ := hc2.cells
      have hb2 := HBOX.out.rest (Below.heap_alloc W (.cells #[.pointer none] 83) _ hbl)
      have hBW2 : Below w.heap.size w (W.alloc (.cells #[.pointer none] 83)) := by (repeat' (first | exact Below.refl _ _ | assumption | refine Below.drew ?_ | refine Below.drewN' ?_ _ | refine Below.setCell ?_ (by first | (simp; done) | omega | (simp; omega)) _ | refine Below.alloc ?_ (by first | (simp; done) | omega | (simp; omega)) _ | refine Below.step ?_ (by assumption) (by first | (simp; done) | omega | (simp; omega))))
      generalize W.alloc (.cells #[.pointer none] 83) = W2 at hc2 hb2 hBW2 c0 c1 f1 hlt2 ⊢
      obtain ⟨q0, q1, q2, q3, z0, z1, z2, z3, hql⟩ := hb2.four
      have HC2 := Lib.hid hc2
      clear hc2 hb2
      go_wp2_with fail
      go_still_tail 9, (by kernel_rfl)
      go_wp2_with fail
      refine (cut_add b s k l ⟨4, [], c, 0⟩ (k + n) W2.drew (HC2.out.keep (by (repeat' (first | exact Below.refl _ _ | assumption | refine Below.drew ?_ | refine Below.drewN' ?_ _ | refine Below.setCell ?_ (by first | (simp; done) | omega | (simp; omega)) _ | refine Below.alloc ?_ (by first | (simp; done) | omega | (simp; omega)) _ | refine Below.step ?_ (by assumption) (by first | (simp; done) | omega | (simp; omega)))))) (by omega)).mono ?_
      rintro e w3 ⟨rfl, hc3, hb3⟩
      have HC3 := Lib.hid hc3
      clear hc3
      go_wp2_with fail
      go_ret
      exact ⟨Below.trans (hBW2.drew.mono (by omega)) hb3, .inr ⟨c, n, HP1.out, hkn, rfl, HC3.out⟩⟩

end Go.Proofs.YtdmhjnnogcpccaaGreatDoor
end

section
namespace Go.Proofs.YtdmhjnnogcpccaaGreatDoor
open Go.RowKit
open Mu (Cl Bs Nd Ru Gr Tk)
set_option linter.unusedSimpArgs false
set_option linter.unusedVariables false

attribute [local irreducible] wpQuiet wpStill
attribute [local go_sem ↓] Go.wp_at_zero Go.wp_at_succ

theorem strings_clone (s : ByteArray) (hl : s.size ≤ 281474976710656) (w : World) :
    Calls Tryz.prog 111 #[.string s] w fun e w' => e = .returned (.string s) ∧ Below w.heap.size w w' := by
  go_enter Tryz.func111, Tryz.ntmps111
  go_wp2_with fail
  refine (Tryz.stringslite_Clone s w hl).mono ?_
  rintro e w1 ⟨rfl, hb⟩
  go_wp2_with fail
  go_ret
  exact ⟨rfl, hb⟩

def TokEnd (b : Nat) (s : Bs) (k : Nat) (l : List Tk) (w : World) (e : Ending) (w' : World) : Prop := Below b w w' ∧
  ((∃ f v, Mu.token s.length (s.drop k) = .error f ∧ e = .returned v ∧ IsFlt w.heap.size v f w') ∨
   (∃ (t : Tk) (q : Nat), Mu.token s.length (s.drop k) = .ok (t, s.drop q) ∧ t.text.length ≤ 255 ∧ k < q ∧ q ≤ s.length ∧ e = .returned .nilIface ∧ IsCut b s q (l ++ [t]) w'))

theorem drop_at (s : Bs) (k : Nat) (hk : k < s.length) : s.length - (s.drop k).length = k := by simp; omega

theorem enc_small (c : UInt8) (h : c.toNat < 128) : Utf8.encode (c.toNat : Int) = ba [c] := by
  have := enc_byte ⟨c.toNat, h⟩
  simpa using this

theorem signs_small : ∀ d : Fin 256, (0 ≤ Lib.indexByte [47, 38, 33, 63, 42, 43, 40, 41, 46] (UInt8.ofNat d.val) → d.val < 128) ∧ (0 ≤ Lib.indexByte [47, 38, 33, 63, 42, 43, 40, 41, 46] (UInt8.ofNat d.val) ↔ Mu.signs.contains (UInt8.ofNat d.val) = true) := by decide +kernel

theorem signs8 (c : UInt8) : (0 ≤ Lib.indexByte [47, 38, 33, 63, 42, 43, 40, 41, 46] c → c.toNat < 128) ∧ (0 ≤ Lib.indexByte [47, 38, 33, 63, 42, 43, 40, 41, 46] c ↔ Mu.signs.contains c = true) := by
  have := signs_small ⟨c.toNat, c.toNat_lt⟩
  simpa using this

theorem tok_long (n : Nat) (c : UInt8) (r : Bs) (h : 32 < Mu.nameLen (c :: r)) : Mu.token n (c :: r) = .error ⟨2, (n - (c :: r).length : Nat)⟩ := by simp only [Mu.token, if_pos h]
theorem tok_name (n : Nat) (c : UInt8) (r : Bs) (h : ¬ 32 < Mu.nameLen (c :: r)) (h2 : 0 < Mu.nameLen (c :: r)) : Mu.token n (c :: r) = .ok (⟨1, (c :: r).take (Mu.nameLen (c :: r)), Cl.zero, n - (c :: r).length⟩, (c :: r).drop (Mu.nameLen (c :: r))) := by simp only [Mu.token, if_neg h, if_pos h2]
theorem tok_sign (n : Nat) (c : UInt8) (r : Bs) (h2 : Mu.nameLen (c :: r) = 0) (h3 : Mu.signs.contains c = true) : Mu.token n (c :: r) = .ok (⟨5, [c], Cl.zero, n - (c :: r).length⟩, r) := by
  have h : ¬ 32 < Mu.nameLen (c :: r) := by omega
  have h' : ¬ 0 < Mu.nameLen (c :: r) := by omega
  simp only [Mu.token, if_neg h, if_neg h', if_pos h3]
theorem tok_arrow (n : Nat) (c : UInt8) (r : Bs) (h2 : Mu.nameLen (c :: r) = 0) (h3 : ¬ Mu.signs.contains c = true) (h4 : c = 60 ∧ r.head? = some 45) : Mu.token n (c :: r) = .ok (⟨2, [], Cl.zero, n - (c :: r).length⟩, r.drop 1) := by
  have h : ¬ 32 < Mu.nameLen (c :: r) := by omega
  have h' : ¬ 0 < Mu.nameLen (c :: r) := by omega
  simp only [Mu.token, if_neg h, if_neg h', if_neg h3, if_pos h4]
theorem tok_lit (n : Nat) (c : UInt8) (r : Bs) (h2 : Mu.nameLen (c :: r) = 0) (h3 : ¬ Mu.signs.contains c = true) (h4 : ¬ (c = 60 ∧ r.head? = some 45)) (h5 : c = 39 ∨ c = 34) : Mu.token n (c :: r) = match Mu.literalK n (n - (c :: r).length) c (r.length + 1) [] r with
    | .error e => .error e
    | .ok (t, q) => .ok (⟨3, t, Cl.zero, n - (c :: r).length⟩, q) := by
  have h : ¬ 32 < Mu.nameLen (c :: r) := by omega
  have h' : ¬ 0 < Mu.nameLen (c :: r) := by omega
  simp only [Mu.token, if_neg h, if_neg h', if_neg h3, if_neg h4, if_pos h5]
  generalize Mu.literalK n (n - (c :: r).length) c (r.length + 1) [] r = z
  cases z <;> rfl
theorem tok_class (n : Nat) (r : Bs) (h2 : Mu.nameLen (91 :: r) = 0) : Mu.token n (91 :: r) = match Mu.clParse (91 :: r) with
    | .error e => .error ⟨e.code, (n - (91 :: r).length : Nat) + e.place⟩
    | .ok (c, u) => .ok (⟨4, [], c, n - (91 :: r).length⟩, (91 :: r).drop u) := by
  have h : ¬ 32 < Mu.nameLen (91 :: r) := by omega
  have h' : ¬ 0 < Mu.nameLen (91 :: r) := by omega
  have h3 : ¬ Mu.signs.contains (91 : UInt8) = true := by decide
  have h4 : ¬ ((91 : UInt8) = 60 ∧ r.head? = some 45) := fun h => absurd h.1 (by decide)
  have h5 : ¬ ((91 : UInt8) = 39 ∨ (91 : UInt8) = 34) := by decide
  simp only [Mu.token, if_neg h, if_neg h', if_neg h3, if_neg h4, if_neg h5, if_true]
  generalize Mu.clParse (91 :: r) = z
  cases z <;> rfl
theorem tok_bad (n : Nat) (c : UInt8) (r : Bs) (h2 : Mu.nameLen (c :: r) = 0) (h3 : ¬ Mu.signs.contains c = true) (h4 : ¬ (c = 60 ∧ r.head? = some 45)) (h5 : ¬ (c = 39 ∨ c = 34)) (h6 : c ≠ 91) : Mu.token n (c :: r) = .error ⟨4, (n - (c :: r).length : Nat)⟩ := by
  have h : ¬ 32 < Mu.nameLen (c :: r) := by omega
  have h' : ¬ 0 < Mu.nameLen (c :: r) := by omega
  simp only [Mu.token, if_neg h, if_neg h', if_neg h3, if_neg h4, if_neg h5, if_neg h6]

theorem cut_add0 (b : Nat) (s : Bs) (k : Nat) (l : List Tk) (K : Nat) (t : Bs) (m : Nat) (kx x : Int) (hK : kx = (K : Int)) (hx : x = (m : Int)) (w : World) (h : IsCut b s k l w) (hl : l.length ≤ 100000) :
    Calls Tryz.prog 79 #[.pointer (some ⟨b, 0, none⟩), .agg #[.int .i64 kx, .string (ba t), .int .u64 0, .int .u64 0, .int .u64 0, .int .u64 0, .int .i64 0], .int .i64 x] w fun e w' => e = .returned (.tuple #[]) ∧ IsCut b s m (l ++ [⟨K, t, Cl.zero, k⟩]) w' ∧ Below b w w' := by
  subst hK
  subst hx
  exact cut_add b s k l ⟨K, t, Cl.zero, 0⟩ m w h hl

theorem clMembers_len (n : Nat) : ∀ (j : Nat) (c : Cl) (s : Bs) (c' : Cl) (z : Bs), s.length ≤ n → Mu.clMembers n j c s = .ok (c', z) → z.length ≤ s.length
  | 0, c, s, c', z, _, h => by simp [Mu.clMembers] at h
  | j + 1, c, s, c', z, hs, h => by
    by_cases h93 : s.head? = some 93
    · match s, h93 with
      | d :: r, h93 =>
        simp at h93
        subst h93
        rw [clMembers_close] at h
        cases h
        simp
    · rw [clMembers_step _ _ _ _ h93] at h
      cases hm : Mu.clMember n s with
      | error e => rw [hm] at h; cases h
      | ok p =>
        obtain ⟨m, r⟩ := p
        rw [hm] at h
        have h1 := (clMember_place n s hs).2 m r hm
        have h2 := clMembers_len n j _ r c' z (by omega) h
        omega

theorem clParse_pos (r : Bs) (c : Cl) (n : Nat) (h : Mu.clParse (91 :: r) = .ok (c, n)) : 0 < n := by
  unfold Mu.clParse at h
  simp only at h
  split at h
  · cases h
  · rename_i c' z hm
    have hl := clMembers_len _ _ _ _ _ _ (by split <;> simp <;> omega) hm
    have hz : z.length ≤ r.length := by
      refine Nat.le_trans hl ?_
      split <;> simp
    simp at h
    omega

theorem wrap_add (k m : Nat) (h : k + m ≤ 100010) : IntKind.i64.wrap ((k : Int) + (m : Int)) = ((k + m : Nat) : Int) := (IntWalk.i64_in _ (by omega)).trans (by simp)

theorem hdr0 (s : Bs) (k : Nat) (hk : k < s.length) (c : UInt8) (h : s.drop k = c :: s.drop (k + 1)) : (ba s)[k]'hk = c := by
  have := List.drop_eq_getElem_cons hk
  rw [h] at this
  exact (List.cons.inj this).1.symm

theorem toUInt8_toNat (c : UInt8) : c.toNat.toUInt8 = c := by simp

theorem prefix_arrow (c : UInt8) (r : Bs) : Lib.hasPrefix (c :: r) [60, 45] = decide (c = 60 ∧ r.head? = some 45) := by
  rw [Bool.eq_iff_iff, decide_eq_true_iff]
  cases r with
  | nil => simp [Lib.hasPrefix, List.isPrefixOf]
  | cons d r =>
    simp only [Lib.hasPrefix, List.isPrefixOf, List.head?_cons, Option.some.injEq, Bool.and_eq_true, beq_iff_eq, and_true]
    exact ⟨fun ⟨a, b⟩ => ⟨a.symm, b.symm⟩, fun ⟨a, b⟩ => ⟨a.symm, b.symm⟩⟩

attribute [local irreducible] Utf8.encode

set_option maxHeartbeats 8000000 in
set_option maxRecDepth 100000 in
theorem cut_token (b : Nat) (s : Bs) (k : Nat) (l : List Tk) (w : World) (h : IsCut b s k l w) (hG : ErrT w) (hn : s.length ≤ 100000) (hl : l.length ≤ 10000) (hk : k < s.length) :
    Calls Tryz.prog 78 #[.pointer (some ⟨b, 0, none⟩)] w (TokEnd b s k l w) := by
  obtain ⟨c0, c1, f1, hlt⟩ := h.cells
  have hsz : (ba s).size = s.length := rfl
  have hex : (ba s).extract k s.length = ba (s.drop k) := by
    apply ByteArray.ext
    simp [ba, ByteArray.data_extract, List.extract_eq_take_drop]
    exact List.take_of_length_le (by simp)
  have HEX := Lib.hid hex
  have H := Lib.hid h
  have HG := Lib.hid hG
  have hrs : (ba (s.drop k)).size = s.length - k := by show (s.drop k).length = _; simp
  rcases drop_cases s k (by omega) with ⟨he, _⟩ | ⟨c, _, hdr, hg⟩
  · omega
  have hg0 : ∀ hh, (ba (s.drop k))[0]'hh = c := by
    intro hh
    show (s.drop k)[0]'hh = c
    simp [hdr]
  have HDR := Lib.hid hdr
  have hml := nameLen_le (s.drop k)
  have hdl : (s.drop k).length = s.length - k := by simp
  clear h hG hex hdr hg
  go_enter Tryz.func78, Tryz.ntmps78
  go_wp2_with fail
  go_quiet (fail)
  have h2 : IsCut b s k l (w.drewN nq) := H.out.keep (by (repeat' (first | exact Below.refl _ _ | assumption | refine Below.drew ?_ | refine Below.drewN' ?_ _ | refine Below.setCell ?_ (by first | (simp; done) | omega | (simp; omega)) _ | refine Below.alloc ?_ (by first | (simp; done) | omega | (simp; omega)) _ | refine Below.step ?_ (by assumption) (by first | (simp; done) | omega | (simp; omega)))))
  have hG2 : ErrT (w.drewN nq) := HG.out.keep (by (repeat' (first | exact Below.refl _ _ | assumption | refine Below.drew ?_ | refine Below.drewN' ?_ _ | refine Below.setCell ?_ (by first | (simp; done) | omega | (simp; omega)) _ | refine Below.alloc ?_ (by first | (simp; done) | omega | (simp; omega)) _ | refine Below.step ?_ (by assumption) (by first | (simp; done) | omega | (simp; omega)))) : Below w.heap.size w _) HG.out.2
  have hBw : Below w.heap.size w (w.drewN nq) := by (repeat' (first | exact Below.refl _ _ | assumption | refine Below.drew ?_ | refine Below.drewN' ?_ _ | refine Below.setCell ?_ (by first | (simp; done) | omega | (simp; omega)) _ | refine Below.alloc ?_ (by first | (simp; done) | omega | (simp; omega)) _ | refine Below.step ?_ (by assumption) (by first | (simp; done) | omega | (simp; omega))))
  have hsw : (w.drewN nq).heap.size = w.heap.size := rfl
  generalize w.drewN nq = w2 at h2 hG2 hBw hsw ⊢
  clear c0 c1 f1 hlt H HG
  obtain ⟨c0, c1, f1, hlt⟩ := h2.cells
  have H := Lib.hid h2
  have HG := Lib.hid hG2
  clear h2 hG2
  go_wp2_with fail
  rw [HEX.out]
  have hdp := drop_at s k hk
  refine (lex_name (s.drop k) (by omega) w2).mono ?_
  rintro e w3 ⟨rfl, rfl⟩
  have hNL : Mu.nameLen (s.drop k) = Mu.nameLen (c :: s.drop (k + 1)) := by rw [HDR.out]
  have hle : (c :: s.drop (k + 1)).length = (s.drop k).length := by rw [HDR.out]
  generalize hm : Mu.nameLen (s.drop k) = m at hml hNL ⊢
  by_cases hm32 : 32 < m
  · have ht := tok_long s.length c (s.drop (k + 1)) (by omega)
    rw [hle, hdp] at ht
    have HT := Lib.hid ht
    clear ht hNL hle hm hdp
    go_wp2_with fail
    refine (lex_fault 2 k w2).mono ?_
    rintro e w4 ⟨v, rfl, hv, hb4⟩
    have HV := Lib.hid hv
    clear hv
    go_wp2_with fail
    go_ret
    exact ⟨(hBw.trans (hb4.mono (by omega))).mono (by omega), .inl ⟨_, v, by rw [HDR.out]; exact HT.out, rfl, HV.out.mono (by omega)⟩⟩
  · by_cases hm0 : 0 < m
    · have ht := tok_name s.length c (s.drop (k + 1)) (by omega) (by omega)
      rw [hle, hdp, ← hNL, ← HDR.out, List.drop_drop] at ht
      have HT := Lib.hid ht
      have hexm : (ba (s.drop k)).extract 0 m = ba ((s.drop k).take m) := by
        apply ByteArray.ext
        simp [ba, ByteArray.data_extract, List.extract_eq_take_drop]
      have HEM := Lib.hid hexm
      have hki : (k : Int) + (m : Int) ≤ 100010 := by omega
      have hts : (ba ((s.drop k).take m)).size ≤ 281474976710656 := by show ((s.drop k).take m).length ≤ _; simp; omega
      have hmi : ¬ (32 : Int) < (m : Int) := by omega
      have hmi0 : (0 : Int) < (m : Int) := by omega
      clear ht hNL hle hm hdp hexm
      go_wp2_with fail
      have hl5 : l.length ≤ 100000 := by omega
      have hkm : k + m ≤ 100010 := by omega
      go_region_with (first
        | (go_at_call 111; rw [HEM.out]; refine (strings_clone _ hts _).mono ?_; rintro e w4 ⟨rfl, hb4⟩; have hc4 := (H.out.keep ((Below.refl _ _).drew)).keep hb4; obtain ⟨d0, d1, d2, hlt4⟩ := hc4.cells; have HC4 := Lib.hid hc4; have HB4 := Lib.hid (((Below.refl w2.heap.size w2).drew).trans hb4); clear hc4 hb4)
        | (go_at_call 79; (first | refine (cut_add0 b s k l 1 ((s.drop k).take m) (k + m) _ _ rfl (by exact wrap_add k m hkm) _ HC4.out hl5).mono ?_ | refine (cut_add0 b s k l 1 ((s.drop k).take m) (k + m) _ _ rfl (by exact (Int.natCast_add k m).symm) _ HC4.out hl5).mono ?_); rintro e w5 ⟨rfl, hc5, hb5⟩; have HC5 := Lib.hid hc5; have HB5 := Lib.hid hb5; clear hc5 hb5))
      all_goals
        go_wp2_with fail
        go_ret
        exact ⟨(hBw.mono (by omega)).trans ((HB4.out.mono (by omega)).trans HB5.out), .inr ⟨_, k + m, HT.out, by simp; omega, by omega, by omega, rfl, HC5.out⟩⟩
    · obtain rfl : m = 0 := by omega
      have hm00 := hNL.symm
      have HM0 := Lib.hid hm00
      have HLE := Lib.hid hle
      have HDP := Lib.hid hdp
      clear hm32 hm0 hm00 hNL hle hdp hm hml
      have h8 := signs8 c
      generalize hr : Lib.indexByte [47, 38, 33, 63, 42, 43, 40, 41, 46] c = r at h8
      have HRR : Hid (Lib.indexByte (ba [47, 38, 33, 63, 42, 43, 40, 41, 46]).data.toList c.toNat.toUInt8 = r) := Lib.hid (by rw [toUInt8_toNat]; exact hr)
      have H8 := Lib.hid h8
      clear hr h8
      by_cases hr0 : 0 ≤ r
      · have ht := tok_sign s.length c (s.drop (k + 1)) HM0.out (H8.out.2.1 hr0)
        rw [HLE.out, HDP.out] at ht
        have henc := enc_small c (H8.out.1 hr0)
        have hc255 : (c.toNat : Int) ≤ 255 := by have := c.toNat_lt; omega
        have hc000 : (0 : Int) ≤ (c.toNat : Int) := by omega
        have HT := Lib.hid ht
        have hki : (k : Int) + 1 ≤ 100010 := by omega
        clear ht
        go_wp2_with fail
        refine (idxByteAt _ _ r HRR.out w2).mono ?_
        rintro e w3 ⟨rfl, rfl⟩
        go_wp2_with fail
        refine (cut_add0 b s k l 5 [c] (k + 1) _ _ rfl (by simp) _ H.out (by omega)).mono ?_
        rintro e w5 ⟨rfl, hc5, hb5⟩
        have HC5 := Lib.hid hc5
        have HB5 := Lib.hid hb5
        clear hc5 hb5
        go_wp2_with fail
        go_ret
        exact ⟨(hBw.mono (by omega)).trans HB5.out, .inr ⟨_, k + 1, by rw [HDR.out]; exact HT.out, by simp, by omega, by omega, rfl, HC5.out⟩⟩
      · have hns : ¬ Mu.signs.contains c = true := fun h => hr0 (H8.out.2.2 h)
        have HNS := Lib.hid hns
        clear hns
        by_cases har : c = 60 ∧ (s.drop (k + 1)).head? = some 45
        · have ht := tok_arrow s.length c (s.drop (k + 1)) HM0.out HNS.out har
          rw [HLE.out, HDP.out, List.drop_drop] at ht
          have hpre : Lib.hasPrefix (ba (s.drop k)).data.toList (ba [60, 45]).data.toList = true := by
            show Lib.hasPrefix (s.drop k) [60, 45] = true
            rw [HDR.out, prefix_arrow]
            exact decide_eq_true har
          have hk2 : k + 2 ≤ s.length := by
            have := har.2
            cases hd : s.drop (k + 1) with
            | nil => rw [hd] at this; simp at this
            | cons a z =>
              have := congrArg List.length hd
              simp at this
              omega
          have HT := Lib.hid ht
          have HPRE := Lib.hid hpre
          have HK2 := Lib.hid hk2
          clear ht hpre har hk2
          go_wp2_with fail
          refine (idxByteAt _ _ r HRR.out w2).mono ?_
          rintro e w3 ⟨rfl, rfl⟩
          go_wp2_with fail
          refine (Tryz.strings_HasPrefix (ba (s.drop k)) (ba [60, 45]) w2).mono ?_
          rintro e w3 ⟨rfl, h3⟩
          subst h3
          rw [HPRE.out]
          go_wp2_with fail
          have hk2 := HK2.out
          refine (cut_add0 b s k l 2 [] (k + 2) _ _ rfl (by simp) _ H.out (by omega)).mono ?_
          rintro e w5 ⟨rfl, hc5, hb5⟩
          have HC5 := Lib.hid hc5
          have HB5 := Lib.hid hb5
          clear hc5 hb5
          go_wp2_with fail
          go_ret
          exact ⟨(hBw.mono (by omega)).trans HB5.out, .inr ⟨_, k + 2, by rw [HDR.out]; exact HT.out, by simp, by omega, by omega, rfl, HC5.out⟩⟩
        · have hpre : Lib.hasPrefix (ba (s.drop k)).data.toList (ba [60, 45]).data.toList = false := by
            show Lib.hasPrefix (s.drop k) [60, 45] = false
            rw [HDR.out, prefix_arrow]
            exact decide_eq_false har
          have HPRE := Lib.hid hpre
          have HAR := Lib.hid har
          clear hpre har
          by_cases hq : c = 39 ∨ c = 34
          · have ht := tok_lit s.length c (s.drop (k + 1)) HM0.out HNS.out HAR.out hq
            rw [HLE.out, HDP.out] at ht
            have HT := Lib.hid ht
            have hgk : (ba s)[k]'hk = c := by
              have := hdr0 s k hk c HDR.out
              exact this
            have hfl : (s.drop (k + 1)).length + 1 = s.length - k := by simp; omega
            have HL := Lib.hid (cut_literal b s k l w2 H.out hn hl hk c hgk _ rfl)
            have HFL := Lib.hid hfl
            clear ht hgk hfl
            rcases hq with rfl | rfl
            all_goals
              go_wp2_with fail
              refine (idxByteAt _ _ r HRR.out w2).mono ?_
              rintro e w3 ⟨rfl, rfl⟩
              go_wp2_with fail
              refine (Tryz.strings_HasPrefix (ba (s.drop k)) (ba [60, 45]) w2).mono ?_
              rintro e w3 ⟨rfl, h3⟩
              subst h3
              rw [HPRE.out]
              go_wp2_with fail
              refine HL.out.mono ?_
              rintro e w5 ⟨hb5, ⟨f, v, hres, rfl, hv⟩ | ⟨t, q, hres, htl, hq1, hq2, rfl, hc5⟩⟩
              · have HV := Lib.hid hv
                have HRS := Lib.hid hres
                clear hv hres
                go_wp2_with fail
                go_ret
                exact ⟨(hBw.mono (by omega)).trans hb5, .inl ⟨f, v, by rw [HDR.out, HT.out, HFL.out, HRS.out], rfl, HV.out.mono (by omega)⟩⟩
              · have HC5 := Lib.hid hc5
                have HRS := Lib.hid hres
                clear hc5 hres
                go_wp2_with fail
                go_ret
                exact ⟨(hBw.mono (by omega)).trans hb5, .inr ⟨_, q, by rw [HDR.out, HT.out, HFL.out, HRS.out], htl, hq1, hq2, rfl, HC5.out⟩⟩
          · have hq1 : ¬ (c.toNat : Int) = 39 := fun e => hq (.inl (UInt8.toNat_inj.1 (by show c.toNat = 39; omega)))
            have hq2 : ¬ (c.toNat : Int) = 34 := fun e => hq (.inr (UInt8.toNat_inj.1 (by show c.toNat = 34; omega)))
            have hb1 : ((c.toNat : Int) == 39) = false := beq_eq_false_iff_ne.2 hq1
            have hb2 : ((c.toNat : Int) == 34) = false := beq_eq_false_iff_ne.2 hq2
            have HQ := Lib.hid hq
            clear hq
            by_cases h91 : c = 91
            · subst h91
              have ht := tok_class s.length (s.drop (k + 1)) HM0.out
              rw [HLE.out, HDP.out] at ht
              have HT := Lib.hid ht
              have HL := Lib.hid (cut_class b s k l w2 H.out HG.out hn hl hk (s.drop (k + 1)) HDR.out)
              clear ht hq1 hq2 hb1 hb2
              go_wp2_with fail
              refine (idxByteAt _ _ r HRR.out w2).mono ?_
              rintro e w3 ⟨rfl, rfl⟩
              go_wp2_with fail
              refine (Tryz.strings_HasPrefix (ba (s.drop k)) (ba [60, 45]) w2).mono ?_
              rintro e w3 ⟨rfl, h3⟩
              subst h3
              rw [HPRE.out]
              go_wp2_with fail
              refine HL.out.mono ?_
              rintro e w5 ⟨hb5, ⟨f, v, hres, rfl, hv⟩ | ⟨cl, q, hres, hq2, rfl, hc5⟩⟩
              · have HV := Lib.hid hv
                have HRS := Lib.hid hres
                clear hv hres
                go_wp2_with fail
                go_ret
                exact ⟨(hBw.mono (by omega)).trans hb5, .inl ⟨_, v, by rw [HDR.out, HT.out, ← HDR.out, HRS.out], rfl, HV.out.mono (by omega)⟩⟩
              · have HC5 := Lib.hid hc5
                have hpos := clParse_pos (s.drop (k + 1)) cl q (by rw [← HDR.out]; exact hres)
                have HRS := Lib.hid hres
                clear hc5 hres
                go_wp2_with fail
                go_ret
                exact ⟨(hBw.mono (by omega)).trans hb5, .inr ⟨_, k + q, by rw [HDR.out, HT.out, ← HDR.out, HRS.out]; simp only [List.drop_drop], by simp, by omega, by omega, rfl, HC5.out⟩⟩
            · have h91i : ¬ (c.toNat : Int) = 91 := fun e => h91 (UInt8.toNat_inj.1 (by show c.toNat = 91; omega))
              have h91b : ((c.toNat : Int) == 91) = false := beq_eq_false_iff_ne.2 h91i
              have ht := tok_bad s.length c (s.drop (k + 1)) HM0.out HNS.out HAR.out HQ.out h91
              rw [HLE.out, HDP.out] at ht
              have HT := Lib.hid ht
              clear ht h91
              go_wp2_with fail
              refine (idxByteAt _ _ r HRR.out w2).mono ?_
              rintro e w3 ⟨rfl, rfl⟩
              go_wp2_with fail
              refine (Tryz.strings_HasPrefix (ba (s.drop k)) (ba [60, 45]) w2).mono ?_
              rintro e w3 ⟨rfl, h3⟩
              subst h3
              rw [HPRE.out]
              go_wp2_with fail
              refine (lex_fault 4 k _).mono ?_
              rintro e w4 ⟨v, rfl, hv, hb4⟩
              have HV := Lib.hid hv
              clear hv
              go_wp2_with fail
              go_ret
              exact ⟨(hBw.trans (hb4.mono (by omega))).mono (by omega), .inl ⟨_, v, by rw [HDR.out]; exact HT.out, rfl, HV.out.mono (by omega)⟩⟩

end Go.Proofs.YtdmhjnnogcpccaaGreatDoor
end
