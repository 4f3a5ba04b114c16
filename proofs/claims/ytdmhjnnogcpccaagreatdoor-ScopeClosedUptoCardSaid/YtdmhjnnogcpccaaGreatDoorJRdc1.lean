/- class.reader.sign: what cannot stand there. class.reader.sign: what cannot stand there. class.reader.sign: what cannot stand there. class.reader.sign: what cannot stand there. -/
import Derived.Test.YtdmhjnnogcpccaaGreatDoorJRda
section
namespace Go.Proofs.YtdmhjnnogcpccaaGreatDoor
open Go.RowKit
open Mu (Cl Bs Nd Ru Gr Tk)
set_option linter.unusedSimpArgs false
set_option linter.unusedVariables false

attribute [local irreducible] wpQuiet

set_option maxHeartbeats 4000000 in
set_option maxRecDepth 20000 in
theorem rd_sign_bad1 (b : Nat) (s : Bs) (k : Nat) (w : World) (H : Hid (IsRd b s k w)) (hk : k ≤ s.length) (hn : s.length ≤ 100000) (hlt : b < w.heap.size) (hsz : (ba s).size = s.length) (c : UInt8) (hl : k < s.length) (hg : (ba s)[k] = c)
    (HH : Hid (((s.drop k).head? == some (92 : UInt8)) = false)) (HDR : Hid (s.drop k = c :: s.drop (k + 1))) (r : Int) (HR : Hid (Lib.indexByte [91, 93, 92, 45, 94] c.toNat.toUInt8 = r)) (HRD : Hid (Mu.clRead s.length (c :: s.drop (k + 1)) = .error (Mu.clWrong s.length (c :: s.drop (k + 1)))))
    (g1 : (c.toNat : Int) < 32) (g3 : c.toNat < 32) :
    Calls Tryz.prog 191 #[.pointer (some ⟨b, 0, none⟩)] w (SignEnd b s k w) := by
  go_enter Tryz.func191, Tryz.ntmps191
  go_wp2_with fail
  refine (rd_is b s _ 92 w H.out hk hn).mono ?_
  rintro e w1 ⟨rfl, h1, hb1⟩
  rw [HH.out]
  obtain ⟨c0, c1, f1, hlt1⟩ := h1.cells
  have H1 := Lib.hid h1
  clear h1
  go_wp2_with fail
  go_quiet (fail)
  go_wp2_with fail
  refine (rd_wrong b s _ _ (H1.out.keep (by (repeat' (first | exact Below.refl _ _ | assumption | refine Below.drew ?_ | refine Below.drewN' ?_ _ | refine Below.setCell ?_ (by first | (simp; done) | omega | (simp; omega)) _ | refine Below.alloc ?_ (by first | (simp; done) | omega | (simp; omega)) _ | refine Below.step ?_ (by assumption) (by first | (simp; done) | omega | (simp; omega)))))) hk hn).mono ?_
  rintro e w2 ⟨v, rfl, hv, h2, hb2⟩
  rw [HDR.out] at hv
  have hs1 := hb1.size
  have HV := Lib.hid (hv.mono (B' := w.heap.size) (by simpa using hs1))
  clear hv
  go_wp2_with fail
  go_ret2
  exact ⟨Rf.of_below (hb1.trans (Below.trans (by (repeat' (first | exact Below.refl _ _ | assumption | refine Below.drew ?_ | refine Below.drewN' ?_ _ | refine Below.setCell ?_ (by first | (simp; done) | omega | (simp; omega)) _ | refine Below.alloc ?_ (by first | (simp; done) | omega | (simp; omega)) _ | refine Below.step ?_ (by assumption) (by first | (simp; done) | omega | (simp; omega))))) (hb2.mono (by simp; omega)))) (by omega), .inl ⟨_, v, by rw [HDR.out]; exact HRD.out, rfl, HV.out⟩⟩

end Go.Proofs.YtdmhjnnogcpccaaGreatDoor
end

section
namespace Go.Proofs.YtdmhjnnogcpccaaGreatDoor
open Go.RowKit
open Mu (Cl Bs Nd Ru Gr Tk)
set_option linter.unusedSimpArgs false
set_option linter.unusedVariables false

attribute [local irreducible] wpQuiet

set_option maxHeartbeats 4000000 in
set_option maxRecDepth 20000 in
theorem rd_sign_bad2 (b : Nat) (s : Bs) (k : Nat) (w : World) (H : Hid (IsRd b s k w)) (hk : k ≤ s.length) (hn : s.length ≤ 100000) (hlt : b < w.heap.size) (hsz : (ba s).size = s.length) (c : UInt8) (hl : k < s.length) (hg : (ba s)[k] = c)
    (HH : Hid (((s.drop k).head? == some (92 : UInt8)) = false)) (HDR : Hid (s.drop k = c :: s.drop (k + 1))) (r : Int) (HR : Hid (Lib.indexByte [91, 93, 92, 45, 94] c.toNat.toUInt8 = r)) (HRD : Hid (Mu.clRead s.length (c :: s.drop (k + 1)) = .error (Mu.clWrong s.length (c :: s.drop (k + 1)))))
    (g1 : ¬ (c.toNat : Int) < 32) (g2 : ¬ c.toNat < 32) (g3 : 126 < (c.toNat : Int)) (g4 : 126 < c.toNat) :
    Calls Tryz.prog 191 #[.pointer (some ⟨b, 0, none⟩)] w (SignEnd b s k w) := by
  go_enter Tryz.func191, Tryz.ntmps191
  go_wp2_with fail
  refine (rd_is b s _ 92 w H.out hk hn).mono ?_
  rintro e w1 ⟨rfl, h1, hb1⟩
  rw [HH.out]
  obtain ⟨c0, c1, f1, hlt1⟩ := h1.cells
  have H1 := Lib.hid h1
  clear h1
  go_wp2_with fail
  go_quiet (fail)
  go_wp2_with fail
  refine (rd_wrong b s _ _ (H1.out.keep (by (repeat' (first | exact Below.refl _ _ | assumption | refine Below.drew ?_ | refine Below.drewN' ?_ _ | refine Below.setCell ?_ (by first | (simp; done) | omega | (simp; omega)) _ | refine Below.alloc ?_ (by first | (simp; done) | omega | (simp; omega)) _ | refine Below.step ?_ (by assumption) (by first | (simp; done) | omega | (simp; omega)))))) hk hn).mono ?_
  rintro e w2 ⟨v, rfl, hv, h2, hb2⟩
  rw [HDR.out] at hv
  have hs1 := hb1.size
  have HV := Lib.hid (hv.mono (B' := w.heap.size) (by simpa using hs1))
  clear hv
  go_wp2_with fail
  go_ret2
  exact ⟨Rf.of_below (hb1.trans (Below.trans (by (repeat' (first | exact Below.refl _ _ | assumption | refine Below.drew ?_ | refine Below.drewN' ?_ _ | refine Below.setCell ?_ (by first | (simp; done) | omega | (simp; omega)) _ | refine Below.alloc ?_ (by first | (simp; done) | omega | (simp; omega)) _ | refine Below.step ?_ (by assumption) (by first | (simp; done) | omega | (simp; omega))))) (hb2.mono (by simp; omega)))) (by omega), .inl ⟨_, v, by rw [HDR.out]; exact HRD.out, rfl, HV.out⟩⟩

end Go.Proofs.YtdmhjnnogcpccaaGreatDoor
end

section
namespace Go.Proofs.YtdmhjnnogcpccaaGreatDoor
open Go.RowKit
open Mu (Cl Bs Nd Ru Gr Tk)
set_option linter.unusedSimpArgs false
set_option linter.unusedVariables false

attribute [local irreducible] wpQuiet

set_option maxHeartbeats 4000000 in
set_option maxRecDepth 20000 in
theorem rd_sign_bad3 (b : Nat) (s : Bs) (k : Nat) (w : World) (H : Hid (IsRd b s k w)) (hk : k ≤ s.length) (hn : s.length ≤ 100000) (hlt : b < w.heap.size) (hsz : (ba s).size = s.length) (c : UInt8) (hl : k < s.length) (hg : (ba s)[k] = c)
    (HH : Hid (((s.drop k).head? == some (92 : UInt8)) = false)) (HDR : Hid (s.drop k = c :: s.drop (k + 1))) (r : Int) (HR : Hid (Lib.indexByte [91, 93, 92, 45, 94] c.toNat.toUInt8 = r)) (HRD : Hid (Mu.clRead s.length (c :: s.drop (k + 1)) = .error (Mu.clWrong s.length (c :: s.drop (k + 1)))))
    (g1 : ¬ (c.toNat : Int) < 32) (g2 : ¬ c.toNat < 32) (g3 : ¬ 126 < (c.toNat : Int)) (g4 : ¬ 126 < c.toNat) (g5 : 0 ≤ r) :
    Calls Tryz.prog 191 #[.pointer (some ⟨b, 0, none⟩)] w (SignEnd b s k w) := by
  go_enter Tryz.func191, Tryz.ntmps191
  go_wp2_with fail
  refine (rd_is b s _ 92 w H.out hk hn).mono ?_
  rintro e w1 ⟨rfl, h1, hb1⟩
  rw [HH.out]
  obtain ⟨c0, c1, f1, hlt1⟩ := h1.cells
  have H1 := Lib.hid h1
  clear h1
  go_wp2_with fail
  go_quiet (first | (go_at_call 77; refine (idxByteAt (ba [91, 93, 92, 45, 94]) c.toNat r HR.out _).mono ?_; rintro e w1 ⟨rfl, rfl⟩; exact ⟨rfl, _, rfl⟩))
  go_wp2_with fail
  refine (rd_wrong b s _ _ (H1.out.keep (by (repeat' (first | exact Below.refl _ _ | assumption | refine Below.drew ?_ | refine Below.drewN' ?_ _ | refine Below.setCell ?_ (by first | (simp; done) | omega | (simp; omega)) _ | refine Below.alloc ?_ (by first | (simp; done) | omega | (simp; omega)) _ | refine Below.step ?_ (by assumption) (by first | (simp; done) | omega | (simp; omega)))))) hk hn).mono ?_
  rintro e w2 ⟨v, rfl, hv, h2, hb2⟩
  rw [HDR.out] at hv
  have hs1 := hb1.size
  have HV := Lib.hid (hv.mono (B' := w.heap.size) (by simpa using hs1))
  clear hv
  go_wp2_with fail
  go_ret2
  exact ⟨Rf.of_below (hb1.trans (Below.trans (by (repeat' (first | exact Below.refl _ _ | assumption | refine Below.drew ?_ | refine Below.drewN' ?_ _ | refine Below.setCell ?_ (by first | (simp; done) | omega | (simp; omega)) _ | refine Below.alloc ?_ (by first | (simp; done) | omega | (simp; omega)) _ | refine Below.step ?_ (by assumption) (by first | (simp; done) | omega | (simp; omega))))) (hb2.mono (by simp; omega)))) (by omega), .inl ⟨_, v, by rw [HDR.out]; exact HRD.out, rfl, HV.out⟩⟩

end Go.Proofs.YtdmhjnnogcpccaaGreatDoor
end

section
namespace Go.Proofs.YtdmhjnnogcpccaaGreatDoor
open Go.RowKit
open Mu (Cl Bs Nd Ru Gr Tk)
set_option linter.unusedSimpArgs false
set_option linter.unusedVariables false

attribute [local irreducible] wpQuiet

set_option maxHeartbeats 4000000 in
set_option maxRecDepth 20000 in
theorem rd_sign_good (b : Nat) (s : Bs) (k : Nat) (w : World) (H : Hid (IsRd b s k w)) (hk : k ≤ s.length) (hn : s.length ≤ 100000) (hlt : b < w.heap.size) (hsz : (ba s).size = s.length) (c : UInt8) (hl : k < s.length) (hg : (ba s)[k] = c)
    (HH : Hid (((s.drop k).head? == some (92 : UInt8)) = false)) (HDR : Hid (s.drop k = c :: s.drop (k + 1))) (r : Int) (HR : Hid (Lib.indexByte [91, 93, 92, 45, 94] c.toNat.toUInt8 = r)) (HRD : Hid (Mu.clRead s.length (c :: s.drop (k + 1)) = .ok (c.toNat, s.drop (k + 1))))
    (g1 : ¬ (c.toNat : Int) < 32) (g2 : ¬ c.toNat < 32) (g3 : ¬ 126 < (c.toNat : Int)) (g4 : ¬ 126 < c.toNat) (g5 : r < 0) :
    Calls Tryz.prog 191 #[.pointer (some ⟨b, 0, none⟩)] w (SignEnd b s k w) := by
  go_enter Tryz.func191, Tryz.ntmps191
  go_wp2_with fail
  refine (rd_is b s _ 92 w H.out hk hn).mono ?_
  rintro e w1 ⟨rfl, h1, hb1⟩
  rw [HH.out]
  obtain ⟨c0, c1, f1, hlt1⟩ := h1.cells
  have H1 := Lib.hid h1
  clear h1
  go_wp2_with fail
  go_quiet (first | (go_at_call 77; refine (idxByteAt (ba [91, 93, 92, 45, 94]) c.toNat r HR.out _).mono ?_; rintro e w1 ⟨rfl, rfl⟩; exact ⟨rfl, _, rfl⟩))
  go_wp2_with fail
  have h2 : IsRd b s (k + 1) ((w1.drewN nq).setCell ⟨b, 1, none⟩ (.int .i64 ((k : Int) + 1))) := IsRd.moved (H1.out.keep (by (repeat' (first | exact Below.refl _ _ | assumption | refine Below.drew ?_ | refine Below.drewN' ?_ _ | refine Below.setCell ?_ (by first | (simp; done) | omega | (simp; omega)) _ | refine Below.alloc ?_ (by first | (simp; done) | omega | (simp; omega)) _ | refine Below.step ?_ (by assumption) (by first | (simp; done) | omega | (simp; omega)))))) _ _ (by omega)
  have hb2 : Rf b w ((w1.drewN nq).setCell ⟨b, 1, none⟩ (.int .i64 ((k : Int) + 1))) := Rf.trans (Rf.of_below (hb1.trans (by (repeat' (first | exact Below.refl _ _ | assumption | refine Below.drew ?_ | refine Below.drewN' ?_ _ | refine Below.setCell ?_ (by first | (simp; done) | omega | (simp; omega)) _ | refine Below.alloc ?_ (by first | (simp; done) | omega | (simp; omega)) _ | refine Below.step ?_ (by assumption) (by first | (simp; done) | omega | (simp; omega)))))) (by omega)) (Rf.set _ _ _)
  generalize (w1.drewN nq).setCell ⟨b, 1, none⟩ (.int .i64 ((k : Int) + 1)) = w2 at h2 hb2 ⊢
  clear c0 c1 f1 hlt1 hb1
  generalize hm : k + 1 = m at h2 HDR HRD
  obtain ⟨d0, d1, f2, hlt2⟩ := h2.cells
  have H2 := Lib.hid h2
  clear h2
  have e1 : (m : Int) - 1 = (k : Int) := by omega
  have HM := Lib.hid hm
  clear hm
  go_quiet (fail)
  go_wp2_with fail
  go_ret2
  have hm := HM.out
  exact ⟨Rf.trans hb2 (Rf.of_below (by (repeat' (first | exact Below.refl _ _ | assumption | refine Below.drew ?_ | refine Below.drewN' ?_ _ | refine Below.setCell ?_ (by first | (simp; done) | omega | (simp; omega)) _ | refine Below.alloc ?_ (by first | (simp; done) | omega | (simp; omega)) _ | refine Below.step ?_ (by assumption) (by first | (simp; done) | omega | (simp; omega))))) (by omega)), .inr ⟨c.toNat, m, by rw [HDR.out]; exact HRD.out, c.toNat_lt, by omega, by omega, rfl, H2.out.keep (by (repeat' (first | exact Below.refl _ _ | assumption | refine Below.drew ?_ | refine Below.drewN' ?_ _ | refine Below.setCell ?_ (by first | (simp; done) | omega | (simp; omega)) _ | refine Below.alloc ?_ (by first | (simp; done) | omega | (simp; omega)) _ | refine Below.step ?_ (by assumption) (by first | (simp; done) | omega | (simp; omega)))))⟩⟩

end Go.Proofs.YtdmhjnnogcpccaaGreatDoor
end
