/- class.reader.sign: behind a backslash. class.reader: sign as one contract; member. class.Parse, of a text that begins as a class does. -/
import Derived.Test.YtdmhjnnogcpccaaGreatDoorJRda
import Derived.Test.YtdmhjnnogcpccaaGreatDoorJRdc1
import Derived.StillTactics
section
namespace Go.Proofs.YtdmhjnnogcpccaaGreatDoor
open Go.RowKit
open Mu (Cl Bs Nd Ru Gr Tk)
set_option linter.unusedSimpArgs false
set_option linter.unusedVariables false

/-- the end of a sign that cannot be read -/
theorem sign_bad {b : Nat} {s : Bs} {k k1 : Nat} {w w1 w2 : World} {v : Value} {r : Bs} (hk : s.drop k1 = r) (hv : IsFlt w1.heap.size v (Mu.clWrong s.length (s.drop k1)) w2) (hb1 : Rf b w w1) (hb2 : Below w1.heap.size w1 w2) (hb : b ≤ w1.heap.size)
    (he : Mu.clRead s.length (s.drop k) = .error (Mu.clWrong s.length r)) : SignEnd b s k w (.returned (.tuple #[.int .i64 0, v])) w2 := by
  have hs := hb1.size
  refine ⟨hb1.trans (Rf.of_below hb2 hb), .inl ⟨_, v, he, rfl, ?_⟩⟩
  rw [hk] at hv
  exact hv.mono hs

theorem pk_nil (l : Bs) : pk l [] = -1 := rfl
theorem pk_cons (l : Bs) (c : UInt8) (r : Bs) : pk l (c :: r) = Lib.indexByte l c := rfl

theorem nat_of {i : Int} (h : 0 ≤ i) : ∃ j : Nat, i = (j : Int) := ⟨i.toNat, by omega⟩

set_option maxHeartbeats 4000000 in
set_option maxRecDepth 20000 in
theorem rd_sign_esc (b : Nat) (s : Bs) (k : Nat) (w : World) (H : Hid (IsRd b s k w)) (hk : k ≤ s.length) (hn : s.length ≤ 100000) (hlt : b < w.heap.size) (hsz : (ba s).size = s.length) (hl : k < s.length)
    (HDR : Hid (s.drop k = 92 :: s.drop (k + 1))) :
    Calls Tryz.prog 191 #[.pointer (some ⟨b, 0, none⟩)] w (SignEnd b s k w) := by
  have hh : ((s.drop k).head? == some (92 : UInt8)) = true := by rw [HDR.out]; rfl
  have HH := Lib.hid hh
  clear hh
  go_enter Tryz.func191, Tryz.ntmps191
  go_wp2_with fail
  refine (rd_is b s _ 92 w H.out hk hn).mono ?_
  rintro e w1 ⟨rfl, h1, hb1⟩
  rw [HH.out]
  obtain ⟨c0, c1, f1, hlt1⟩ := h1.cells
  have h2 : IsRd b s (k + 1) (w1.setCell ⟨b, 1, none⟩ (.int .i64 ((k : Int) + 1))) := IsRd.moved h1 _ _ (by omega)
  have H2 := Lib.hid h2
  clear h1 h2
  have hb2 : Rf b w (w1.setCell ⟨b, 1, none⟩ (.int .i64 ((k : Int) + 1))) := Rf.trans (Rf.of_below hb1 (by omega)) (Rf.set _ _ _)
  go_wp2_with fail
  generalize hw2 : w1.setCell ⟨b, 1, none⟩ (.int .i64 ((k : Int) + 1)) = w2 at H2 hb2
  clear hw2 c0 c1 f1 hlt1 hb1
  refine (rd_pick b s (k + 1) [110, 114, 116] w2 H2.out (by omega) hn).mono ?_
  rintro e w3 ⟨rfl, h3, hb3⟩
  have hb3' : Rf b w w3 := hb2.trans hb3
  rcases drop_cases s (k + 1) (by omega) with ⟨hke, hdr⟩ | ⟨d, hl2, hdr, _⟩
  · rw [hdr, pk_nil] at h3 ⊢
    rw [if_neg (by decide)] at h3
    have H3 := Lib.hid h3
    have HD2 := Lib.hid hdr
    clear h3 hdr
    go_wp2_with fail
    refine (rd_pick b s (k + 1) [91, 93, 92, 45, 94] w3 H3.out (by omega) hn).mono ?_
    rintro e w4 ⟨rfl, h4, hb4⟩
    have hb4' : Rf b w w4 := hb3'.trans hb4
    rw [HD2.out, pk_nil] at h4 ⊢
    rw [if_neg (by decide)] at h4
    have H4 := Lib.hid h4
    clear h4
    go_wp2_with fail
    refine (rd_pick b s (k + 1) [120] w4 H4.out (by omega) hn).mono ?_
    rintro e w5 ⟨rfl, h5, hb5⟩
    have hb5' : Rf b w w5 := hb4'.trans hb5
    rw [HD2.out, pk_nil] at h5 ⊢
    rw [if_neg (by decide)] at h5
    have H5 := Lib.hid h5
    clear h5
    go_wp2_with fail
    refine (rd_wrong b s (k + 1) w5 H5.out (by omega) hn).mono ?_
    rintro e w6 ⟨v, rfl, hv, h6, hb6⟩
    have HV := Lib.hid hv
    clear hv h6
    go_wp2_with fail
    go_ret2
    exact sign_bad HD2.out HV.out hb5' hb6 (by have := hb5'.size; omega) (by rw [HDR.out, HD2.out]; exact clRead_esc0 _)
  · rw [hdr, pk_cons] at h3 ⊢
    have e1 := by8 (P := fun d => 0 ≤ Lib.indexByte [110, 114, 116] d → Lib.indexByte [110, 114, 116] d < 3 ∧ escOf d = some (([10, 13, 9] : Bs).getD (Lib.indexByte [110, 114, 116] d).toNat 0).toNat) esc_letters d
    have e2 := by8 (P := fun d => Lib.indexByte [110, 114, 116] d < 0 → 0 ≤ Lib.indexByte [91, 93, 92, 45, 94] d → Lib.indexByte [91, 93, 92, 45, 94] d < 5 ∧ escOf d = some (([91, 93, 92, 45, 94] : Bs).getD (Lib.indexByte [91, 93, 92, 45, 94] d).toNat 0).toNat) esc_marked d
    have e3 := by8 (P := fun d => Lib.indexByte [110, 114, 116] d < 0 → Lib.indexByte [91, 93, 92, 45, 94] d < 0 → escOf d = none) esc_none d
    generalize hi : Lib.indexByte [110, 114, 116] d = i at h3 e1 e2 e3 ⊢
    have HD2 := Lib.hid hdr
    clear hdr
    by_cases hi0 : 0 ≤ i
    · obtain ⟨hi3, he⟩ := e1 hi0
      rw [if_pos hi0] at h3
      have H3 := Lib.hid h3
      clear h3 e1 e2 e3 hi
      obtain ⟨j, rfl⟩ := nat_of hi0
      have hj : j = 0 ∨ j = 1 ∨ j = 2 := by omega
      have HE := Lib.hid he
      clear he
      rcases hj with rfl | rfl | rfl
      all_goals
        go_wp2_with fail
        go_ret2
        first
            | exact ⟨hb3', .inr ⟨10, k + 2, by rw [HDR.out, HD2.out]; exact clRead_esc _ _ _ _ HE.out, by decide, by omega, by omega, congrArg (fun z => Ending.returned (Value.tuple #[Value.int .i64 z, .nilIface])) (by decide +kernel), H3.out⟩⟩
            | exact ⟨hb3', .inr ⟨13, k + 2, by rw [HDR.out, HD2.out]; exact clRead_esc _ _ _ _ HE.out, by decide, by omega, by omega, congrArg (fun z => Ending.returned (Value.tuple #[Value.int .i64 z, .nilIface])) (by decide +kernel), H3.out⟩⟩
            | exact ⟨hb3', .inr ⟨9, k + 2, by rw [HDR.out, HD2.out]; exact clRead_esc _ _ _ _ HE.out, by decide, by omega, by omega, congrArg (fun z => Ending.returned (Value.tuple #[Value.int .i64 z, .nilIface])) (by decide +kernel), H3.out⟩⟩
    · rw [if_neg hi0] at h3
      have H3 := Lib.hid h3
      clear h3 e1 hi
      have hi1 : i < 0 := by omega
      have e2' := e2 hi1
      have e3' := e3 hi1
      clear e2 e3
      have E2 := Lib.hid e2'
      have E3 := Lib.hid e3'
      clear e2' e3'
      go_wp2_with fail
      refine (rd_pick b s (k + 1) [91, 93, 92, 45, 94] w3 H3.out (by omega) hn).mono ?_
      rintro e w4 ⟨rfl, h4, hb4⟩
      have hb4' : Rf b w w4 := hb3'.trans hb4
      rw [HD2.out, pk_cons] at h4 ⊢
      have e2 := E2.out
      have e3 := E3.out
      generalize hi2 : Lib.indexByte [91, 93, 92, 45, 94] d = i2 at h4 e2 e3 ⊢
      clear E2 E3
      by_cases hi20 : 0 ≤ i2
      · obtain ⟨hi3, he⟩ := e2 hi20
        rw [if_pos hi20] at h4
        have H4 := Lib.hid h4
        clear h4 e2 e3 hi2
        obtain ⟨j, rfl⟩ := nat_of hi20
        have hj : j = 0 ∨ j = 1 ∨ j = 2 ∨ j = 3 ∨ j = 4 := by omega
        have HE := Lib.hid he
        clear he
        rcases hj with rfl | rfl | rfl | rfl | rfl
        all_goals
          go_wp2_with fail
          go_ret2
          first
            | exact ⟨hb4', .inr ⟨91, k + 2, by rw [HDR.out, HD2.out]; exact clRead_esc _ _ _ _ HE.out, by decide, by omega, by omega, congrArg (fun z => Ending.returned (Value.tuple #[Value.int .i64 z, .nilIface])) (by decide +kernel), H4.out⟩⟩
            | exact ⟨hb4', .inr ⟨93, k + 2, by rw [HDR.out, HD2.out]; exact clRead_esc _ _ _ _ HE.out, by decide, by omega, by omega, congrArg (fun z => Ending.returned (Value.tuple #[Value.int .i64 z, .nilIface])) (by decide +kernel), H4.out⟩⟩
            | exact ⟨hb4', .inr ⟨92, k + 2, by rw [HDR.out, HD2.out]; exact clRead_esc _ _ _ _ HE.out, by decide, by omega, by omega, congrArg (fun z => Ending.returned (Value.tuple #[Value.int .i64 z, .nilIface])) (by decide +kernel), H4.out⟩⟩
            | exact ⟨hb4', .inr ⟨45, k + 2, by rw [HDR.out, HD2.out]; exact clRead_esc _ _ _ _ HE.out, by decide, by omega, by omega, congrArg (fun z => Ending.returned (Value.tuple #[Value.int .i64 z, .nilIface])) (by decide +kernel), H4.out⟩⟩
            | exact ⟨hb4', .inr ⟨94, k + 2, by rw [HDR.out, HD2.out]; exact clRead_esc _ _ _ _ HE.out, by decide, by omega, by omega, congrArg (fun z => Ending.returned (Value.tuple #[Value.int .i64 z, .nilIface])) (by decide +kernel), H4.out⟩⟩
      · rw [if_neg hi20] at h4
        have H4 := Lib.hid h4
        have he := e3 (by omega)
        have HE := Lib.hid he
        clear h4 e2 e3 hi2 he
        have hx := by8 (P := fun d => (0 ≤ Lib.indexByte [120] d ↔ d = 120)) esc_x d
        go_wp2_with fail
        refine (rd_pick b s (k + 1) [120] w4 H4.out (by omega) hn).mono ?_
        rintro e w5 ⟨rfl, h5, hb5⟩
        have hb5' : Rf b w w5 := hb4'.trans hb5
        rw [HD2.out, pk_cons] at h5 ⊢
        generalize hi3 : Lib.indexByte [120] d = i3 at h5 hx ⊢
        clear hi3
        by_cases hi30 : 0 ≤ i3
        · rw [if_pos hi30] at h5
          have hd := hx.1 hi30
          subst hd
          have H5 := Lib.hid h5
          clear h5 hx HE
          have hw5 : b < w5.heap.size := lt_of_block H5.out
          go_wp2_with fail
          refine (rd_pick b s (k + 1 + 1) [48, 49, 50, 51, 52, 53, 54, 55, 56, 57, 97, 98, 99, 100, 101, 102] w5 H5.out (by omega) hn).mono ?_
          rintro e w6 ⟨rfl, h6, hb6⟩
          have hb6' : Rf b w w6 := hb5'.trans hb6
          rcases drop_cases s (k + 1 + 1) (by omega) with ⟨hke, hdr⟩ | ⟨x, hl3, hdr, _⟩
          · rw [hdr, pk_nil] at h6 ⊢
            rw [if_neg (by decide)] at h6
            have H6 := Lib.hid h6
            have HD3 := Lib.hid hdr
            clear h6 hdr
            go_wp2_with fail
            refine (rd_wrong b s (k + 1 + 1) w6 H6.out (by omega) hn).mono ?_
            rintro e w7 ⟨v, rfl, hv, h7, hb7⟩
            have HV := Lib.hid hv
            clear hv h7
            go_wp2_with fail
            go_ret2
            exact sign_bad HD3.out HV.out hb6' hb7 (by have := hb6'.size; omega) (by rw [HDR.out, HD2.out, HD3.out]; exact clRead_x0 _)
          · rw [hdr, pk_cons] at h6 ⊢
            have hx1 := by8 (P := fun d => (0 ≤ Lib.indexByte [48, 49, 50, 51, 52, 53, 54, 55, 56, 57, 97, 98, 99, 100, 101, 102] d → Lib.indexByte [48, 49, 50, 51, 52, 53, 54, 55, 56, 57, 97, 98, 99, 100, 101, 102] d < 16 ∧ Mu.hexVal d = some (Lib.indexByte [48, 49, 50, 51, 52, 53, 54, 55, 56, 57, 97, 98, 99, 100, 101, 102] d).toNat) ∧ (Lib.indexByte [48, 49, 50, 51, 52, 53, 54, 55, 56, 57, 97, 98, 99, 100, 101, 102] d < 0 → Mu.hexVal d = none)) hex_idx x
            generalize hi4 : Lib.indexByte [48, 49, 50, 51, 52, 53, 54, 55, 56, 57, 97, 98, 99, 100, 101, 102] x = i4 at h6 hx1 ⊢
            clear hi4
            have HD3 := Lib.hid hdr
            clear hdr
            by_cases hi40 : 0 ≤ i4
            · rw [if_pos hi40] at h6
              obtain ⟨hi416, hv1⟩ := hx1.1 hi40
              have H6 := Lib.hid h6
              have HV1 := Lib.hid hv1
              clear h6 hx1 hv1
              go_wp2_with fail
              refine (rd_pick b s (k + 1 + 1 + 1) [48, 49, 50, 51, 52, 53, 54, 55, 56, 57, 97, 98, 99, 100, 101, 102] w6 H6.out (by omega) hn).mono ?_
              rintro e w7 ⟨rfl, h7, hb7⟩
              have hb7' : Rf b w w7 := hb6'.trans hb7
              rcases drop_cases s (k + 1 + 1 + 1) (by omega) with ⟨hke, hdr⟩ | ⟨y, hl4, hdr, _⟩
              · rw [hdr, pk_nil] at h7 ⊢
                rw [if_neg (by decide)] at h7
                have H7 := Lib.hid h7
                have HD4 := Lib.hid hdr
                clear h7 hdr
                go_wp2_with fail
                refine (rd_wrong b s (k + 1 + 1 + 1) w7 H7.out (by omega) hn).mono ?_
                rintro e w8 ⟨v, rfl, hv, h8, hb8⟩
                have HV := Lib.hid hv
                clear hv h8
                go_wp2_with fail
                go_ret2
                exact sign_bad HD4.out HV.out hb7' hb8 (by have := hb7'.size; omega) (by rw [HDR.out, HD2.out, HD3.out, HD4.out]; exact clRead_x2 _ _ _ HV1.out)
              · rw [hdr, pk_cons] at h7 ⊢
                have hx1 := by8 (P := fun d => (0 ≤ Lib.indexByte [48, 49, 50, 51, 52, 53, 54, 55, 56, 57, 97, 98, 99, 100, 101, 102] d → Lib.indexByte [48, 49, 50, 51, 52, 53, 54, 55, 56, 57, 97, 98, 99, 100, 101, 102] d < 16 ∧ Mu.hexVal d = some (Lib.indexByte [48, 49, 50, 51, 52, 53, 54, 55, 56, 57, 97, 98, 99, 100, 101, 102] d).toNat) ∧ (Lib.indexByte [48, 49, 50, 51, 52, 53, 54, 55, 56, 57, 97, 98, 99, 100, 101, 102] d < 0 → Mu.hexVal d = none)) hex_idx y
                generalize hi5 : Lib.indexByte [48, 49, 50, 51, 52, 53, 54, 55, 56, 57, 97, 98, 99, 100, 101, 102] y = i5 at h7 hx1 ⊢
                clear hi5
                have HD4 := Lib.hid hdr
                clear hdr
                by_cases hi50 : 0 ≤ i5
                · rw [if_pos hi50] at h7
                  obtain ⟨hi516, hv2⟩ := hx1.1 hi50
                  have H7 := Lib.hid h7
                  have HV2 := Lib.hid hv2
                  clear h7 hx1 hv2
                  go_wp2_with fail
                  go_ret2
                  have hval : 16 * i4 + i5 = ((16 * i4.toNat + i5.toNat : Nat) : Int) := by omega
                  exact ⟨hb7', .inr ⟨16 * i4.toNat + i5.toNat, k + 1 + 1 + 1 + 1, by rw [HDR.out, HD2.out, HD3.out, HD4.out]; exact clRead_x4 _ _ _ _ _ _ HV1.out HV2.out, by omega, by omega, by omega, congrArg (fun z => Ending.returned (Value.tuple #[Value.int .i64 z, .nilIface])) hval, H7.out⟩⟩
                · rw [if_neg hi50] at h7
                  have H7 := Lib.hid h7
                  have hv2 := hx1.2 (by omega)
                  have HV2 := Lib.hid hv2
                  clear h7 hx1 hv2
                  go_wp2_with fail
                  refine (rd_wrong b s (k + 1 + 1 + 1) w7 H7.out (by omega) hn).mono ?_
                  rintro e w8 ⟨v, rfl, hv, h8, hb8⟩
                  have HV := Lib.hid hv
                  clear hv h8
                  go_wp2_with fail
                  go_ret2
                  exact sign_bad HD4.out HV.out hb7' hb8 (by have := hb7'.size; omega) (by rw [HDR.out, HD2.out, HD3.out, HD4.out]; exact clRead_x3 _ _ _ _ _ HV1.out HV2.out)
            · rw [if_neg hi40] at h6
              have H6 := Lib.hid h6
              have hv1 := hx1.2 (by omega)
              have HV1 := Lib.hid hv1
              clear h6 hx1 hv1
              go_wp2_with fail
              refine (rd_wrong b s (k + 1 + 1) w6 H6.out (by omega) hn).mono ?_
              rintro e w7 ⟨v, rfl, hv, h7, hb7⟩
              have HV := Lib.hid hv
              clear hv h7
              go_wp2_with fail
              go_ret2
              exact sign_bad HD3.out HV.out hb6' hb7 (by have := hb6'.size; omega) (by rw [HDR.out, HD2.out, HD3.out]; exact clRead_x1 _ _ _ HV1.out)
        · rw [if_neg hi30] at h5
          have H5 := Lib.hid h5
          have hdx : d ≠ 120 := fun e => hi30 (hx.2 e)
          have HX := Lib.hid hdx
          clear h5 hx hdx
          go_wp2_with fail
          refine (rd_wrong b s (k + 1) w5 H5.out (by omega) hn).mono ?_
          rintro e w6 ⟨v, rfl, hv, h6, hb6⟩
          have HV := Lib.hid hv
          clear hv h6
          go_wp2_with fail
          go_ret2
          exact sign_bad HD2.out HV.out hb5' hb6 (by have := hb5'.size; omega) (by rw [HDR.out, HD2.out]; exact clRead_escBad _ _ _ HE.out HX.out)

end Go.Proofs.YtdmhjnnogcpccaaGreatDoor
end

section
namespace Go.Proofs.YtdmhjnnogcpccaaGreatDoor
open Go.RowKit
open Mu (Cl Bs Nd Ru Gr Tk)
set_option linter.unusedSimpArgs false
set_option linter.unusedVariables false

attribute [local irreducible] wpQuiet

set_option maxHeartbeats 2000000 in
set_option maxRecDepth 20000 in
theorem rd_sign_end (b : Nat) (s : Bs) (k : Nat) (w : World) (H : Hid (IsRd b s k w)) (hk : k ≤ s.length) (hn : s.length ≤ 100000) (hlt : b < w.heap.size) (hsz : (ba s).size = s.length) (hke : k = s.length) (HDR : Hid (s.drop k = [])) :
    Calls Tryz.prog 191 #[.pointer (some ⟨b, 0, none⟩)] w (SignEnd b s k w) := by
  subst hke
  go_enter Tryz.func191, Tryz.ntmps191
  go_wp2_with fail
  refine (rd_is b s _ 92 w H.out hk hn).mono ?_
  rintro e w1 ⟨rfl, h1, hb1⟩
  rw [HDR.out]
  obtain ⟨c0, c1, f1, hlt1⟩ := h1.cells
  have H1 := Lib.hid h1
  clear h1
  go_wp2_with fail
  go_quiet (fail)
  go_wp2_with fail
  refine (rd_wrong b s _ _ (H1.out.keep (by (repeat' (first | exact Below.refl _ _ | assumption | refine Below.drew ?_ | refine Below.drewN' ?_ _ | refine Below.setCell ?_ (by first | (simp; done) | omega | (simp; omega)) _ | refine Below.alloc ?_ (by first | (simp; done) | omega | (simp; omega)) _ | refine Below.step ?_ (by assumption) (by first | (simp; done) | omega | (simp; omega)))))) hk hn).mono ?_
  rintro e w2 ⟨v, rfl, hv, h2, hb2⟩
  have hs1 := hb1.size
  have HV := Lib.hid hv
  clear hv
  go_wp2_with fail
  go_ret2
  exact sign_bad (w1 := w1.drewN nq) HDR.out HV.out (Rf.of_below (hb1.trans (by (repeat' (first | exact Below.refl _ _ | assumption | refine Below.drew ?_ | refine Below.drewN' ?_ _ | refine Below.setCell ?_ (by first | (simp; done) | omega | (simp; omega)) _ | refine Below.alloc ?_ (by first | (simp; done) | omega | (simp; omega)) _ | refine Below.step ?_ (by assumption) (by first | (simp; done) | omega | (simp; omega)))))) (by omega)) hb2 (by simp; omega) (by rw [HDR.out]; exact clRead_nil _)

theorem rd_sign (b : Nat) (s : Bs) (k : Nat) (w : World) (h : IsRd b s k w) (hk : k ≤ s.length) (hn : s.length ≤ 100000) :
    Calls Tryz.prog 191 #[.pointer (some ⟨b, 0, none⟩)] w (SignEnd b s k w) := by
  have hlt := lt_of_block h
  have hsz : (ba s).size = s.length := rfl
  rcases drop_cases s k hk with ⟨hke, hdr⟩ | ⟨c, hl, hdr, hg⟩
  · exact rd_sign_end b s k w (Lib.hid h) hk hn hlt hsz hke (Lib.hid hdr)
  · have hg' : (ba s)[k] = c := hg hl
    by_cases hc : c = 92
    · subst hc
      exact rd_sign_esc b s k w (Lib.hid h) hk hn hlt hsz hl (Lib.hid hdr)
    · have hh : ((s.drop k).head? == some (92 : UInt8)) = false := by rw [hdr]; simp [hc]
      have hr' : Lib.indexByte [91, 93, 92, 45, 94] c.toNat.toUInt8 = Lib.indexByte [91, 93, 92, 45, 94] c := by simp
      have hm := by8 (P := fun c => 0 ≤ Lib.indexByte [91, 93, 92, 45, 94] c ↔ Mu.marked.contains c = true) marked_idx c
      by_cases g1 : c.toNat < 32
      · exact rd_sign_bad1 b s k w (Lib.hid h) hk hn hlt hsz c hl hg' (Lib.hid hh) (Lib.hid hdr) _ (Lib.hid hr') (Lib.hid (clRead_bad _ c _ hc (.inl (UInt8.lt_iff_toNat_lt.2 g1)))) (by omega) g1
      · by_cases g2 : 126 < c.toNat
        · exact rd_sign_bad2 b s k w (Lib.hid h) hk hn hlt hsz c hl hg' (Lib.hid hh) (Lib.hid hdr) _ (Lib.hid hr') (Lib.hid (clRead_bad _ c _ hc (.inr (.inl (UInt8.lt_iff_toNat_lt.2 g2))))) (by omega) g1 (by omega) g2
        · by_cases g3 : 0 ≤ Lib.indexByte [91, 93, 92, 45, 94] c
          · exact rd_sign_bad3 b s k w (Lib.hid h) hk hn hlt hsz c hl hg' (Lib.hid hh) (Lib.hid hdr) _ (Lib.hid hr') (Lib.hid (clRead_bad _ c _ hc (.inr (.inr (hm.1 g3))))) (by omega) g1 (by omega) g2 g3
          · refine rd_sign_good b s k w (Lib.hid h) hk hn hlt hsz c hl hg' (Lib.hid hh) (Lib.hid hdr) _ (Lib.hid hr') (Lib.hid (clRead_good _ c _ hc ?_)) (by omega) g1 (by omega) g2 (by omega)
            rintro (h1 | h1 | h1)
            · exact g1 (UInt8.lt_iff_toNat_lt.1 h1)
            · exact g2 (UInt8.lt_iff_toNat_lt.1 h1)
            · exact g3 (hm.2 h1)

/-! ### member -/

theorem clMember_bad1 (n : Nat) (s : Bs) (f : Mu.Flt) (h : Mu.clRead n s = .error f) : Mu.clMember n s = .error f := by simp [Mu.clMember, h]
theorem clMember_one (n : Nat) (s r : Bs) (lo : Nat) (h : Mu.clRead n s = .ok (lo, r)) (hr : r.head? ≠ some 45) : Mu.clMember n s = .ok (Mu.span lo lo, r) := by
  unfold Mu.clMember
  rw [h]
  match r, hr with
  | [], _ => simp
  | c :: q, hr =>
    have : c ≠ 45 := by intro e; subst e; simp at hr
    simp only
    split
    · rename_i heq
      split at heq
      · rename_i h2; simp at h2; exact absurd h2.1 this
      · cases heq
    · rename_i heq
      split at heq
      · rename_i h2; simp at h2; exact absurd h2.1 this
      · cases heq; simp
theorem clMember_bad2 (n : Nat) (s q : Bs) (lo : Nat) (f : Mu.Flt) (h : Mu.clRead n s = .ok (lo, 45 :: q)) (h2 : Mu.clRead n q = .error f) : Mu.clMember n s = .error f := by simp [Mu.clMember, h, h2]
theorem clMember_two (n : Nat) (s q r : Bs) (lo hi : Nat) (h : Mu.clRead n s = .ok (lo, 45 :: q)) (h2 : Mu.clRead n q = .ok (hi, r)) :
    Mu.clMember n s = if lo ≤ hi then .ok (Mu.span lo hi, r) else .error ⟨4, (n : Int) - s.length⟩ := by simp [Mu.clMember, h, h2]

theorem Rf.grow {b : Nat} {w w1 w2 : World} (h : Rf b w w1) (k : Below w.heap.size w1 w2) (hb : b ≤ w.heap.size) : Rf b w w2 :=
  ⟨h.below.trans (k.mono hb), fun j hj hne => (k.block j hj).trans (h.others j hj hne)⟩

/-- the cells of a box that holds a class -/
theorem box4 {w : World} {b : Nat} {x y z u : Value} {t : TypeId} (h : w.heap[b]? = some (.cells #[x, y, z, u] t)) :
    w.cell? ⟨b, 0, none⟩ = some x ∧ w.cell? ⟨b, 1, none⟩ = some y ∧ w.cell? ⟨b, 2, none⟩ = some z ∧ w.cell? ⟨b, 3, none⟩ = some u ∧
    w.frozen? ⟨b, 0, none⟩ = false ∧ w.frozen? ⟨b, 1, none⟩ = false ∧ w.frozen? ⟨b, 2, none⟩ = false ∧ w.frozen? ⟨b, 3, none⟩ = false ∧ b < w.heap.size :=
  ⟨cell_at h 0, cell_at h 1, cell_at h 2, cell_at h 3, unfrozen_at h 0, unfrozen_at h 1, unfrozen_at h 2, unfrozen_at h 3, lt_of_block h⟩

def MemberEnd (b : Nat) (s : Bs) (k : Nat) (w : World) (e : Ending) (w' : World) : Prop := Rf b w w' ∧
  ((∃ f v, Mu.clMember s.length (s.drop k) = .error f ∧ e = .returned (.tuple #[clv Cl.zero, v]) ∧ IsFlt w.heap.size v f w') ∨
   (∃ (c : Cl) (k' : Nat), Mu.clMember s.length (s.drop k) = .ok (c, s.drop k') ∧ k < k' ∧ k' ≤ s.length ∧ e = .returned (.tuple #[clv c, .nilIface]) ∧ IsRd b s k' w'))

theorem IsRd.other {b : Nat} {s : Bs} {k : Nat} {w : World} (h : IsRd b s k w) {g o : Nat} {v : Value} (hg : b ≠ g) : IsRd b s k (w.setCell ⟨g, o, none⟩ v) := by
  unfold IsRd
  rw [Below.heap_setCell _ _ _ _ hg]
  exact h

theorem memb_ok {b : Nat} {s : Bs} {k k' : Nat} {w w1 w2 : World} {c : Cl} (hR : Rf b w w1) (hb : b ≤ w.heap.size) (h2 : Below w.heap.size w1 w2) (hf : Mu.clMember s.length (s.drop k) = .ok (c, s.drop k')) (h3 : k < k') (h4 : k' ≤ s.length)
    (hv : IsRd b s k' w2) : MemberEnd b s k w (.returned (.tuple #[clv c, .nilIface])) w2 :=
  ⟨hR.grow h2 hb, .inr ⟨c, k', hf, h3, h4, rfl, hv⟩⟩

theorem memb_bad {b : Nat} {s : Bs} {k : Nat} {w w1 w2 : World} {v : Value} {f : Mu.Flt} (hR : Rf b w w1) (hb : b ≤ w.heap.size) (h2 : Below w.heap.size w1 w2) (h3 : w2.heap.size = w1.heap.size) (hf : Mu.clMember s.length (s.drop k) = .error f)
    (hv : IsFlt w.heap.size v f w2) : MemberEnd b s k w (.returned (.tuple #[clv Cl.zero, v])) w2 :=
  ⟨hR.grow h2 hb, .inl ⟨f, v, hf, rfl, hv⟩⟩

set_option maxHeartbeats 4000000 in
set_option maxRecDepth 20000 in
theorem rd_member (b : Nat) (s : Bs) (k : Nat) (w : World) (h : IsRd b s k w) (hk : k ≤ s.length) (hn : s.length ≤ 100000) :
    Calls Tryz.prog 178 #[.pointer (some ⟨b, 0, none⟩)] w (MemberEnd b s k w) := by
  obtain ⟨c0, c1, f1, hlt⟩ := h.cells
  have H := Lib.hid h
  clear h
  go_enter Tryz.func178, Tryz.ntmps178
  go_wp2_with fail
  refine (rd_sign b s k _ (H.out.keep (by (repeat' (first | exact Below.refl _ _ | assumption | refine Below.drew ?_ | refine Below.drewN' ?_ _ | refine Below.setCell ?_ (by first | (simp; done) | omega | (simp; omega)) _ | refine Below.alloc ?_ (by first | (simp; done) | omega | (simp; omega)) _ | refine Below.step ?_ (by assumption) (by first | (simp; done) | omega | (simp; omega)))))) hk hn).mono ?_
  rintro e w1 ⟨hb1, ⟨f, v, hf, rfl, hv⟩ | ⟨lo, k1, hlo, hlo2, hk1, hk1n, rfl, h1⟩⟩
  · obtain ⟨p, hp, rfl, hpc⟩ := hv
    have hbk := hb1.keep (last_block w _) (by omega)
    obtain ⟨q0, q1, q2, q3, z0, z1, z2, z3, hql⟩ := box4 hbk
    have hR : Rf b w w1 := Rf.trans (Rf.of_below (by (repeat' (first | exact Below.refl _ _ | assumption | refine Below.drew ?_ | refine Below.drewN' ?_ _ | refine Below.setCell ?_ (by first | (simp; done) | omega | (simp; omega)) _ | refine Below.alloc ?_ (by first | (simp; done) | omega | (simp; omega)) _ | refine Below.step ?_ (by assumption) (by first | (simp; done) | omega | (simp; omega))))) (by omega)) hb1
    have hmb := clMember_bad1 _ _ _ hf
    have HP := Lib.hid hpc
    have HMB := Lib.hid hmb
    have hpne : w.heap.size + 1 ≤ p := by simpa using hp
    clear hbk hb1 hf hpc hmb hp
    go_wp2_with fail
    refine bodyPost_ret (v := .tuple #[.agg #[.int .u64 0, .int .u64 0, .int .u64 0, .int .u64 0], .iface 83 (.pointer (some ⟨p, 0, none⟩))]) (by simp [results, Tryz.results178, go_sem, q0, q1, q2, q3]) rfl ?_
    refine memb_bad hR (by omega) (by (repeat' (first | exact Below.refl _ _ | assumption | refine Below.drew ?_ | refine Below.drewN' ?_ _ | refine Below.setCell ?_ (by first | (simp; done) | omega | (simp; omega)) _ | refine Below.alloc ?_ (by first | (simp; done) | omega | (simp; omega)) _ | refine Below.step ?_ (by assumption) (by first | (simp; done) | omega | (simp; omega))))) (by simp [World.setCell]) HMB.out ⟨p, by omega, rfl, ?_⟩
    rw [Below.heap_setCell _ _ _ _ (show p ≠ w.heap.size by omega), Below.heap_setCell _ _ _ _ (show p ≠ w.heap.size by omega), Below.heap_setCell _ _ _ _ (show p ≠ w.heap.size by omega), Below.heap_setCell _ _ _ _ (show p ≠ w.heap.size by omega)]
    exact HP.out
  · have hbk := hb1.keep (last_block w _) (by omega)
    obtain ⟨q0, q1, q2, q3, z0, z1, z2, z3, hql⟩ := box4 hbk
    have hR : Rf b w w1 := Rf.trans (Rf.of_below (by (repeat' (first | exact Below.refl _ _ | assumption | refine Below.drew ?_ | refine Below.drewN' ?_ _ | refine Below.setCell ?_ (by first | (simp; done) | omega | (simp; omega)) _ | refine Below.alloc ?_ (by first | (simp; done) | omega | (simp; omega)) _ | refine Below.step ?_ (by assumption) (by first | (simp; done) | omega | (simp; omega))))) (by omega)) hb1
    have HBK := Lib.hid hbk
    have H1 := Lib.hid h1
    have HLO := Lib.hid hlo
    clear hbk hb1 h1 hlo
    go_wp2_with fail
    refine (rd_is b s k1 45 w1 H1.out hk1n hn).mono ?_
    rintro e w2 ⟨rfl, h2, hb2⟩
    have hbk2 := (hb2.block _ hql).trans HBK.out
    have HBK2 := Lib.hid hbk2
    have hR2 : Rf b w w2 := hR.trans (Rf.of_below hb2 (by have := hR.size; omega))
    have H2 := Lib.hid h2
    clear hbk2 hb2 h2 HBK H1 q0 q1 q2 q3 z0 z1 z2 z3 hql
    by_cases hm : (s.drop k1).head? = some 45
    · have hm2 : ((s.drop k1).head? == some 45) = true := by rw [hm]; rfl
      rw [hm2]
      have hdr : k1 < s.length ∧ s.drop k1 = 45 :: s.drop (k1 + 1) := by
        rcases drop_cases s k1 hk1n with ⟨_, h0⟩ | ⟨c, hl, h0, _⟩
        · rw [h0] at hm; simp at hm
        · rw [h0] at hm
          simp at hm
          subst hm
          exact ⟨hl, h0⟩
      obtain ⟨hl1, hdr⟩ := hdr
      rw [hdr] at HLO
      obtain ⟨c0, c1, f1, hlt1⟩ := H2.out.cells
      have h3 : IsRd b s (k1 + 1) (w2.setCell ⟨b, 1, none⟩ (.int .i64 ((k1 : Int) + 1))) := IsRd.moved H2.out _ _ (by omega)
      have hR3 : Rf b w (w2.setCell ⟨b, 1, none⟩ (.int .i64 ((k1 : Int) + 1))) := hR2.trans (Rf.set _ _ _)
      have hbk3 := (Rf.set w2 1 (.int .i64 ((k1 : Int) + 1)) : Rf b _ _).keep HBK2.out (by omega)
      clear hm hm2 hdr
      go_wp2_with fail
      generalize w2.setCell ⟨b, 1, none⟩ (.int .i64 ((k1 : Int) + 1)) = w3 at h3 hR3 hbk3 ⊢
      have H3 := Lib.hid h3
      have HBK3 := Lib.hid hbk3
      clear h3 hbk3 c0 c1 f1 hlt1
      refine (rd_sign b s (k1 + 1) w3 H3.out (by omega) hn).mono ?_
      rintro e w4 ⟨hb4, ⟨f, v, hf, rfl, hv⟩ | ⟨hi, k2, hhi, hhi2, hk2, hk2n, rfl, h4⟩⟩
      · obtain ⟨p, hp, rfl, hpc⟩ := hv
        have hbk := hb4.keep HBK3.out (by omega)
        obtain ⟨q0, q1, q2, q3, z0, z1, z2, z3, hql⟩ := box4 hbk
        have hR4 : Rf b w w4 := hR3.trans hb4
        have hmb := clMember_bad2 _ _ _ _ _ HLO.out hf
        have HP := Lib.hid hpc
        have HMB := Lib.hid hmb
        have hpne : w.heap.size + 1 ≤ p := by
          have := lt_of_block HBK3.out
          omega
        clear hbk hb4 hf hpc hmb hp
        go_wp2_with fail
        refine bodyPost_ret (v := .tuple #[.agg #[.int .u64 0, .int .u64 0, .int .u64 0, .int .u64 0], .iface 83 (.pointer (some ⟨p, 0, none⟩))]) (by simp [results, Tryz.results178, go_sem, q0, q1, q2, q3]) rfl ?_
        refine memb_bad hR4 (by omega) (by (repeat' (first | exact Below.refl _ _ | assumption | refine Below.drew ?_ | refine Below.drewN' ?_ _ | refine Below.setCell ?_ (by first | (simp; done) | omega | (simp; omega)) _ | refine Below.alloc ?_ (by first | (simp; done) | omega | (simp; omega)) _ | refine Below.step ?_ (by assumption) (by first | (simp; done) | omega | (simp; omega))))) (by simp [World.setCell]) HMB.out ⟨p, by omega, rfl, ?_⟩
        rw [Below.heap_setCell _ _ _ _ (show p ≠ w.heap.size by omega), Below.heap_setCell _ _ _ _ (show p ≠ w.heap.size by omega), Below.heap_setCell _ _ _ _ (show p ≠ w.heap.size by omega), Below.heap_setCell _ _ _ _ (show p ≠ w.heap.size by omega)]
        exact HP.out
      · have hbk4 := hb4.keep HBK3.out (by omega)
        have HBK4 := Lib.hid hbk4
        have hR4 : Rf b w w4 := hR3.trans hb4
        have H4 := Lib.hid h4
        have hcm := clMember_two _ _ _ _ _ _ HLO.out hhi
        have hdl : (s.drop k).length = s.length - k := by simp
        obtain ⟨q0, q1, q2, q3, z0, z1, z2, z3, hql⟩ := box4 hbk4
        by_cases hle : lo ≤ hi
        · rw [if_pos hle] at hcm
          have HCM := Lib.hid hcm
          clear hbk4 hb4 h4 hcm hhi q0 q1 q2 q3 z0 z1 z2 z3
          go_wp2_with fail
          refine (class_span (lo : Int) (hi : Int) w4 (by omega) (by omega) (by omega) (by omega)).mono ?_
          rintro e w5 ⟨rfl, hb5⟩
          obtain ⟨q0, q1, q2, q3, z0, z1, z2, z3, hql⟩ := box4 ((hb5.block _ hql).trans HBK4.out)
          have hR5 : Rf b w w5 := hR4.trans (Rf.of_below hb5 (by have := hR4.size; omega))
          have H5 := Lib.hid (H4.out.keep hb5)
          generalize Mu.span (lo : Int) (hi : Int) = sp at HCM ⊢
          clear hb5
          go_wp2_with fail
          refine bodyPost_ret (v := .tuple #[clv sp, .nilIface]) (by simp [results, Tryz.results178, go_sem, q0, q1, q2, q3]) rfl ?_
          exact memb_ok hR5 (by omega) (by (repeat' (first | exact Below.refl _ _ | assumption | refine Below.drew ?_ | refine Below.drewN' ?_ _ | refine Below.setCell ?_ (by first | (simp; done) | omega | (simp; omega)) _ | refine Below.alloc ?_ (by first | (simp; done) | omega | (simp; omega)) _ | refine Below.step ?_ (by assumption) (by first | (simp; done) | omega | (simp; omega))))) HCM.out (by omega) hk2n ((((H5.out.other (by omega)).other (by omega)).other (by omega)).other (by omega))
        · rw [if_neg hle, hdl] at hcm
          have hkk : (s.length : Int) - ((s.length - k : Nat) : Int) = (k : Int) := by omega
          rw [hkk] at hcm
          have HCM := Lib.hid hcm
          clear hbk4 hb4 h4 hcm hhi
          go_wp2_with fail
          have hW : ((((w4.setCell ⟨w.heap.size, 0, none⟩ (.int .u64 0)).setCell ⟨w.heap.size, 1, none⟩ (.int .u64 0)).setCell ⟨w.heap.size, 2, none⟩ (.int .u64 0)).setCell ⟨w.heap.size, 3, none⟩ (.int .u64 0)).heap[w.heap.size]? = some (.cells #[.int .u64 0, .int .u64 0, .int .u64 0, .int .u64 0] 27) := by
            rw [block_set (block_set (block_set (block_set HBK4.out _) _) _) _]
            rfl
          have hA := (Below.heap_alloc _ (.cells #[.int .i64 4, .int .i64 (k : Int)] 86) _ (lt_of_block hW)).trans hW
          obtain ⟨p0, p1, p2, p3, _⟩ := box4 hA
          refine bodyPost_ret (v := .tuple #[.agg #[.int .u64 0, .int .u64 0, .int .u64 0, .int .u64 0], .iface 83 (.pointer (some ⟨w4.heap.size, 0, none⟩))]) (by simp [results, Tryz.results178, go_sem, p0, p1, p2, p3]) rfl ?_
          refine ⟨hR4.grow (by (repeat' (first | exact Below.refl _ _ | assumption | refine Below.drew ?_ | refine Below.drewN' ?_ _ | refine Below.setCell ?_ (by first | (simp; done) | omega | (simp; omega)) _ | refine Below.alloc ?_ (by first | (simp; done) | omega | (simp; omega)) _ | refine Below.step ?_ (by assumption) (by first | (simp; done) | omega | (simp; omega))))) (by omega), .inl ⟨_, _, HCM.out, rfl, ⟨_, by omega, rfl, ?_⟩⟩⟩
          have := last_block ((((w4.setCell ⟨w.heap.size, 0, none⟩ (.int .u64 0)).setCell ⟨w.heap.size, 1, none⟩ (.int .u64 0)).setCell ⟨w.heap.size, 2, none⟩ (.int .u64 0)).setCell ⟨w.heap.size, 3, none⟩ (.int .u64 0)) (.cells #[.int .i64 4, .int .i64 (k : Int)] 86)
          simpa [World.setCell] using this
    · have hm2 : ((s.drop k1).head? == some 45) = false := by simpa using hm
      rw [hm2]
      have hcm := clMember_one _ _ _ _ HLO.out hm
      have HCM := Lib.hid hcm
      obtain ⟨q0, q1, q2, q3, z0, z1, z2, z3, hql⟩ := box4 HBK2.out
      clear hm hm2 hcm
      go_wp2_with fail
      refine (class_span (lo : Int) (lo : Int) w2 (by omega) (by omega) (by omega) (by omega)).mono ?_
      rintro e w3 ⟨rfl, hb3⟩
      obtain ⟨q0, q1, q2, q3, z0, z1, z2, z3, hql⟩ := box4 ((hb3.block _ hql).trans HBK2.out)
      have hR3 : Rf b w w3 := hR2.trans (Rf.of_below hb3 (by have := hR2.size; omega))
      have H3 := Lib.hid (H2.out.keep hb3)
      generalize Mu.span (lo : Int) (lo : Int) = sp at HCM ⊢
      clear hb3
      go_wp2_with fail
      refine bodyPost_ret (v := .tuple #[clv sp, .nilIface]) (by simp [results, Tryz.results178, go_sem, q0, q1, q2, q3]) rfl ?_
      exact memb_ok hR3 (by omega) (by (repeat' (first | exact Below.refl _ _ | assumption | refine Below.drew ?_ | refine Below.drewN' ?_ _ | refine Below.setCell ?_ (by first | (simp; done) | omega | (simp; omega)) _ | refine Below.alloc ?_ (by first | (simp; done) | omega | (simp; omega)) _ | refine Below.step ?_ (by assumption) (by first | (simp; done) | omega | (simp; omega))))) HCM.out hk1 hk1n ((((H3.out.other (by omega)).other (by omega)).other (by omega)).other (by omega))

end Go.Proofs.YtdmhjnnogcpccaaGreatDoor
end

section
namespace Go.Proofs.YtdmhjnnogcpccaaGreatDoor
open Go.RowKit
open Mu (Cl Bs Nd Ru Gr Tk)
set_option linter.unusedSimpArgs false
set_option linter.unusedVariables false

attribute [local irreducible] wpQuiet wpStill

theorem clMembers_close (n j : Nat) (c : Cl) (r : Bs) : Mu.clMembers n (j + 1) c (93 :: r) = .ok (c, r) := rfl

theorem clMembers_step (n j : Nat) (c : Cl) (s : Bs) (h : s.head? ≠ some 93) : Mu.clMembers n (j + 1) c s = match Mu.clMember n s with
    | .error e => .error e
    | .ok (m, r) => Mu.clMembers n j (Mu.either c m) r := by
  match s, h with
  | [], _ => rfl
  | d :: r, h =>
    have : d ≠ 93 := by intro e; subst e; simp at h
    simp only [Mu.clMembers]
    split
    · rename_i h2; simp at h2; exact absurd h2.1 this
    · rfl

theorem idx_one (a : UInt8) (d : UInt8) : (0 ≤ Lib.indexByte [a] d ↔ d = a) := by
  by_cases h : d = a
  · subst h; simp [Lib.indexByte]
  · have := idx_none d [a] (by simpa using h)
    rw [this]
    simp [h]

theorem pk_one (a : UInt8) (s : Bs) : (0 ≤ pk [a] s ↔ s.head? = some a) := by
  match s with
  | [] => simp [pk]
  | d :: r => simp [pk, idx_one]

/-- a block that holds a class -/
def IsBox (b : Nat) (c : Cl) (w : World) : Prop := w.heap[b]? = some (.cells #[.int .u64 (c.a.toNat : Int), .int .u64 (c.b.toNat : Int), .int .u64 (c.c.toNat : Int), .int .u64 (c.d.toNat : Int)] 27)

theorem IsBox.four {b : Nat} {c : Cl} {w : World} (h : IsBox b c w) : w.cell? ⟨b, 0, none⟩ = some (.int .u64 (c.a.toNat : Int)) ∧ w.cell? ⟨b, 1, none⟩ = some (.int .u64 (c.b.toNat : Int)) ∧ w.cell? ⟨b, 2, none⟩ = some (.int .u64 (c.c.toNat : Int)) ∧ w.cell? ⟨b, 3, none⟩ = some (.int .u64 (c.d.toNat : Int)) ∧
    w.frozen? ⟨b, 0, none⟩ = false ∧ w.frozen? ⟨b, 1, none⟩ = false ∧ w.frozen? ⟨b, 2, none⟩ = false ∧ w.frozen? ⟨b, 3, none⟩ = false ∧ b < w.heap.size := box4 h

theorem IsBox.put {b : Nat} {c : Cl} {w : World} (h : IsBox b c w) (x y z u : Value) (d : Cl) (hx : x = .int .u64 (d.a.toNat : Int)) (hy : y = .int .u64 (d.b.toNat : Int)) (hz : z = .int .u64 (d.c.toNat : Int)) (hu : u = .int .u64 (d.d.toNat : Int)) :
    IsBox b d ((((w.setCell ⟨b, 0, none⟩ x).setCell ⟨b, 1, none⟩ y).setCell ⟨b, 2, none⟩ z).setCell ⟨b, 3, none⟩ u) := by
  subst hx hy hz hu
  unfold IsBox
  rw [block_set (block_set (block_set (block_set h _) _) _) _]
  rfl

theorem IsBox.rest {b : Nat} {c : Cl} {w w' : World} (h : IsBox b c w) (hw : w'.heap[b]? = w.heap[b]?) : IsBox b c w' := hw.trans h

theorem four_other (w : World) (b g : Nat) (x y z u : Value) (h : g ≠ b) : ((((w.setCell ⟨b, 0, none⟩ x).setCell ⟨b, 1, none⟩ y).setCell ⟨b, 2, none⟩ z).setCell ⟨b, 3, none⟩ u).heap[g]? = w.heap[g]? := by
  rw [Below.heap_setCell _ _ _ _ h, Below.heap_setCell _ _ _ _ h, Below.heap_setCell _ _ _ _ h, Below.heap_setCell _ _ _ _ h]

theorem four_size (w : World) (b : Nat) (x y z u : Value) : ((((w.setCell ⟨b, 0, none⟩ x).setCell ⟨b, 1, none⟩ y).setCell ⟨b, 2, none⟩ z).setCell ⟨b, 3, none⟩ u).heap.size = w.heap.size := by simp [World.setCell]

def ParseEnd (s : Bs) (w : World) (e : Ending) (w' : World) : Prop := Below w.heap.size w w' ∧
  ((∃ f v, Mu.clParse s = .error f ∧ e = .returned (.tuple #[clv Cl.zero, .int .i64 0, v]) ∧ IsFlt w.heap.size v f w') ∨
   (∃ (c : Cl) (n : Nat), Mu.clParse s = .ok (c, n) ∧ n ≤ s.length ∧ e = .returned (.tuple #[clv c, .int .i64 (n : Int), .nilIface])))

theorem clParse_eq (r : Bs) : Mu.clParse (91 :: r) = match Mu.clMembers (r.length + 1) (r.length + 1 + 1) Cl.zero (if r.head? = some 94 then r.drop 1 else r) with
    | .error e => .error e
    | .ok (c, z) => .ok (if r.head? = some 94 then Mu.clNot c else c, (r.length + 1) - z.length) := by
  match r with
  | [] => rfl
  | d :: q =>
    by_cases h : d = 94
    · subst h; rfl
    · have hb : (match d :: q with | 94 :: _ => true | _ => false) = false := by
        split
        · rename_i h2; simp at h2; exact absurd h2.1 h
        · rfl
      simp only [Mu.clParse, hb, List.length_cons]
      simp [h]
      generalize Mu.clMembers (q.length + 1 + 1) (q.length + 1 + 1 + 1) Cl.zero (d :: q) = z
      cases z <;> rfl

set_option maxHeartbeats 4000000 in
set_option maxRecDepth 20000 in
theorem class_parse (s r : Bs) (hs : s = 91 :: r) (hn : s.length ≤ 100000) (w : World) :
    Calls Tryz.prog 152 #[.string (ba s)] w (ParseEnd s w) := by
  have HS := Lib.hid hs
  have hsl : 1 ≤ s.length := by rw [hs]; simp
  clear hs
  go_enter Tryz.func152, Tryz.ntmps152
  go_wp2_with fail
  have hb0 : IsBox w.heap.size Cl.zero (((w.alloc (.cells #[.int .u64 0, .int .u64 0, .int .u64 0, .int .u64 0] 27)).alloc (.cells #[.int .u64 0, .int .u64 0, .int .u64 0, .int .u64 0] 27)).alloc (.cells #[.string (ba s), .int .i64 0] 241)) := by
    unfold IsBox
    rw [Below.heap_alloc _ _ _ (by simp; omega), Below.heap_alloc _ _ _ (by simp)]
    exact last_block _ _
  have hb1 : IsBox (w.heap.size + 1) Cl.zero (((w.alloc (.cells #[.int .u64 0, .int .u64 0, .int .u64 0, .int .u64 0] 27)).alloc (.cells #[.int .u64 0, .int .u64 0, .int .u64 0, .int .u64 0] 27)).alloc (.cells #[.string (ba s), .int .i64 0] 241)) := by
    unfold IsBox
    rw [Below.heap_alloc _ _ _ (by simp)]
    have := last_block (w.alloc (.cells #[.int .u64 0, .int .u64 0, .int .u64 0, .int .u64 0] 27)) (.cells #[.int .u64 0, .int .u64 0, .int .u64 0, .int .u64 0] 27)
    simp only [World.size_alloc] at this
    exact this
  have hr0 : IsRd (w.heap.size + 1 + 1) s 0 (((w.alloc (.cells #[.int .u64 0, .int .u64 0, .int .u64 0, .int .u64 0] 27)).alloc (.cells #[.int .u64 0, .int .u64 0, .int .u64 0, .int .u64 0] 27)).alloc (.cells #[.string (ba s), .int .i64 0] 241)) := by
    have := last_block ((w.alloc (.cells #[.int .u64 0, .int .u64 0, .int .u64 0, .int .u64 0] 27)).alloc (.cells #[.int .u64 0, .int .u64 0, .int .u64 0, .int .u64 0] 27)) (.cells #[.string (ba s), .int .i64 0] 241)
    simp only [World.size_alloc] at this
    exact this
  have hB : Below w.heap.size w (((w.alloc (.cells #[.int .u64 0, .int .u64 0, .int .u64 0, .int .u64 0] 27)).alloc (.cells #[.int .u64 0, .int .u64 0, .int .u64 0, .int .u64 0] 27)).alloc (.cells #[.string (ba s), .int .i64 0] 241)) := by (repeat' (first | exact Below.refl _ _ | assumption | refine Below.drew ?_ | refine Below.drewN' ?_ _ | refine Below.setCell ?_ (by first | (simp; done) | omega | (simp; omega)) _ | refine Below.alloc ?_ (by first | (simp; done) | omega | (simp; omega)) _ | refine Below.step ?_ (by assumption) (by first | (simp; done) | omega | (simp; omega))))
  generalize (((w.alloc (.cells #[.int .u64 0, .int .u64 0, .int .u64 0, .int .u64 0] 27)).alloc (.cells #[.int .u64 0, .int .u64 0, .int .u64 0, .int .u64 0] 27)).alloc (.cells #[.string (ba s), .int .i64 0] 241)) = w0 at hb0 hb1 hr0 hB ⊢
  refine (rd_pick (w.heap.size + 1 + 1) s 0 [91] w0 hr0 (by omega) hn).mono ?_
  rintro e w1 ⟨rfl, hr1, hR1⟩
  have hp1 : pk [91] (s.drop 0) = 0 := by rw [HS.out]; rfl
  rw [hp1] at hr1 ⊢
  rw [if_pos (by decide)] at hr1
  have hb0' := hb0.rest (hR1.others _ (lt_of_block hb0) (by omega))
  have hb1' := hb1.rest (hR1.others _ (lt_of_block hb1) (by omega))
  have HR1 := Lib.hid hr1
  have HB0 := Lib.hid hb0'
  have HB1 := Lib.hid hb1'
  have hBw1 : Below w.heap.size w w1 := hB.trans (hR1.below.mono (by omega))
  clear hb0 hb1 hr0 hB hR1 hr1 hb0' hb1' hp1
  go_wp2_with fail
  refine (rd_pick (w.heap.size + 1 + 1) s 1 [94] w1 HR1.out (by omega) hn).mono ?_
  rintro e w2 ⟨rfl, hr2, hR2⟩
  have hb0' := HB0.out.rest (hR2.others _ (lt_of_block HB0.out) (by omega))
  have hb1' := HB1.out.rest (hR2.others _ (lt_of_block HB1.out) (by omega))
  have HC0 := Lib.hid hb0'
  have HC1 := Lib.hid hb1'
  have hBw2 : Below w.heap.size w w2 := hBw1.trans (hR2.below.mono (by omega))
  have hd1 : s.drop 1 = r := by rw [HS.out]; rfl
  have hneg := pk_one 94 (s.drop 1)
  have hpeq := clParse_eq r
  have hrl : r.length + 1 = s.length := by rw [HS.out]; rfl
  rw [hrl, ← HS.out] at hpeq
  rw [hd1] at hneg hr2 ⊢
  have h94 : r.head? = some 94 → 1 + 1 ≤ s.length := by
    intro h
    match r, h with
    | _ :: _, _ => simp at hrl; omega
  generalize hp : pk [94] r = p at hneg hr2 ⊢
  have hk0 : ∃ k0, IsRd (w.heap.size + 1 + 1) s k0 w2 ∧ k0 ≤ s.length ∧ (if r.head? = some 94 then r.drop 1 else r) = s.drop k0 := by
    by_cases h : 0 ≤ p
    · rw [if_pos h] at hr2
      rw [if_pos (hneg.1 h)]
      exact ⟨_, hr2, h94 (hneg.1 h), by rw [← hd1, List.drop_drop]⟩
    · rw [if_neg h] at hr2
      rw [if_neg (fun e => h (hneg.2 e))]
      exact ⟨_, hr2, hsl, hd1.symm⟩
  obtain ⟨k0, hr3, hk0n, hq⟩ := hk0
  rw [hq] at hpeq
  generalize hRES : Mu.clMembers s.length (s.length + 1) Cl.zero (s.drop k0) = RES at hpeq
  have HR2 := Lib.hid hr3
  have HPEQ := Lib.hid hpeq
  have HRES := Lib.hid hRES
  have HNEG := Lib.hid hneg
  clear hr2 hb0' hb1' hR2 HB0 HB1 HR1 hBw1 hd1 hrl h94 hp hr3 hq hpeq hRES hneg
  go_wp2_with fail
  go_loopw [] (fun wr => ∃ (k j : Nat) (c : Cl), k ≤ s.length ∧ s.length < j + k ∧ IsRd (w.heap.size + 1 + 1) s k wr ∧ IsBox w.heap.size Cl.zero wr ∧ IsBox (w.heap.size + 1) c wr ∧ Below w.heap.size w wr ∧ Mu.clMembers s.length j c (s.drop k) = RES) (fun wr => s.length - (intOf ((wr.cell? ⟨w.heap.size + 1 + 1, 1, none⟩).getD .nilIface)).toNat)
  case atStart => exact ⟨k0, s.length + 1, Cl.zero, hk0n, by omega, HR2.out, HC0.out, HC1.out, hBw2, HRES.out⟩
  case round =>
    obtain ⟨k, j, c, hk, hj, hr, hx0, hx1, hBw, hres⟩ := hrel
    have hms : intOf ((wr.cell? ⟨w.heap.size + 1 + 1, 1, none⟩).getD .nilIface) = (k : Int) := by rw [hr.cells.2.1]; rfl
    have HMS := Lib.hid hms
    have HX0 := Lib.hid hx0
    have HX1 := Lib.hid hx1
    have HR := Lib.hid hr
    have HRS := Lib.hid hres
    have hpk := pk_one 93 (s.drop k)
    clear hms hx0 hx1 hr hres HC0 HC1 HR2 HRES hBw2
    by_cases h93 : (s.drop k).head? = some 93
    · have hkl : k < s.length ∧ s.drop k = 93 :: s.drop (k + 1) := by
        rcases drop_cases s k hk with ⟨_, h0⟩ | ⟨c, hl, h0, _⟩
        · rw [h0] at h93; simp at h93
        · rw [h0] at h93
          simp at h93
          subst h93
          exact ⟨hl, h0⟩
      obtain ⟨hkl, hdr⟩ := hkl
      have hp0 := hpk.2 h93
      obtain ⟨j', rfl⟩ : ∃ j', j = j' + 1 := ⟨j - 1, by omega⟩
      have hres := HRS.out
      rw [hdr, clMembers_close] at hres
      have hfin := HPEQ.out
      rw [← hres] at hfin
      simp only at hfin
      have hlen : s.length - (s.drop (k + 1)).length = k + 1 := by simp; omega
      rw [hlen] at hfin
      have HFIN := Lib.hid hfin
      clear hres hfin hlen HRS HPEQ h93 hdr hpk
      go_wp2_with fail
      refine (rd_pick (w.heap.size + 1 + 1) s k [93] wr HR.out hk hn).mono ?_
      rintro e w3 ⟨rfl, hr3, hR3⟩
      rw [if_pos hp0] at hr3
      generalize pk [93] (s.drop k) = p3 at hp0 ⊢
      have hx0 := HX0.out.rest (hR3.others _ (lt_of_block HX0.out) (by omega))
      have hx1 := HX1.out.rest (hR3.others _ (lt_of_block HX1.out) (by omega))
      have hBw3 : Below w.heap.size w w3 := hBw.trans (hR3.below.mono (by omega))
      clear HX0 HX1 HR hR3
      generalize hm : k + 1 = m at hr3 HFIN
      have hmn : m ≤ s.length := by omega
      clear hm
      by_cases hg : 0 ≤ p
      · have hif : (if r.head? = some 94 then Mu.clNot c else c) = Mu.clNot c := if_pos (HNEG.out.1 hg)
        rw [hif] at HFIN
        have HX0 := Lib.hid hx0
        obtain ⟨q0, q1, q2, q3, z0, z1, z2, z3, hql⟩ := hx1.four
        have HX1 := Lib.hid hx1
        have HR3 := Lib.hid hr3
        clear hx0 hx1 hr3 hif
        go_wp2_with fail
        refine (class_not c w3).mono ?_
        rintro e w4 ⟨rfl, hb4⟩
        have hx0 := HX0.out.rest (hb4.block _ (lt_of_block HX0.out))
        have hx1 := HX1.out.rest (hb4.block _ (lt_of_block HX1.out))
        obtain ⟨q0, q1, q2, q3, z0, z1, z2, z3, hql⟩ := hx1.four
        have hr4 := HR3.out.keep hb4
        have HX0' := Lib.hid hx0
        have HX1' := Lib.hid hx1
        have HR4 := Lib.hid hr4
        have hBw4 : Below w.heap.size w w4 := hBw3.trans (hb4.mono (by have := lt_of_block HX0.out; omega))
        generalize Mu.clNot c = d at HFIN ⊢
        clear hx0 hx1 hr4 hb4 hBw3 HX0 HX1 HR3
        go_wp2_with fail
        have hx1 := HX1'.out.put (.int .u64 (d.a.toNat : Int)) (.int .u64 (d.b.toNat : Int)) (.int .u64 (d.c.toNat : Int)) (.int .u64 (d.d.toNat : Int)) d rfl rfl rfl rfl
        have hx0 := HX0'.out.rest (four_other w4 (w.heap.size + 1) w.heap.size (.int .u64 (d.a.toNat : Int)) (.int .u64 (d.b.toNat : Int)) (.int .u64 (d.c.toNat : Int)) (.int .u64 (d.d.toNat : Int)) (by omega))
        have hr5 : IsRd (w.heap.size + 1 + 1) s m _ := (four_other w4 (w.heap.size + 1) (w.heap.size + 1 + 1) (.int .u64 (d.a.toNat : Int)) (.int .u64 (d.b.toNat : Int)) (.int .u64 (d.c.toNat : Int)) (.int .u64 (d.d.toNat : Int)) (by omega)).trans HR4.out
        have hBw5 : Below w.heap.size w ((((w4.setCell ⟨w.heap.size + 1, 0, none⟩ (.int .u64 (d.a.toNat : Int))).setCell ⟨w.heap.size + 1, 1, none⟩ (.int .u64 (d.b.toNat : Int))).setCell ⟨w.heap.size + 1, 2, none⟩ (.int .u64 (d.c.toNat : Int))).setCell ⟨w.heap.size + 1, 3, none⟩ (.int .u64 (d.d.toNat : Int))) := by (repeat' (first | exact Below.refl _ _ | assumption | refine Below.drew ?_ | refine Below.drewN' ?_ _ | refine Below.setCell ?_ (by first | (simp; done) | omega | (simp; omega)) _ | refine Below.alloc ?_ (by first | (simp; done) | omega | (simp; omega)) _ | refine Below.step ?_ (by assumption) (by first | (simp; done) | omega | (simp; omega))))
        generalize (((w4.setCell ⟨w.heap.size + 1, 0, none⟩ (.int .u64 (d.a.toNat : Int))).setCell ⟨w.heap.size + 1, 1, none⟩ (.int .u64 (d.b.toNat : Int))).setCell ⟨w.heap.size + 1, 2, none⟩ (.int .u64 (d.c.toNat : Int))).setCell ⟨w.heap.size + 1, 3, none⟩ (.int .u64 (d.d.toNat : Int)) = w5 at hx1 hx0 hr5 hBw5 ⊢
        clear q0 q1 q2 q3 z0 z1 z2 z3 hql hBw4 HX0' HX1' HR4
        obtain ⟨p0, p1, p2, p3, y0, y1, y2, y3, hpl⟩ := hx0.four
        obtain ⟨q0, q1, q2, q3, z0, z1, z2, z3, hql⟩ := hx1.four
        obtain ⟨c0, c1, f1, hlt⟩ := hr5.cells
        go_region
        all_goals
          go_wp2_with fail
          refine bodyPost_ret (v := .tuple #[clv d, .int .i64 (m : Int), .nilIface]) (by simp [results, Tryz.results152, go_sem, p0, p1, p2, p3]) rfl ?_
          exact ⟨by (repeat' (first | exact Below.refl _ _ | assumption | refine Below.drew ?_ | refine Below.drewN' ?_ _ | refine Below.setCell ?_ (by first | (simp; done) | omega | (simp; omega)) _ | refine Below.alloc ?_ (by first | (simp; done) | omega | (simp; omega)) _ | refine Below.step ?_ (by assumption) (by first | (simp; done) | omega | (simp; omega)))), .inr ⟨d, m, HFIN.out, hmn, rfl⟩⟩
      · have hif : (if r.head? = some 94 then Mu.clNot c else c) = c := if_neg (fun e => hg (HNEG.out.2 e))
        rw [hif] at HFIN
        obtain ⟨p0, p1, p2, p3, y0, y1, y2, y3, hpl⟩ := hx0.four
        obtain ⟨q0, q1, q2, q3, z0, z1, z2, z3, hql⟩ := hx1.four
        obtain ⟨c0, c1, f1, hlt⟩ := hr3.cells
        clear hx0 hx1 hr3 hif
        go_wp2_with fail
        go_region
        all_goals
          go_wp2_with fail
          refine bodyPost_ret (v := .tuple #[clv c, .int .i64 (m : Int), .nilIface]) (by simp [results, Tryz.results152, go_sem, p0, p1, p2, p3]) rfl ?_
          exact ⟨by (repeat' (first | exact Below.refl _ _ | assumption | refine Below.drew ?_ | refine Below.drewN' ?_ _ | refine Below.setCell ?_ (by first | (simp; done) | omega | (simp; omega)) _ | refine Below.alloc ?_ (by first | (simp; done) | omega | (simp; omega)) _ | refine Below.step ?_ (by assumption) (by first | (simp; done) | omega | (simp; omega)))), .inr ⟨c, m, HFIN.out, hmn, rfl⟩⟩
    · have hp0 : pk [93] (s.drop k) < 0 := by
        have : ¬ 0 ≤ pk [93] (s.drop k) := fun e => h93 (hpk.1 e)
        omega
      obtain ⟨j', rfl⟩ : ∃ j', j = j' + 1 := ⟨j - 1, by omega⟩
      have hres := HRS.out
      rw [clMembers_step _ _ _ _ h93] at hres
      have HRS2 := Lib.hid hres
      clear hres HRS hpk h93
      go_wp2_with fail
      refine (rd_pick (w.heap.size + 1 + 1) s k [93] wr HR.out hk hn).mono ?_
      rintro e w3 ⟨rfl, hr3, hR3⟩
      rw [if_neg (by omega)] at hr3
      generalize pk [93] (s.drop k) = p3 at hp0 ⊢
      have hx0 := HX0.out.rest (hR3.others _ (lt_of_block HX0.out) (by omega))
      have hx1 := HX1.out.rest (hR3.others _ (lt_of_block HX1.out) (by omega))
      have hBw3 : Below w.heap.size w w3 := hBw.trans (hR3.below.mono (by omega))
      have HY0 := Lib.hid hx0
      have HY1 := Lib.hid hx1
      have HR3 := Lib.hid hr3
      clear HX0 HX1 HR hR3 hx0 hx1 hr3
      go_wp2_with fail
      refine (rd_member (w.heap.size + 1 + 1) s k w3 HR3.out hk hn).mono ?_
      rintro e w4 ⟨hR4, ⟨f, v, hf, rfl, hv⟩ | ⟨m, k', hm, hk', hk'n, rfl, hr4⟩⟩
      · obtain ⟨fp, hfp, rfl, hfpc⟩ := hv
        have hx0 := HY0.out.rest (hR4.others _ (lt_of_block HY0.out) (by omega))
        have hres := HRS2.out
        rw [hf] at hres
        simp only at hres
        have hfin := HPEQ.out
        rw [← hres] at hfin
        simp only at hfin
        have HFIN := Lib.hid hfin
        have HFP := Lib.hid hfpc
        obtain ⟨p0, p1, p2, p3, y0, y1, y2, y3, hpl⟩ := hx0.four
        have hBw4 : Below w.heap.size w w4 := hBw3.trans (hR4.below.mono (by omega))
        have hlt4 : fp < w4.heap.size := lt_of_block hfpc
        have h03 := lt_of_block HY0.out
        have hW := hx0.put (.int .u64 0) (.int .u64 0) (.int .u64 0) (.int .u64 0) Cl.zero rfl rfl rfl rfl
        have hA : IsBox w.heap.size Cl.zero (((((w4.setCell ⟨w.heap.size, 0, none⟩ (.int .u64 0)).setCell ⟨w.heap.size, 1, none⟩ (.int .u64 0)).setCell ⟨w.heap.size, 2, none⟩ (.int .u64 0)).setCell ⟨w.heap.size, 3, none⟩ (.int .u64 0)).alloc (.cells #[.int .u64 (Cl.zero.a.toNat : Int), .int .u64 (Cl.zero.b.toNat : Int), .int .u64 (Cl.zero.c.toNat : Int), .int .u64 (Cl.zero.d.toNat : Int)] 27)) := hW.rest (Below.heap_alloc _ _ _ (lt_of_block hW))
        have HA := Lib.hid hA
        have hfne : fp ≠ w.heap.size := by
          have := hfp
          omega
        clear hres hfin hf hx0 hfpc hR4 HPEQ HRS2 hW hA
        go_wp2_with fail
        clear p0 p1 p2 p3
        obtain ⟨p0, p1, p2, p3, _⟩ := HA.out.four
        refine bodyPost_ret (v := .tuple #[clv Cl.zero, .int .i64 0, .iface 83 (.pointer (some ⟨fp, 0, none⟩))]) (by simp [results, Tryz.results152, go_sem, p0, p1, p2, p3]) rfl ?_
        refine ⟨by (repeat' (first | exact Below.refl _ _ | assumption | refine Below.drew ?_ | refine Below.drewN' ?_ _ | refine Below.setCell ?_ (by first | (simp; done) | omega | (simp; omega)) _ | refine Below.alloc ?_ (by first | (simp; done) | omega | (simp; omega)) _ | refine Below.step ?_ (by assumption) (by first | (simp; done) | omega | (simp; omega)))), .inl ⟨_, _, HFIN.out, rfl, ⟨fp, by omega, rfl, ?_⟩⟩⟩
        rw [Below.heap_alloc _ _ _ (by rw [four_size]; exact hlt4), four_other _ _ _ _ _ _ _ hfne]
        exact HFP.out
      · have hx0 := HY0.out.rest (hR4.others _ (lt_of_block HY0.out) (by omega))
        have hx1 := HY1.out.rest (hR4.others _ (lt_of_block HY1.out) (by omega))
        have hres := HRS2.out
        rw [hm] at hres
        simp only at hres
        have HRES := Lib.hid hres
        obtain ⟨p0, p1, p2, p3, y0, y1, y2, y3, hpl⟩ := hx1.four
        have hBw4 : Below w.heap.size w w4 := hBw3.trans (hR4.below.mono (by omega))
        have HX0 := Lib.hid hx0
        have HX1 := Lib.hid hx1
        have HR4 := Lib.hid hr4
        clear hres hm hx0 hx1 hR4 HRS2 hr4 hBw3
        have hBw5 : Below w.heap.size w (w4.alloc (.cells #[.int .u64 (m.a.toNat : Int), .int .u64 (m.b.toNat : Int), .int .u64 (m.c.toNat : Int), .int .u64 (m.d.toNat : Int)] 27)) := by (repeat' (first | exact Below.refl _ _ | assumption | refine Below.drew ?_ | refine Below.drewN' ?_ _ | refine Below.setCell ?_ (by first | (simp; done) | omega | (simp; omega)) _ | refine Below.alloc ?_ (by first | (simp; done) | omega | (simp; omega)) _ | refine Below.step ?_ (by assumption) (by first | (simp; done) | omega | (simp; omega))))
        have HX0' := Lib.hid (HX0.out.rest (Below.heap_alloc w4 (.cells #[.int .u64 (m.a.toNat : Int), .int .u64 (m.b.toNat : Int), .int .u64 (m.c.toNat : Int), .int .u64 (m.d.toNat : Int)] 27) _ (lt_of_block HX0.out)))
        have HX1' := Lib.hid (HX1.out.rest (Below.heap_alloc w4 (.cells #[.int .u64 (m.a.toNat : Int), .int .u64 (m.b.toNat : Int), .int .u64 (m.c.toNat : Int), .int .u64 (m.d.toNat : Int)] 27) _ (lt_of_block HX1.out)))
        have HR5 := Lib.hid (HR4.out.keep ((Below.refl w4.heap.size w4).alloc (Nat.le_refl _) (.cells #[.int .u64 (m.a.toNat : Int), .int .u64 (m.b.toNat : Int), .int .u64 (m.c.toNat : Int), .int .u64 (m.d.toNat : Int)] 27)))
        go_wp2_with fail
        clear p0 p1 p2 p3 y0 y1 y2 y3 hpl HX0 HX1 HR4 hBw4
        generalize w4.alloc (.cells #[.int .u64 (m.a.toNat : Int), .int .u64 (m.b.toNat : Int), .int .u64 (m.c.toNat : Int), .int .u64 (m.d.toNat : Int)] 27) = w5 at hBw5 HX0' HX1' HR5 ⊢
        refine (class_either c m w5).mono ?_
        rintro e w6 ⟨rfl, hb6⟩
        have hx0 := HX0'.out.rest (hb6.block _ (lt_of_block HX0'.out))
        have hx1 := HX1'.out.rest (hb6.block _ (lt_of_block HX1'.out))
        obtain ⟨q0, q1, q2, q3, z0, z1, z2, z3, hql⟩ := hx1.four
        have HX0 := Lib.hid hx0
        have HX1 := Lib.hid hx1
        have HR6 := Lib.hid (HR5.out.keep hb6)
        have hBw6 : Below w.heap.size w w6 := hBw5.trans (hb6.mono (by have := lt_of_block HX0'.out; omega))
        generalize Mu.either c m = d at HRES ⊢
        clear hx0 hx1 hb6 hBw5 HX0' HX1' HR5
        go_wp2_with fail
        have hx1 := HX1.out.put (.int .u64 (d.a.toNat : Int)) (.int .u64 (d.b.toNat : Int)) (.int .u64 (d.c.toNat : Int)) (.int .u64 (d.d.toNat : Int)) d rfl rfl rfl rfl
        have hx0 := HX0.out.rest (four_other w6 (w.heap.size + 1) w.heap.size (.int .u64 (d.a.toNat : Int)) (.int .u64 (d.b.toNat : Int)) (.int .u64 (d.c.toNat : Int)) (.int .u64 (d.d.toNat : Int)) (by omega))
        have hr7 : IsRd (w.heap.size + 1 + 1) s k' _ := (four_other w6 (w.heap.size + 1) (w.heap.size + 1 + 1) (.int .u64 (d.a.toNat : Int)) (.int .u64 (d.b.toNat : Int)) (.int .u64 (d.c.toNat : Int)) (.int .u64 (d.d.toNat : Int)) (by omega)).trans HR6.out
        refine ⟨⟨k', j', d, hk'n, by omega, hr7, hx0, hx1, by (repeat' (first | exact Below.refl _ _ | assumption | refine Below.drew ?_ | refine Below.drewN' ?_ _ | refine Below.setCell ?_ (by first | (simp; done) | omega | (simp; omega)) _ | refine Below.alloc ?_ (by first | (simp; done) | omega | (simp; omega)) _ | refine Below.step ?_ (by assumption) (by first | (simp; done) | omega | (simp; omega)))), HRES.out⟩, ?_⟩
        rw [HMS.out, hr7.cells.2.1]
        simp [intOf]
        omega

end Go.Proofs.YtdmhjnnogcpccaaGreatDoor
end
