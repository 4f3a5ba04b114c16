/- lex.cutter.escape. lex.cutter.literal. -/
import Derived.Test.YtdmhjnnogcpccaaGreatDoorJCua
section
namespace Go.Proofs.YtdmhjnnogcpccaaGreatDoor
open Go.RowKit
open Mu (Cl Bs Nd Ru Gr Tk)
set_option linter.unusedSimpArgs false
set_option linter.unusedVariables false

attribute [local irreducible] wpQuiet wpStill

theorem cutWrong_eq (s : Bs) (p : Nat) (hp : p ≤ s.length) : cutWrong s.length p = Mu.clWrong s.length (s.drop p) := by
  rcases drop_cases s p hp with ⟨rfl, h⟩ | ⟨c, hl, h, _⟩
  · rw [h]; simp [cutWrong, Mu.clWrong]
  · rw [h, clWrong_cons, cutWrong, if_neg (by omega)]
    simp
    omega

def escSimple (c : UInt8) : Option UInt8 := if c = 110 then some 10 else if c = 114 then some 13 else if c = 116 then some 9 else if c = 92 ∨ c = 34 ∨ c = 39 then some c else none

theorem escape_nil (n : Nat) : Mu.escape n [] = .error (Mu.clWrong n []) := rfl
theorem escape_simple (n : Nat) (c x : UInt8) (r : Bs) (h : escSimple c = some x) : Mu.escape n (c :: r) = .ok (x, r) := by
  unfold escSimple at h
  simp only [Mu.escape]
  repeat' split at h
  all_goals first | (cases h; done) | (cases h; simp_all; done) | (simp_all; done)
theorem escape_bad (n : Nat) (c : UInt8) (r : Bs) (h : escSimple c = none) (hx : c ≠ 120) : Mu.escape n (c :: r) = .error (Mu.clWrong n (c :: r)) := by
  rw [clWrong_cons]
  unfold escSimple at h
  simp only [Mu.escape]
  repeat' split at h
  all_goals first | (cases h; done) | (simp_all; done)
theorem escape_x0 (n : Nat) : Mu.escape n [120] = .error (Mu.clWrong n []) := rfl
theorem escape_x1 (n : Nat) (e : UInt8) (q : Bs) (h : Mu.hexVal e = none) : Mu.escape n (120 :: e :: q) = .error (Mu.clWrong n (e :: q)) := by
  rw [clWrong_cons]; simp [Mu.escape, h]
theorem escape_x2 (n : Nat) (e : UInt8) (a : Nat) (h : Mu.hexVal e = some a) : Mu.escape n (120 :: e :: []) = .error (Mu.clWrong n []) := by
  simp [Mu.escape, h, Mu.clWrong]
theorem escape_x3 (n : Nat) (e f : UInt8) (q : Bs) (a : Nat) (h : Mu.hexVal e = some a) (h2 : Mu.hexVal f = none) : Mu.escape n (120 :: e :: f :: q) = .error (Mu.clWrong n (f :: q)) := by
  rw [clWrong_cons]; simp [Mu.escape, h, h2]
theorem escape_x4 (n : Nat) (e f : UInt8) (q : Bs) (a l : Nat) (h : Mu.hexVal e = some a) (h2 : Mu.hexVal f = some l) : Mu.escape n (120 :: e :: f :: q) = .ok (UInt8.ofNat (16 * a + l), q) := by
  simp [Mu.escape, h, h2]

def EscEnd (s : Bs) (p : Nat) (w : World) (e : Ending) (w' : World) : Prop := Below w.heap.size w w' ∧
  ((∃ f v, Mu.escape s.length (s.drop (p + 1)) = .error f ∧ e = .returned (.tuple #[.int .u8 0, .int .i64 0, v]) ∧ IsFlt w.heap.size v f w') ∨
   (∃ (x : UInt8) (q : Nat), Mu.escape s.length (s.drop (p + 1)) = .ok (x, s.drop q) ∧ p + 1 < q ∧ q ≤ s.length ∧ e = .returned (.tuple #[.int .u8 x.toNat, .int .i64 (q : Int), .nilIface])))

set_option maxHeartbeats 1000000 in
set_option maxRecDepth 20000 in
theorem cut_escape_end (b : Nat) (s : Bs) (k : Nat) (l : List Tk) (p : Nat) (w : World) (h : IsCut b s k l w) (hn : s.length ≤ 100000) (hp : p + 1 = s.length) :
    Calls Tryz.prog 151 #[.pointer (some ⟨b, 0, none⟩), .int .i64 (p : Int)] w (EscEnd s p w) := by
  obtain ⟨c0, c1, f1, hlt⟩ := h.cells
  have hsz : (ba s).size = s.length := rfl
  have H := Lib.hid h
  have hd : s.drop (p + 1) = [] := by rw [hp]; simp
  have hcw := cutWrong_eq s (p + 1) (by omega)
  have HD := Lib.hid hd
  have HCW := Lib.hid hcw
  clear h hd hcw
  go_enter Tryz.func151, Tryz.ntmps151
  go_wp2_with fail
  refine (cut_wrong b s k l (p + 1) w H.out hn (by omega)).mono ?_
  rintro e w1 ⟨v, rfl, hv, hb⟩
  have HV := Lib.hid hv
  clear hv
  go_wp2_with fail
  go_ret3
  refine ⟨hb, .inl ⟨_, v, by rw [HD.out]; exact escape_nil _, rfl, ?_⟩⟩
  have := HV.out
  rw [HCW.out, HD.out] at this
  exact this

set_option maxHeartbeats 2000000 in
set_option maxRecDepth 20000 in
theorem cut_escape_simple (b : Nat) (s : Bs) (k : Nat) (l : List Tk) (p : Nat) (w : World) (h : IsCut b s k l w) (hn : s.length ≤ 100000) (hp : p + 1 < s.length) (c : UInt8) (hc : (ba s)[p + 1] = c) (hd : s.drop (p + 1) = c :: s.drop (p + 2))
    (hs : c = 110 ∨ c = 114 ∨ c = 116 ∨ c = 92 ∨ c = 34 ∨ c = 39) :
    Calls Tryz.prog 151 #[.pointer (some ⟨b, 0, none⟩), .int .i64 (p : Int)] w (EscEnd s p w) := by
  obtain ⟨c0, c1, f1, hlt⟩ := h.cells
  have hsz : (ba s).size = s.length := rfl
  have HD := Lib.hid hd
  clear h hd
  have ht : ((p : Int) + 1).toNat = p + 1 := by omega
  rcases hs with rfl | rfl | rfl | rfl | rfl | rfl
  all_goals
    go_enter Tryz.func151, Tryz.ntmps151
    go_wp2_with fail
    go_ret3
    first
    | exact ⟨by (repeat' (first | exact Below.refl _ _ | assumption | refine Below.drew ?_ | refine Below.drewN' ?_ _ | refine Below.setCell ?_ (by first | (simp; done) | omega | (simp; omega)) _ | refine Below.alloc ?_ (by first | (simp; done) | omega | (simp; omega)) _ | refine Below.step ?_ (by assumption) (by first | (simp; done) | omega | (simp; omega)))), .inr ⟨10, p + 2, by rw [HD.out]; exact escape_simple _ _ _ _ (by decide), by omega, by omega, rfl⟩⟩
    | exact ⟨by (repeat' (first | exact Below.refl _ _ | assumption | refine Below.drew ?_ | refine Below.drewN' ?_ _ | refine Below.setCell ?_ (by first | (simp; done) | omega | (simp; omega)) _ | refine Below.alloc ?_ (by first | (simp; done) | omega | (simp; omega)) _ | refine Below.step ?_ (by assumption) (by first | (simp; done) | omega | (simp; omega)))), .inr ⟨13, p + 2, by rw [HD.out]; exact escape_simple _ _ _ _ (by decide), by omega, by omega, rfl⟩⟩
    | exact ⟨by (repeat' (first | exact Below.refl _ _ | assumption | refine Below.drew ?_ | refine Below.drewN' ?_ _ | refine Below.setCell ?_ (by first | (simp; done) | omega | (simp; omega)) _ | refine Below.alloc ?_ (by first | (simp; done) | omega | (simp; omega)) _ | refine Below.step ?_ (by assumption) (by first | (simp; done) | omega | (simp; omega)))), .inr ⟨9, p + 2, by rw [HD.out]; exact escape_simple _ _ _ _ (by decide), by omega, by omega, rfl⟩⟩
    | exact ⟨by (repeat' (first | exact Below.refl _ _ | assumption | refine Below.drew ?_ | refine Below.drewN' ?_ _ | refine Below.setCell ?_ (by first | (simp; done) | omega | (simp; omega)) _ | refine Below.alloc ?_ (by first | (simp; done) | omega | (simp; omega)) _ | refine Below.step ?_ (by assumption) (by first | (simp; done) | omega | (simp; omega)))), .inr ⟨92, p + 2, by rw [HD.out]; exact escape_simple _ _ _ _ (by decide), by omega, by omega, rfl⟩⟩
    | exact ⟨by (repeat' (first | exact Below.refl _ _ | assumption | refine Below.drew ?_ | refine Below.drewN' ?_ _ | refine Below.setCell ?_ (by first | (simp; done) | omega | (simp; omega)) _ | refine Below.alloc ?_ (by first | (simp; done) | omega | (simp; omega)) _ | refine Below.step ?_ (by assumption) (by first | (simp; done) | omega | (simp; omega)))), .inr ⟨34, p + 2, by rw [HD.out]; exact escape_simple _ _ _ _ (by decide), by omega, by omega, rfl⟩⟩
    | exact ⟨by (repeat' (first | exact Below.refl _ _ | assumption | refine Below.drew ?_ | refine Below.drewN' ?_ _ | refine Below.setCell ?_ (by first | (simp; done) | omega | (simp; omega)) _ | refine Below.alloc ?_ (by first | (simp; done) | omega | (simp; omega)) _ | refine Below.step ?_ (by assumption) (by first | (simp; done) | omega | (simp; omega)))), .inr ⟨39, p + 2, by rw [HD.out]; exact escape_simple _ _ _ _ (by decide), by omega, by omega, rfl⟩⟩

set_option maxHeartbeats 2000000 in
set_option maxRecDepth 20000 in
theorem cut_escape_bad (b : Nat) (s : Bs) (k : Nat) (l : List Tk) (p : Nat) (w : World) (h : IsCut b s k l w) (hn : s.length ≤ 100000) (hp : p + 1 < s.length) (c : UInt8) (hc : (ba s)[p + 1] = c) (hd : s.drop (p + 1) = c :: s.drop (p + 2))
    (hs : escSimple c = none) (h1 : ¬ (c.toNat : Int) = 110) (h2 : ¬ (c.toNat : Int) = 114) (h3 : ¬ (c.toNat : Int) = 116) (h4 : ¬ (c.toNat : Int) = 92) (h5 : ¬ (c.toNat : Int) = 34) (h6 : ¬ (c.toNat : Int) = 39) (h7 : ¬ (c.toNat : Int) = 120) :
    Calls Tryz.prog 151 #[.pointer (some ⟨b, 0, none⟩), .int .i64 (p : Int)] w (EscEnd s p w) := by
  obtain ⟨c0, c1, f1, hlt⟩ := h.cells
  have hsz : (ba s).size = s.length := rfl
  have H := Lib.hid h
  have hcw := cutWrong_eq s (p + 1) (by omega)
  have HCW := Lib.hid hcw
  have HD := Lib.hid hd
  have he := escape_bad s.length c (s.drop (p + 2)) hs (by intro e; subst e; simp at h7)
  have HE := Lib.hid he
  clear h hd hcw he hs
  have ht : ((p : Int) + 1).toNat = p + 1 := by omega
  go_enter Tryz.func151, Tryz.ntmps151
  go_wp2_with fail
  refine (cut_wrong b s k l (p + 1) w H.out hn (by omega)).mono ?_
  rintro e w1 ⟨v, rfl, hv, hb⟩
  have HV := Lib.hid hv
  clear hv
  go_wp2_with fail
  go_ret3
  refine ⟨hb, .inl ⟨_, v, by rw [HD.out]; exact HE.out, rfl, ?_⟩⟩
  have := HV.out
  rw [HCW.out, HD.out] at this
  exact this

theorem hex8 (x : UInt8) : (0 ≤ Lib.indexByte [48, 49, 50, 51, 52, 53, 54, 55, 56, 57, 97, 98, 99, 100, 101, 102] x → Lib.indexByte [48, 49, 50, 51, 52, 53, 54, 55, 56, 57, 97, 98, 99, 100, 101, 102] x < 16 ∧ Mu.hexVal x = some (Lib.indexByte [48, 49, 50, 51, 52, 53, 54, 55, 56, 57, 97, 98, 99, 100, 101, 102] x).toNat) ∧ (Lib.indexByte [48, 49, 50, 51, 52, 53, 54, 55, 56, 57, 97, 98, 99, 100, 101, 102] x < 0 → Mu.hexVal x = none) :=
  by8 (P := fun d => (0 ≤ Lib.indexByte [48, 49, 50, 51, 52, 53, 54, 55, 56, 57, 97, 98, 99, 100, 101, 102] d → Lib.indexByte [48, 49, 50, 51, 52, 53, 54, 55, 56, 57, 97, 98, 99, 100, 101, 102] d < 16 ∧ Mu.hexVal d = some (Lib.indexByte [48, 49, 50, 51, 52, 53, 54, 55, 56, 57, 97, 98, 99, 100, 101, 102] d).toNat) ∧ (Lib.indexByte [48, 49, 50, 51, 52, 53, 54, 55, 56, 57, 97, 98, 99, 100, 101, 102] d < 0 → Mu.hexVal d = none)) hex_idx x

theorem esc_wrong {s : Bs} {p p' : Nat} {w w1 : World} {v : Value} (hp : p' ≤ s.length) (hv : IsFlt w.heap.size v (cutWrong s.length p') w1) (hb : Below w.heap.size w w1) (he : Mu.escape s.length (s.drop (p + 1)) = .error (Mu.clWrong s.length (s.drop p'))) :
    EscEnd s p w (.returned (.tuple #[.int .u8 0, .int .i64 0, v])) w1 := by
  refine ⟨hb, .inl ⟨_, v, he, rfl, ?_⟩⟩
  rw [cutWrong_eq s p' hp] at hv
  exact hv

set_option maxHeartbeats 2000000 in
set_option maxRecDepth 20000 in
theorem cut_escape_x0 (b : Nat) (s : Bs) (k : Nat) (l : List Tk) (p : Nat) (w : World) (h : IsCut b s k l w) (hn : s.length ≤ 100000) (hp : p + 1 < s.length) (hc : (ba s)[p + 1] = 120) (hd : s.drop (p + 1) = 120 :: s.drop (p + 2)) (hp2 : p + 2 = s.length) :
    Calls Tryz.prog 151 #[.pointer (some ⟨b, 0, none⟩), .int .i64 (p : Int)] w (EscEnd s p w) := by
  obtain ⟨c0, c1, f1, hlt⟩ := h.cells
  have hsz : (ba s).size = s.length := rfl
  have H := Lib.hid h
  have HD := Lib.hid hd
  have hd2 : s.drop (p + 2) = [] := by rw [hp2]; simp
  have HD2 := Lib.hid hd2
  clear h hd hd2
  have ht : ((p : Int) + 1).toNat = p + 1 := by omega
  go_enter Tryz.func151, Tryz.ntmps151
  go_wp2_with fail
  refine wp_loop_rounds 2 ?_
  rw [rounds_succ]
  go_wp2_with fail
  refine (cut_wrong b s k l (p + 2) w H.out hn (by omega)).mono ?_
  rintro e w1 ⟨v, rfl, hv, hb⟩
  have HV := Lib.hid hv
  clear hv
  go_wp2_with fail
  go_ret3
  exact esc_wrong (by omega) HV.out hb (by rw [HD.out, HD2.out]; exact escape_x0 _)

set_option maxHeartbeats 2000000 in
set_option maxRecDepth 20000 in
theorem cut_escape_x1 (b : Nat) (s : Bs) (k : Nat) (l : List Tk) (p : Nat) (w : World) (h : IsCut b s k l w) (hn : s.length ≤ 100000) (hp : p + 1 < s.length) (hc : (ba s)[p + 1] = 120) (hd : s.drop (p + 1) = 120 :: s.drop (p + 2)) (hp2 : p + 2 < s.length)
    (x : UInt8) (hx : (ba s)[p + 2] = x) (hdx : s.drop (p + 2) = x :: s.drop (p + 3)) (r : Int) (hr : Lib.indexByte [48, 49, 50, 51, 52, 53, 54, 55, 56, 57, 97, 98, 99, 100, 101, 102] x.toNat.toUInt8 = r) (hr0 : r < 0) (hv : Mu.hexVal x = none) :
    Calls Tryz.prog 151 #[.pointer (some ⟨b, 0, none⟩), .int .i64 (p : Int)] w (EscEnd s p w) := by
  obtain ⟨c0, c1, f1, hlt⟩ := h.cells
  have hsz : (ba s).size = s.length := rfl
  have H := Lib.hid h
  have HD := Lib.hid hd
  have HD2 := Lib.hid hdx
  have HR := Lib.hid hr
  have HVX := Lib.hid hv
  clear h hd hdx hr hv
  have ht : ((p : Int) + 1).toNat = p + 1 := by omega
  have ht2 : ((p : Int) + 2).toNat = p + 2 := by omega
  go_enter Tryz.func151, Tryz.ntmps151
  go_wp2_with fail
  refine wp_loop_rounds 2 ?_
  rw [rounds_succ]
  go_wp2_with fail
  refine (idxByteAt (ba [48, 49, 50, 51, 52, 53, 54, 55, 56, 57, 97, 98, 99, 100, 101, 102]) x.toNat r HR.out w).mono ?_
  rintro e w1 ⟨rfl, rfl⟩
  go_wp2_with fail
  refine (cut_wrong b s k l (p + 2) w H.out hn (by omega)).mono ?_
  rintro e w1 ⟨v, rfl, hv, hb⟩
  have HV := Lib.hid hv
  clear hv
  go_wp2_with fail
  go_ret3
  exact esc_wrong (by omega) HV.out hb (by rw [HD.out, HD2.out]; exact escape_x1 _ _ _ HVX.out)

theorem or_zero16 : ∀ a : Fin 16, bits .or .i64 0 (a.val : Int) = (a.val : Int) := by decide +kernel
theorem or_sixteen : ∀ a l : Fin 16, bits .or .i64 ((a.val : Int) * 16) (l.val : Int) = (16 * (a.val : Int) + (l.val : Int)) := by decide +kernel

set_option maxHeartbeats 2000000 in
set_option maxRecDepth 20000 in
theorem cut_escape_x2 (b : Nat) (s : Bs) (k : Nat) (l : List Tk) (p : Nat) (w : World) (h : IsCut b s k l w) (hn : s.length ≤ 100000) (hp : p + 1 < s.length) (hc : (ba s)[p + 1] = 120) (hd : s.drop (p + 1) = 120 :: s.drop (p + 2)) (hp2 : p + 2 < s.length)
    (x : UInt8) (hx : (ba s)[p + 2] = x) (hdx : s.drop (p + 2) = x :: s.drop (p + 3)) (a : Nat) (hr : Lib.indexByte [48, 49, 50, 51, 52, 53, 54, 55, 56, 57, 97, 98, 99, 100, 101, 102] x.toNat.toUInt8 = (a : Int)) (hr1 : a < 16) (hv : Mu.hexVal x = some a) (hp3 : p + 3 = s.length) :
    Calls Tryz.prog 151 #[.pointer (some ⟨b, 0, none⟩), .int .i64 (p : Int)] w (EscEnd s p w) := by
  obtain ⟨c0, c1, f1, hlt⟩ := h.cells
  have hsz : (ba s).size = s.length := rfl
  have H := Lib.hid h
  have HD := Lib.hid hd
  have HD2 := Lib.hid hdx
  have HR := Lib.hid hr
  have HVX := Lib.hid hv
  have b0 : bits .or .i64 0 (a : Int) = (a : Int) := or_zero16 ⟨a, hr1⟩
  have hd3 : s.drop (p + 3) = [] := by rw [hp3]; simp
  have HD3 := Lib.hid hd3
  clear hd3
  clear h hd hdx hr hv
  have ht : ((p : Int) + 1).toNat = p + 1 := by omega
  have ht2 : ((p : Int) + 2).toNat = p + 2 := by omega
  have ht3 : ((p : Int) + 2 + 1).toNat = p + 3 := by omega
  go_enter Tryz.func151, Tryz.ntmps151
  go_wp2_with fail
  refine wp_loop_rounds 2 ?_
  rw [rounds_succ]
  go_wp2_with fail
  refine (idxByteAt (ba [48, 49, 50, 51, 52, 53, 54, 55, 56, 57, 97, 98, 99, 100, 101, 102]) x.toNat a HR.out w).mono ?_
  rintro e w1 ⟨rfl, rfl⟩
  go_wp2_with fail
  refine (idxByteAt (ba [48, 49, 50, 51, 52, 53, 54, 55, 56, 57, 97, 98, 99, 100, 101, 102]) x.toNat a HR.out w).mono ?_
  rintro e w1 ⟨rfl, rfl⟩
  go_wp2_with fail
  rw [rounds_succ]
  go_wp2_with fail
  refine (cut_wrong b s k l (p + 3) w H.out hn (by omega)).mono ?_
  rintro e w1 ⟨v, rfl, hv, hb⟩
  have HV := Lib.hid hv
  clear hv
  go_wp2_with fail
  go_ret3
  exact esc_wrong (by omega) HV.out hb (by rw [HD.out, HD2.out, HD3.out]; exact escape_x2 _ _ _ HVX.out)


set_option maxHeartbeats 2000000 in
set_option maxRecDepth 20000 in
theorem cut_escape_x3 (b : Nat) (s : Bs) (k : Nat) (l : List Tk) (p : Nat) (w : World) (h : IsCut b s k l w) (hn : s.length ≤ 100000) (hp : p + 1 < s.length) (hc : (ba s)[p + 1] = 120) (hd : s.drop (p + 1) = 120 :: s.drop (p + 2)) (hp2 : p + 2 < s.length)
    (x : UInt8) (hx : (ba s)[p + 2] = x) (hdx : s.drop (p + 2) = x :: s.drop (p + 3)) (a : Nat) (hr : Lib.indexByte [48, 49, 50, 51, 52, 53, 54, 55, 56, 57, 97, 98, 99, 100, 101, 102] x.toNat.toUInt8 = (a : Int)) (hr1 : a < 16) (hv : Mu.hexVal x = some a) (hp3 : p + 3 < s.length) (y : UInt8) (hy : (ba s)[p + 3] = y) (hdy : s.drop (p + 3) = y :: s.drop (p + 4)) (r : Int) (hry : Lib.indexByte [48, 49, 50, 51, 52, 53, 54, 55, 56, 57, 97, 98, 99, 100, 101, 102] y.toNat.toUInt8 = r) (hr0 : r < 0) (hvy : Mu.hexVal y = none) :
    Calls Tryz.prog 151 #[.pointer (some ⟨b, 0, none⟩), .int .i64 (p : Int)] w (EscEnd s p w) := by
  obtain ⟨c0, c1, f1, hlt⟩ := h.cells
  have hsz : (ba s).size = s.length := rfl
  have H := Lib.hid h
  have HD := Lib.hid hd
  have HD2 := Lib.hid hdx
  have HR := Lib.hid hr
  have HVX := Lib.hid hv
  have b0 : bits .or .i64 0 (a : Int) = (a : Int) := or_zero16 ⟨a, hr1⟩
  have HD3 := Lib.hid hdy
  have HRY := Lib.hid hry
  have HVY := Lib.hid hvy
  clear hdy hry hvy
  clear h hd hdx hr hv
  have ht : ((p : Int) + 1).toNat = p + 1 := by omega
  have ht2 : ((p : Int) + 2).toNat = p + 2 := by omega
  have ht3 : ((p : Int) + 2 + 1).toNat = p + 3 := by omega
  go_enter Tryz.func151, Tryz.ntmps151
  go_wp2_with fail
  refine wp_loop_rounds 2 ?_
  rw [rounds_succ]
  go_wp2_with fail
  refine (idxByteAt (ba [48, 49, 50, 51, 52, 53, 54, 55, 56, 57, 97, 98, 99, 100, 101, 102]) x.toNat a HR.out w).mono ?_
  rintro e w1 ⟨rfl, rfl⟩
  go_wp2_with fail
  refine (idxByteAt (ba [48, 49, 50, 51, 52, 53, 54, 55, 56, 57, 97, 98, 99, 100, 101, 102]) x.toNat a HR.out w).mono ?_
  rintro e w1 ⟨rfl, rfl⟩
  go_wp2_with fail
  rw [rounds_succ]
  go_wp2_with fail
  refine (idxByteAt (ba [48, 49, 50, 51, 52, 53, 54, 55, 56, 57, 97, 98, 99, 100, 101, 102]) y.toNat r HRY.out w).mono ?_
  rintro e w1 ⟨rfl, rfl⟩
  go_wp2_with fail
  refine (cut_wrong b s k l (p + 3) w H.out hn (by omega)).mono ?_
  rintro e w1 ⟨v, rfl, hv, hb⟩
  have HV := Lib.hid hv
  clear hv
  go_wp2_with fail
  go_ret3
  exact esc_wrong (by omega) HV.out hb (by rw [HD.out, HD2.out, HD3.out]; exact escape_x3 _ _ _ _ _ HVX.out HVY.out)


set_option maxHeartbeats 2000000 in
set_option maxRecDepth 20000 in
theorem cut_escape_x4 (b : Nat) (s : Bs) (k : Nat) (l : List Tk) (p : Nat) (w : World) (h : IsCut b s k l w) (hn : s.length ≤ 100000) (hp : p + 1 < s.length) (hc : (ba s)[p + 1] = 120) (hd : s.drop (p + 1) = 120 :: s.drop (p + 2)) (hp2 : p + 2 < s.length)
    (x : UInt8) (hx : (ba s)[p + 2] = x) (hdx : s.drop (p + 2) = x :: s.drop (p + 3)) (a : Nat) (hr : Lib.indexByte [48, 49, 50, 51, 52, 53, 54, 55, 56, 57, 97, 98, 99, 100, 101, 102] x.toNat.toUInt8 = (a : Int)) (hr1 : a < 16) (hv : Mu.hexVal x = some a) (hp3 : p + 3 < s.length) (y : UInt8) (hy : (ba s)[p + 3] = y) (hdy : s.drop (p + 3) = y :: s.drop (p + 4)) (c : Nat) (hry : Lib.indexByte [48, 49, 50, 51, 52, 53, 54, 55, 56, 57, 97, 98, 99, 100, 101, 102] y.toNat.toUInt8 = (c : Int)) (hc1 : c < 16) (hvy : Mu.hexVal y = some c) :
    Calls Tryz.prog 151 #[.pointer (some ⟨b, 0, none⟩), .int .i64 (p : Int)] w (EscEnd s p w) := by
  obtain ⟨c0, c1, f1, hlt⟩ := h.cells
  have hsz : (ba s).size = s.length := rfl
  have H := Lib.hid h
  have HD := Lib.hid hd
  have HD2 := Lib.hid hdx
  have HR := Lib.hid hr
  have HVX := Lib.hid hv
  have b0 : bits .or .i64 0 (a : Int) = (a : Int) := or_zero16 ⟨a, hr1⟩
  have HD3 := Lib.hid hdy
  have HRY := Lib.hid hry
  have HVY := Lib.hid hvy
  have b4 : bits .or .i64 ((a : Int) * 16) (c : Int) = (16 * (a : Int) + (c : Int)) := or_sixteen ⟨a, hr1⟩ ⟨c, hc1⟩
  clear hdy hry hvy
  clear h hd hdx hr hv
  have ht : ((p : Int) + 1).toNat = p + 1 := by omega
  have ht2 : ((p : Int) + 2).toNat = p + 2 := by omega
  have ht3 : ((p : Int) + 2 + 1).toNat = p + 3 := by omega
  go_enter Tryz.func151, Tryz.ntmps151
  go_wp2_with fail
  refine wp_loop_rounds 3 ?_
  rw [rounds_succ]
  go_wp2_with fail
  refine (idxByteAt (ba [48, 49, 50, 51, 52, 53, 54, 55, 56, 57, 97, 98, 99, 100, 101, 102]) x.toNat a HR.out w).mono ?_
  rintro e w1 ⟨rfl, rfl⟩
  go_wp2_with fail
  refine (idxByteAt (ba [48, 49, 50, 51, 52, 53, 54, 55, 56, 57, 97, 98, 99, 100, 101, 102]) x.toNat a HR.out w).mono ?_
  rintro e w1 ⟨rfl, rfl⟩
  go_wp2_with fail
  rw [rounds_succ]
  go_wp2_with fail
  refine (idxByteAt (ba [48, 49, 50, 51, 52, 53, 54, 55, 56, 57, 97, 98, 99, 100, 101, 102]) y.toNat c HRY.out w).mono ?_
  rintro e w1 ⟨rfl, rfl⟩
  go_wp2_with fail
  refine (idxByteAt (ba [48, 49, 50, 51, 52, 53, 54, 55, 56, 57, 97, 98, 99, 100, 101, 102]) y.toNat c HRY.out w).mono ?_
  rintro e w1 ⟨rfl, rfl⟩
  go_wp2_with fail
  rw [rounds_succ]
  go_wp2_with fail
  go_ret3
  have hval : (16 * (a : Int) + (c : Int)) = ((UInt8.ofNat (16 * a + c)).toNat : Int) := by
    rw [UInt8.toNat_ofNat']
    omega
  exact ⟨by (repeat' (first | exact Below.refl _ _ | assumption | refine Below.drew ?_ | refine Below.drewN' ?_ _ | refine Below.setCell ?_ (by first | (simp; done) | omega | (simp; omega)) _ | refine Below.alloc ?_ (by first | (simp; done) | omega | (simp; omega)) _ | refine Below.step ?_ (by assumption) (by first | (simp; done) | omega | (simp; omega)))), .inr ⟨UInt8.ofNat (16 * a + c), p + 4, by rw [HD.out, HD2.out, HD3.out]; exact escape_x4 _ _ _ _ _ _ HVX.out HVY.out, by omega, by omega, congrArg (fun z => Ending.returned (Value.tuple #[Value.int .u8 z, .int .i64 ((p + 4 : Nat) : Int), .nilIface])) hval⟩⟩

theorem cut_escape (b : Nat) (s : Bs) (k : Nat) (l : List Tk) (p : Nat) (w : World) (h : IsCut b s k l w) (hn : s.length ≤ 100000) (hp : p < s.length) :
    Calls Tryz.prog 151 #[.pointer (some ⟨b, 0, none⟩), .int .i64 (p : Int)] w (EscEnd s p w) := by
  rcases drop_cases s (p + 1) (by omega) with ⟨he, _⟩ | ⟨c, hl, hd, hg⟩
  · exact cut_escape_end b s k l p w h hn he
  · by_cases hs : c = 110 ∨ c = 114 ∨ c = 116 ∨ c = 92 ∨ c = 34 ∨ c = 39
    · exact cut_escape_simple b s k l p w h hn hl c (hg hl) hd hs
    · by_cases hx : c = 120
      · subst hx
        rcases drop_cases s (p + 2) (by omega) with ⟨he, _⟩ | ⟨x, hl2, hd2, hg2⟩
        · exact cut_escape_x0 b s k l p w h hn hl (hg hl) hd he
        · obtain ⟨e1, e2⟩ := hex8 x
          have ex : x.toNat.toUInt8 = x := by simp
          by_cases hr : 0 ≤ Lib.indexByte [48, 49, 50, 51, 52, 53, 54, 55, 56, 57, 97, 98, 99, 100, 101, 102] x
          · obtain ⟨hr1, hv⟩ := e1 hr
            obtain ⟨a, ha⟩ := nat_of hr
            rw [ha] at hr1 hv
            have hra : Lib.indexByte [48, 49, 50, 51, 52, 53, 54, 55, 56, 57, 97, 98, 99, 100, 101, 102] x.toNat.toUInt8 = (a : Int) := by rw [ex, ha]
            rcases drop_cases s (p + 3) (by omega) with ⟨he, _⟩ | ⟨y, hl3, hd3, hg3⟩
            · exact cut_escape_x2 b s k l p w h hn hl (hg hl) hd hl2 x (hg2 hl2) hd2 a hra (by omega) hv he
            · obtain ⟨f1, f2⟩ := hex8 y
              have ey : y.toNat.toUInt8 = y := by simp
              by_cases hq : 0 ≤ Lib.indexByte [48, 49, 50, 51, 52, 53, 54, 55, 56, 57, 97, 98, 99, 100, 101, 102] y
              · obtain ⟨hq1, hu⟩ := f1 hq
                obtain ⟨c, hc⟩ := nat_of hq
                rw [hc] at hq1 hu
                exact cut_escape_x4 b s k l p w h hn hl (hg hl) hd hl2 x (hg2 hl2) hd2 a hra (by omega) hv hl3 y (hg3 hl3) hd3 c (by rw [ey, hc]) (by omega) hu
              · exact cut_escape_x3 b s k l p w h hn hl (hg hl) hd hl2 x (hg2 hl2) hd2 a hra (by omega) hv hl3 y (hg3 hl3) hd3 _ (by rw [ey]) (by omega) (f2 (by omega))
          · exact cut_escape_x1 b s k l p w h hn hl (hg hl) hd hl2 x (hg2 hl2) hd2 _ (by rw [ex]) (by omega) (e2 (by omega))
      · have hne : ∀ m : UInt8, c ≠ m → ¬ (c.toNat : Int) = (m.toNat : Int) := fun m hm e => hm (UInt8.toNat_inj.1 (by omega))
        have hs' : c ≠ 110 ∧ c ≠ 114 ∧ c ≠ 116 ∧ c ≠ 92 ∧ c ≠ 34 ∧ c ≠ 39 := by
          refine ⟨?_, ?_, ?_, ?_, ?_, ?_⟩ <;> (rintro rfl; exact hs (by decide))
        obtain ⟨g1, g2, g3, g4, g5, g6⟩ := hs'
        exact cut_escape_bad b s k l p w h hn hl c (hg hl) hd (by simp [escSimple, g1, g2, g3, g4, g5, g6]) (hne 110 g1) (hne 114 g2) (hne 116 g3) (hne 92 g4) (hne 34 g5) (hne 39 g6) (hne 120 hx)


end Go.Proofs.YtdmhjnnogcpccaaGreatDoor
end

section
namespace Go.Proofs.YtdmhjnnogcpccaaGreatDoor
open Go.RowKit
open Mu (Cl Bs Nd Ru Gr Tk)
set_option linter.unusedSimpArgs false
set_option linter.unusedVariables false

attribute [local irreducible] wpQuiet wpStill

theorem lit_end (n a : Nat) (qt : UInt8) (j : Nat) (acc : Bs) : Mu.literalK n a qt (j + 1) acc [] = .error (Mu.clWrong n []) := rfl
theorem lit_quote (n a : Nat) (qt : UInt8) (j : Nat) (acc r : Bs) : Mu.literalK n a qt (j + 1) acc (qt :: r) = .ok (acc.reverse, r) := by simp [Mu.literalK]
theorem lit_esc (n a : Nat) (qt : UInt8) (j : Nat) (acc r : Bs) (f : Mu.Flt) (h : (92 : UInt8) ≠ qt) (he : Mu.escape n r = .error f) : Mu.literalK n a qt (j + 1) acc (92 :: r) = .error f := by simp [Mu.literalK, h, he]
theorem lit_bad (n a : Nat) (qt c : UInt8) (j : Nat) (acc r : Bs) (h : c ≠ qt) (h2 : c ≠ 92) (hb : c < 32 ∨ 126 < c) : Mu.literalK n a qt (j + 1) acc (c :: r) = .error (Mu.clWrong n (c :: r)) := by
  rw [clWrong_cons]; simp [Mu.literalK, h, h2, hb]
theorem lit_long (n a : Nat) (qt c x : UInt8) (j : Nat) (acc r q : Bs) (h : c ≠ qt) (hs : (if c = 92 then Mu.escape n r else .ok (c, r)) = .ok (x, q)) (hb : ¬ (c < 32 ∨ 126 < c)) (hl : acc.length = 255) : Mu.literalK n a qt (j + 1) acc (c :: r) = .error ⟨2, a⟩ := by
  simp only [Mu.literalK, if_neg h, hs, if_neg hb, if_pos hl]
theorem lit_step (n a : Nat) (qt c x : UInt8) (j : Nat) (acc r q : Bs) (h : c ≠ qt) (hs : (if c = 92 then Mu.escape n r else .ok (c, r)) = .ok (x, q)) (hb : ¬ (c < 32 ∨ 126 < c)) (hl : acc.length ≠ 255) : Mu.literalK n a qt (j + 1) acc (c :: r) = Mu.literalK n a qt j (x :: acc) q := by
  simp only [Mu.literalK, if_neg h, hs, if_neg hb, if_neg hl]

theorem IsCut.bld {b c : Nat} {s : Bs} {k : Nat} {l : List Tk} {acc : Bs} {w w' : World} (h : IsCut b s k l w) (hB : Bld 155 c acc w) (hw : Wr c w w') : IsCut b s k l w' := by
  obtain ⟨cs, fz, hc⟩ : ∃ cs fz, w.heap[c]? = some (.cells cs 155 fz) := by
    rcases hB with hB | hB
    · exact ⟨_, _, hB.2.choose_spec.1⟩
    · exact ⟨_, _, hB.2.choose_spec.1⟩
  refine h.wr hw ?_ ?_
  · intro e
    subst e
    obtain ⟨v, h1, _⟩ := h
    rw [hc] at h1
    cases h1
  · intro j cs2 fz2 h2 e
    subst e
    rw [hc] at h2
    cases h2

def LitEnd (b : Nat) (s : Bs) (k : Nat) (l : List Tk) (w : World) (RES : Except Mu.Flt (Bs × Bs)) (e : Ending) (w' : World) : Prop := Below b w w' ∧
  ((∃ f v, RES = .error f ∧ e = .returned v ∧ IsFlt w.heap.size v f w') ∨
   (∃ (t : Bs) (q : Nat), RES = .ok (t, s.drop q) ∧ t.length ≤ 255 ∧ k < q ∧ q ≤ s.length ∧ e = .returned .nilIface ∧ IsCut b s q (l ++ [⟨3, t, Cl.zero, k⟩]) w'))

set_option maxHeartbeats 4000000 in
set_option maxRecDepth 20000 in
theorem cut_literal (b : Nat) (s : Bs) (k : Nat) (l : List Tk) (w : World) (h : IsCut b s k l w) (hn : s.length ≤ 100000) (hl : l.length ≤ 10000) (hk : k < s.length) (qt : UInt8) (hq : (ba s)[k] = qt) (RES : Except Mu.Flt (Bs × Bs)) (hRES : Mu.literalK s.length k qt (s.length - k) [] (s.drop (k + 1)) = RES) :
    Calls Tryz.prog 113 #[.pointer (some ⟨b, 0, none⟩)] w (LitEnd b s k l w RES) := by
  have hlt0 := h.lt
  have hsz : (ba s).size = s.length := rfl
  have HQT := Lib.hid hq
  have HRES := Lib.hid hRES
  have hB0 := Bld.fresh 155 w
  have h1 : IsCut b s k l (w.alloc (.cells #[.pointer none, .slice none 0 0] 155)) := h.keep (by (repeat' (first | exact Below.refl _ _ | assumption | refine Below.drew ?_ | refine Below.drewN' ?_ _ | refine Below.setCell ?_ (by first | (simp; done) | omega | (simp; omega)) _ | refine Below.alloc ?_ (by first | (simp; done) | omega | (simp; omega)) _ | refine Below.step ?_ (by assumption) (by first | (simp; done) | omega | (simp; omega)))))
  obtain ⟨c0, c1, f1, hlt⟩ := h1.cells
  have HB0 := Lib.hid hB0
  have H1 := Lib.hid h1
  clear h hB0 h1 hRES
  go_enter Tryz.func113, Tryz.ntmps113
  go_wp2_with fail
  go_quiet (fail)
  have hB1 : Bld 155 w.heap.size [] ((w.alloc (.cells #[.pointer none, .slice none 0 0] 155)).drewN nq) := HB0.out.keep (by (repeat' (first | exact Below.refl _ _ | assumption | refine Below.drew ?_ | refine Below.drewN' ?_ _ | refine Below.setCell ?_ (by first | (simp; done) | omega | (simp; omega)) _ | refine Below.alloc ?_ (by first | (simp; done) | omega | (simp; omega)) _ | refine Below.step ?_ (by assumption) (by first | (simp; done) | omega | (simp; omega)))))
  have h2 : IsCut b s k l ((w.alloc (.cells #[.pointer none, .slice none 0 0] 155)).drewN nq) := H1.out.keep (by (repeat' (first | exact Below.refl _ _ | assumption | refine Below.drew ?_ | refine Below.drewN' ?_ _ | refine Below.setCell ?_ (by first | (simp; done) | omega | (simp; omega)) _ | refine Below.alloc ?_ (by first | (simp; done) | omega | (simp; omega)) _ | refine Below.step ?_ (by assumption) (by first | (simp; done) | omega | (simp; omega)))))
  have hBw : Below w.heap.size w ((w.alloc (.cells #[.pointer none, .slice none 0 0] 155)).drewN nq) := by (repeat' (first | exact Below.refl _ _ | assumption | refine Below.drew ?_ | refine Below.drewN' ?_ _ | refine Below.setCell ?_ (by first | (simp; done) | omega | (simp; omega)) _ | refine Below.alloc ?_ (by first | (simp; done) | omega | (simp; omega)) _ | refine Below.step ?_ (by assumption) (by first | (simp; done) | omega | (simp; omega))))
  generalize (w.alloc (.cells #[.pointer none, .slice none 0 0] 155)).drewN nq = w2 at hB1 h2 hBw ⊢
  clear c0 c1 f1 hlt HB0 H1 hq
  obtain ⟨c0, c1, f1, hlt⟩ := h2.cells
  have HB1 := Lib.hid hB1
  have H2 := Lib.hid h2
  clear hB1 h2
  go_wp2_with fail
  clear c0 c1 f1 hlt
  go_loopw [5] (fun i wr => ∃ (q j : Nat) (acc : Bs), i = .int .i64 q ∧ k < q ∧ q ≤ s.length ∧ s.length < j + q ∧ acc.length ≤ 255 ∧ IsCut b s k l wr ∧ Bld 155 w.heap.size acc.reverse wr ∧ Below w.heap.size w wr ∧ Mu.literalK s.length k qt j acc (s.drop q) = RES) (fun i _ => s.length - (intOf i).toNat)
  case atStart => exact ⟨k + 1, s.length - k, [], rfl, by omega, by omega, by omega, by simp, H2.out, HB1.out, hBw, HRES.out⟩
  case round =>
    obtain ⟨q, j, acc, rfl, hkq, hqn, hj, hacc, hcut, hbld, hB, hres⟩ := hrel
    obtain ⟨j', rfl⟩ : ∃ j', j = j' + 1 := ⟨j - 1, by omega⟩
    obtain ⟨c0, c1, f1, hlt⟩ := hcut.cells
    have hblt := hbld.lt
    have HC := Lib.hid hcut
    have HB := Lib.hid hbld
    clear hcut hbld H2 HB1 HRES hBw
    rcases drop_cases s q hqn with ⟨rfl, hdr⟩ | ⟨c, hql, hdr, hg⟩
    · rw [hdr, lit_end] at hres
      have HRS := Lib.hid hres
      have hcw := cutWrong_eq s s.length hqn
      rw [hdr] at hcw
      have HCW := Lib.hid hcw
      clear hres hdr hcw
      go_wp2_with fail
      refine (cut_wrong b s k l s.length wr HC.out hn (by omega)).mono ?_
      rintro e w3 ⟨v, rfl, hv, hb3⟩
      rw [HCW.out] at hv
      have HV := Lib.hid hv
      clear hv
      go_wp2_with fail
      go_ret
      exact ⟨(hB.trans (hb3.mono (by omega))).mono (by omega), .inl ⟨_, v, HRS.out.symm, rfl, HV.out.mono (by omega)⟩⟩
    · have hg' : (ba s)[q] = c := hg hql
      clear hg
      rw [hdr] at hres
      by_cases hcq : c = qt
      · subst hcq
        rw [lit_quote] at hres
        have HRS := Lib.hid hres
        clear hres hdr
        go_wp2_with fail
        refine (Tryz.Builder_String_any_k w.heap.size w.heap.size acc.reverse wr HB.out (by omega)).mono ?_
        rintro e w3 ⟨rfl, hb3, hbe3, ho3⟩
        have hw3 : Wr w.heap.size wr w3 := ⟨hbe3, ho3⟩
        have hc3 := HC.out.bld HB.out hw3
        obtain ⟨d0, d1, d2, hlt3⟩ := hc3.cells
        have HC3 := Lib.hid hc3
        clear hb3 ho3 hc3
        go_wp2_with fail
        refine (cut_add b s k l ⟨3, acc.reverse, Cl.zero, 0⟩ (q + 1) w3 HC3.out (by omega)).mono ?_
        rintro e w4 ⟨rfl, hc4, hb4⟩
        have HC4 := Lib.hid hc4
        clear hc4
        go_wp2_with fail
        go_ret
        exact ⟨((hB.trans hbe3).mono (by omega)).trans hb4, .inr ⟨acc.reverse, q + 1, HRS.out.symm, by simpa using hacc, by omega, by omega, rfl, HC4.out⟩⟩
      · have hne : ¬ (c.toNat : Int) = (qt.toNat : Int) := fun e => hcq (UInt8.toNat_inj.1 (by omega))
        by_cases h92 : c = 92
        · subst h92
          have hne2 : ¬ (92 : Int) = (qt.toNat : Int) := hne
          clear hne
          have HRS := Lib.hid hres
          have HCQ := Lib.hid hcq
          clear hres hdr hcq
          go_wp2_with fail
          refine (cut_escape b s k l q wr HC.out hn hql).mono ?_
          rintro e w3 ⟨hb3, ⟨f, v, hf, rfl, hv⟩ | ⟨x, q2, hx, hq2, hq2n, rfl⟩⟩
          · obtain ⟨fp, hfp, rfl, hfpc⟩ := hv
            have hr2 := HRS.out
            rw [lit_esc _ _ _ _ _ _ _ HCQ.out hf] at hr2
            have HR2 := Lib.hid hr2
            have HFP := Lib.hid hfpc
            clear hr2 hf hfpc
            go_wp2_with fail
            go_ret
            exact ⟨(hB.trans (hb3.mono (by omega))).mono (by omega), .inl ⟨_, _, HR2.out.symm, rfl, ⟨fp, by omega, rfl, HFP.out⟩⟩⟩
          · have hc3 := HC.out.keep hb3
            have hbl3 := HB.out.keep hb3
            obtain ⟨d0, d1, d2, hlt3⟩ := hc3.cells
            have HC3 := Lib.hid hc3
            have HB3 := Lib.hid hbl3
            have HX := Lib.hid hx
            have hBw3 : Below w.heap.size w w3 := hB.trans (hb3.mono (by omega))
            have hbl := hbl3.lt
            clear hc3 hbl3 hx hb3 c0 c1 f1 HC HB hB
            by_cases h255 : acc.length = 255
            · have hr2 := HRS.out
              rw [lit_long _ _ _ _ x _ _ _ _ HCQ.out (by rw [if_pos rfl]; exact HX.out) (by decide) h255] at hr2
              have HR2 := Lib.hid hr2
              have h255' : (acc.reverse.length : Int) = 255 := by simp; omega
              clear hr2
              go_wp2_with fail
              refine (builderLen 155 w.heap.size acc.reverse w3 HB3.out).mono ?_
              rintro e w4 ⟨rfl, rfl⟩
              rw [h255']
              go_wp2_with fail
              refine (lex_fault 2 k w3).mono ?_
              rintro e w4 ⟨v, rfl, hv, hb4⟩
              have HV := Lib.hid hv
              clear hv
              go_wp2_with fail
              go_ret
              exact ⟨(hBw3.trans (hb4.mono (by omega))).mono (by omega), .inl ⟨_, v, HR2.out.symm, rfl, HV.out.mono (by omega)⟩⟩
            · have hr2 := HRS.out
              rw [lit_step _ _ _ _ x _ _ _ _ HCQ.out (by rw [if_pos rfl]; exact HX.out) (by decide) h255] at hr2
              have HR2 := Lib.hid hr2
              have hlr : acc.reverse.length = acc.length := by simp
              have h255' : ¬ (acc.length : Int) = 255 := by omega
              clear hr2
              go_wp2_with fail
              refine (builderLen 155 w.heap.size acc.reverse w3 HB3.out).mono ?_
              rintro e w4 ⟨rfl, rfl⟩
              rw [hlr]
              go_wp2_with fail
              refine (writeByte 155 bt_builder w.heap.size acc.reverse x w3 HB3.out (by omega)).mono ?_
              rintro e w4 ⟨rfl, hb4, hw4⟩
              have hc4 := HC3.out.bld HB3.out hw4
              have HB4 := Lib.hid hb4
              have HC4 := Lib.hid hc4
              have hBw4 := hBw3.trans hw4.below
              clear hb4 hc4 hw4
              go_wp2_with fail
              exact ⟨⟨q2, j', x :: acc, rfl, by omega, hq2n, by omega, by simp; omega, HC4.out, by simpa using HB4.out, hBw4, HR2.out⟩, by simp [intOf]; omega⟩
        · by_cases hbd : c < 32 ∨ 126 < c
          · rw [lit_bad _ _ _ _ _ _ _ hcq h92 hbd] at hres
            have hcw := cutWrong_eq s q hqn
            rw [hdr] at hcw
            have h92' : ¬ (c.toNat : Int) = 92 := fun e => h92 (UInt8.toNat_inj.1 (by have : (92 : UInt8).toNat = 92 := rfl; omega))
            have hbd' : (c.toNat : Int) < 32 ∨ (¬ (c.toNat : Int) < 32 ∧ 126 < (c.toNat : Int)) := by
              rcases hbd with hbd | hbd
              · have := UInt8.lt_iff_toNat_lt.1 hbd
                have h32 : (32 : UInt8).toNat = 32 := rfl
                omega
              · have := UInt8.lt_iff_toNat_lt.1 hbd
                have h32 : (126 : UInt8).toNat = 126 := rfl
                omega
            have HRS := Lib.hid hres
            have HCW := Lib.hid hcw
            clear hres hcw hbd h92 hcq hdr
            rcases hbd' with g1 | ⟨g1, g2⟩
            all_goals
              go_wp2_with fail
              refine (cut_wrong b s k l q wr HC.out hn (by omega)).mono ?_
              rintro e w3 ⟨v, rfl, hv, hb3⟩
              rw [HCW.out] at hv
              have HV := Lib.hid hv
              clear hv
              go_wp2_with fail
              go_ret
              exact ⟨(hB.trans (hb3.mono (by omega))).mono (by omega), .inl ⟨_, v, HRS.out.symm, rfl, HV.out.mono (by omega)⟩⟩
          · have hbd' : 32 ≤ (c.toNat : Int) ∧ (c.toNat : Int) ≤ 126 := by
              constructor
              · have : ¬ c.toNat < (32 : UInt8).toNat := fun e => hbd (.inl (UInt8.lt_iff_toNat_lt.2 e))
                have h32 : (32 : UInt8).toNat = 32 := rfl
                omega
              · have : ¬ (126 : UInt8).toNat < c.toNat := fun e => hbd (.inr (UInt8.lt_iff_toNat_lt.2 e))
                have h32 : (126 : UInt8).toNat = 126 := rfl
                omega
            obtain ⟨g1, g2⟩ := hbd'
            have h92' : ¬ (c.toNat : Int) = 92 := fun e => h92 (UInt8.toNat_inj.1 (by have : (92 : UInt8).toNat = 92 := rfl; omega))
            have hs1 : (if c = 92 then Mu.escape s.length (s.drop (q + 1)) else .ok (c, s.drop (q + 1))) = .ok (c, s.drop (q + 1)) := if_neg h92
            by_cases h255 : acc.length = 255
            · rw [lit_long _ _ _ _ c _ _ _ _ hcq hs1 hbd h255] at hres
              have HR2 := Lib.hid hres
              have h255' : (acc.reverse.length : Int) = 255 := by simp; omega
              clear hres hs1 hbd h92 hcq hdr
              go_wp2_with fail
              refine (builderLen 155 w.heap.size acc.reverse wr HB.out).mono ?_
              rintro e w4 ⟨rfl, rfl⟩
              rw [h255']
              go_wp2_with fail
              refine (lex_fault 2 k wr).mono ?_
              rintro e w4 ⟨v, rfl, hv, hb4⟩
              have HV := Lib.hid hv
              clear hv
              go_wp2_with fail
              go_ret
              exact ⟨(hB.trans (hb4.mono (by omega))).mono (by omega), .inl ⟨_, v, HR2.out.symm, rfl, HV.out.mono (by omega)⟩⟩
            · rw [lit_step _ _ _ _ c _ _ _ _ hcq hs1 hbd h255] at hres
              have HR2 := Lib.hid hres
              have hlr : acc.reverse.length = acc.length := by simp
              have h255' : ¬ (acc.length : Int) = 255 := by omega
              clear hres hs1 hbd h92 hcq hdr
              go_wp2_with fail
              refine (builderLen 155 w.heap.size acc.reverse wr HB.out).mono ?_
              rintro e w4 ⟨rfl, rfl⟩
              rw [hlr]
              go_wp2_with fail
              refine (writeByte 155 bt_builder w.heap.size acc.reverse c wr HB.out (by omega)).mono ?_
              rintro e w4 ⟨rfl, hb4, hw4⟩
              have hc4 := HC.out.bld HB.out hw4
              have HB4 := Lib.hid hb4
              have HC4 := Lib.hid hc4
              have hBw4 := hB.trans hw4.below
              clear hb4 hc4 hw4
              go_wp2_with fail
              exact ⟨⟨q + 1, j', c :: acc, rfl, by omega, by omega, by omega, by simp; omega, HC4.out, by simpa using HB4.out, hBw4, HR2.out⟩, by simp [intOf]; omega⟩

end Go.Proofs.YtdmhjnnogcpccaaGreatDoor
end
