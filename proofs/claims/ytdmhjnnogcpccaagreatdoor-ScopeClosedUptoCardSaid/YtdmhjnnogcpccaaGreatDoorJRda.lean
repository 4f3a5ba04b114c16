/- class.reader: is, pick, wrong, sign. class.reader: sign. -/
import Derived.Test.YtdmhjnnogcpccaaGreatDoorJSgn
import Derived.StillTailTactics
section
namespace Go.Proofs.YtdmhjnnogcpccaaGreatDoor
open Go.RowKit
open Mu (Cl Bs Nd Ru Gr Tk)
set_option linter.unusedSimpArgs false
set_option linter.unusedVariables false

theorem block_set {w : World} {g i : Nat} {cs : Array Value} {t : TypeId} {fr : Nat × Nat} (h : w.heap[g]? = some (.cells cs t fr)) (v : Value) : (w.setCell ⟨g, i, none⟩ v).heap[g]? = some (.cells (cs.setIfInBounds i v) t fr) := by
  obtain ⟨hb, h1⟩ := Array.getElem?_eq_some_iff.1 h
  simp [World.setCell, Array.getElem_modify, h1, hb]

/-- the reader of a class lies in block b: its text and its place -/
def IsRd (b : Nat) (s : Bs) (k : Nat) (w : World) : Prop := w.heap[b]? = some (.cells #[.string (ba s), .int .i64 (k : Int)] 241)

/-- a fault in a block of its own -/
def IsFlt (B : Nat) (v : Value) (f : Mu.Flt) (w : World) : Prop :=
  ∃ p, B ≤ p ∧ v = .iface 83 (.pointer (some ⟨p, 0, none⟩)) ∧ w.heap[p]? = some (.cells #[.int .i64 f.code, .int .i64 f.place] 86)

theorem IsFlt.keep {B : Nat} {v : Value} {f : Mu.Flt} {w w' : World} (h : IsFlt B v f w) (hb : Below w.heap.size w w') : IsFlt B v f w' := by
  obtain ⟨p, h1, h2, h3⟩ := h
  exact ⟨p, h1, h2, by rw [hb.block _ (lt_of_block h3)]; exact h3⟩

theorem IsFlt.mono {B B' : Nat} {v : Value} {f : Mu.Flt} {w : World} (h : IsFlt B v f w) (hb : B' ≤ B) : IsFlt B' v f w := by
  obtain ⟨p, h1, h2, h3⟩ := h
  exact ⟨p, by omega, h2, h3⟩

/-- what a method on block b leaves of the rest: each other block -/
structure Rf (b : Nat) (w w' : World) : Prop where
  below : Below b w w'
  others : ∀ k, k < w.heap.size → k ≠ b → w'.heap[k]? = w.heap[k]?

theorem Rf.refl (b : Nat) (w : World) : Rf b w w := ⟨Below.refl _ _, fun _ _ _ => rfl⟩
theorem Rf.size {b : Nat} {w w' : World} (h : Rf b w w') : w.heap.size ≤ w'.heap.size := h.below.size
theorem Rf.trans {b : Nat} {w w1 w2 : World} (h : Rf b w w1) (k : Rf b w1 w2) : Rf b w w2 :=
  ⟨h.below.trans k.below, fun j hj hne => (k.others j (Nat.lt_of_lt_of_le hj h.size) hne).trans (h.others j hj hne)⟩
theorem Rf.of_below {b : Nat} {w w1 : World} (h : Below w.heap.size w w1) (hb : b ≤ w.heap.size) : Rf b w w1 := ⟨h.mono hb, fun j hj _ => h.block j hj⟩
theorem Rf.set {b : Nat} (w : World) (o : Nat) (v : Value) : Rf b w (w.setCell ⟨b, o, none⟩ v) :=
  ⟨(Below.refl b w).setCell (p := ⟨b, o, none⟩) (Nat.le_refl b) _, fun k _ hne => Below.heap_setCell w ⟨b, o, none⟩ v k hne⟩
theorem Rf.keep {b : Nat} {w w' : World} (h : Rf b w w') {k : Nat} {o : Obj} (hk : w.heap[k]? = some o) (hne : k ≠ b) : w'.heap[k]? = some o := (h.others k (lt_of_block hk) hne).trans hk
/-- a method on a new block -/
theorem Rf.fresh {b : Nat} {w w1 w2 : World} (h : Below w.heap.size w w1) (k : Rf b w1 w2) (hb : w.heap.size ≤ b) : Below w.heap.size w w2 := h.trans (k.below.mono hb)

/-- which of some bytes comes; below 0: none -/
def pk (of : Bs) : Bs → Int
  | [] => -1
  | c :: _ => Lib.indexByte of c

theorem IsRd.cells {b : Nat} {s : Bs} {k : Nat} {w : World} (h : IsRd b s k w) : w.cell? ⟨b, 0, none⟩ = some (.string (ba s)) ∧ w.cell? ⟨b, 1, none⟩ = some (.int .i64 (k : Int)) ∧ w.frozen? ⟨b, 1, none⟩ = false ∧ b < w.heap.size :=
  ⟨cell_at h 0, cell_at h 1, unfrozen_at h 1, lt_of_block h⟩

theorem IsRd.moved {b : Nat} {s : Bs} {k : Nat} {w : World} (h : IsRd b s k w) (m : Nat) (x : Int) (hx : x = (m : Int)) : IsRd b s m (w.setCell ⟨b, 1, none⟩ (.int .i64 x)) := by
  subst hx
  unfold IsRd
  rw [block_set h]
  rfl

theorem IsRd.keep {b : Nat} {s : Bs} {k : Nat} {w w' : World} (h : IsRd b s k w) (hb : Below w.heap.size w w') : IsRd b s k w' := by
  unfold IsRd
  rw [hb.block _ (lt_of_block h)]
  exact h

set_option maxHeartbeats 1000000 in
set_option maxRecDepth 20000 in
theorem rd_is (b : Nat) (s : Bs) (k : Nat) (c : UInt8) (w : World) (h : IsRd b s k w) (hk : k ≤ s.length) (hn : s.length ≤ 100000) :
    Calls Tryz.prog 192 #[.pointer (some ⟨b, 0, none⟩), .int .u8 c.toNat] w fun e w' => e = .returned (.bool ((s.drop k).head? == some c)) ∧ IsRd b s k w' ∧ Below w.heap.size w w' := by
  obtain ⟨c0, c1, f1, hlt⟩ := h.cells
  have hsz : (ba s).size = s.length := rfl
  have H := Lib.hid h
  clear h
  by_cases hl : k < s.length
  · have hdr : s.drop k = s[k] :: s.drop (k + 1) := List.drop_eq_getElem_cons hl
    have hg : (ba s)[k] = s[k] := rfl
    generalize hd : s[k] = d at hdr hg
    have hhd : (s.drop k).head? = some d := by rw [hdr]; rfl
    have HH := Lib.hid hhd
    clear hhd hdr hd
    by_cases hdc : d = c
    · subst hdc
      go_enter Tryz.func192, Tryz.ntmps192
      go_wp2_with fail
      go_quiet (fail)
      go_wp2
      go_ret
      exact ⟨by rw [HH.out]; simp, H.out.keep (by (repeat' (first | exact Below.refl _ _ | assumption | refine Below.drew ?_ | refine Below.drewN' ?_ _ | refine Below.setCell ?_ (by first | (simp; done) | omega | (simp; omega)) _ | refine Below.alloc ?_ (by first | (simp; done) | omega | (simp; omega)) _ | refine Below.step ?_ (by assumption) (by first | (simp; done) | omega | (simp; omega))))), by (repeat' (first | exact Below.refl _ _ | assumption | refine Below.drew ?_ | refine Below.drewN' ?_ _ | refine Below.setCell ?_ (by first | (simp; done) | omega | (simp; omega)) _ | refine Below.alloc ?_ (by first | (simp; done) | omega | (simp; omega)) _ | refine Below.step ?_ (by assumption) (by first | (simp; done) | omega | (simp; omega))))⟩
    · have hne : ¬ ((d.toNat : Int) = (c.toNat : Int)) := fun e => hdc (UInt8.toNat_inj.1 (by omega))
      have HNE := Lib.hid hdc
      clear hdc
      go_enter Tryz.func192, Tryz.ntmps192
      go_wp2_with fail
      go_quiet (fail)
      go_wp2
      go_ret
      exact ⟨by rw [HH.out]; have e1 : ((d.toNat : Int) == (c.toNat : Int)) = false := beq_eq_false_iff_ne.2 hne; have e2 : (d == c) = false := beq_eq_false_iff_ne.2 HNE.out; simp [e1, e2], H.out.keep (by (repeat' (first | exact Below.refl _ _ | assumption | refine Below.drew ?_ | refine Below.drewN' ?_ _ | refine Below.setCell ?_ (by first | (simp; done) | omega | (simp; omega)) _ | refine Below.alloc ?_ (by first | (simp; done) | omega | (simp; omega)) _ | refine Below.step ?_ (by assumption) (by first | (simp; done) | omega | (simp; omega))))), by (repeat' (first | exact Below.refl _ _ | assumption | refine Below.drew ?_ | refine Below.drewN' ?_ _ | refine Below.setCell ?_ (by first | (simp; done) | omega | (simp; omega)) _ | refine Below.alloc ?_ (by first | (simp; done) | omega | (simp; omega)) _ | refine Below.step ?_ (by assumption) (by first | (simp; done) | omega | (simp; omega))))⟩
  · have hke : k = s.length := by omega
    subst hke
    go_enter Tryz.func192, Tryz.ntmps192
    go_wp2_with fail
    go_quiet (fail)
    go_wp2
    go_ret
    exact ⟨by simp, H.out.keep (by (repeat' (first | exact Below.refl _ _ | assumption | refine Below.drew ?_ | refine Below.drewN' ?_ _ | refine Below.setCell ?_ (by first | (simp; done) | omega | (simp; omega)) _ | refine Below.alloc ?_ (by first | (simp; done) | omega | (simp; omega)) _ | refine Below.step ?_ (by assumption) (by first | (simp; done) | omega | (simp; omega))))), by (repeat' (first | exact Below.refl _ _ | assumption | refine Below.drew ?_ | refine Below.drewN' ?_ _ | refine Below.setCell ?_ (by first | (simp; done) | omega | (simp; omega)) _ | refine Below.alloc ?_ (by first | (simp; done) | omega | (simp; omega)) _ | refine Below.step ?_ (by assumption) (by first | (simp; done) | omega | (simp; omega))))⟩

set_option maxHeartbeats 1000000 in
set_option maxRecDepth 20000 in
theorem rd_pick (b : Nat) (s : Bs) (k : Nat) (l : Bs) (w : World) (h : IsRd b s k w) (hk : k ≤ s.length) (hn : s.length ≤ 100000) :
    Calls Tryz.prog 176 #[.pointer (some ⟨b, 0, none⟩), .string (ba l)] w fun e w' => e = .returned (.int .i64 (pk l (s.drop k))) ∧ IsRd b s (if 0 ≤ pk l (s.drop k) then k + 1 else k) w' ∧ Rf b w w' := by
  obtain ⟨c0, c1, f1, hlt⟩ := h.cells
  have hsz : (ba s).size = s.length := rfl
  have H := Lib.hid h
  clear h
  by_cases hl : k < s.length
  · have hdr : s.drop k = s[k] :: s.drop (k + 1) := List.drop_eq_getElem_cons hl
    have hg : (ba s)[k] = s[k] := rfl
    generalize hd : s[k] = d at hdr hg
    have hpk : pk l (s.drop k) = Lib.indexByte l d := by rw [hdr]; rfl
    rw [hpk]
    generalize hr : Lib.indexByte l d = r
    have hr' : Lib.indexByte l d.toNat.toUInt8 = r := by rw [← hr]; simp
    have HR := Lib.hid hr'
    clear hr hr' hpk hdr hd
    by_cases hr0 : 0 ≤ r
    · rw [if_pos hr0]
      go_enter Tryz.func176, Tryz.ntmps176
      go_wp2_with fail
      go_quiet (fail)
      go_wp2_with fail
      go_quiet (first | (go_at_call 77; refine (idxByteAt (ba l) d.toNat r HR.out _).mono ?_; rintro e w1 ⟨rfl, rfl⟩; exact ⟨rfl, _, rfl⟩))
      go_wp2
      go_ret
      exact ⟨rfl, IsRd.moved (H.out.keep (by (repeat' (first | exact Below.refl _ _ | assumption | refine Below.drew ?_ | refine Below.drewN' ?_ _ | refine Below.setCell ?_ (by first | (simp; done) | omega | (simp; omega)) _ | refine Below.alloc ?_ (by first | (simp; done) | omega | (simp; omega)) _ | refine Below.step ?_ (by assumption) (by first | (simp; done) | omega | (simp; omega)))))) _ _ (by omega), Rf.trans (Rf.of_below (by (repeat' (first | exact Below.refl _ _ | assumption | refine Below.drew ?_ | refine Below.drewN' ?_ _ | refine Below.setCell ?_ (by first | (simp; done) | omega | (simp; omega)) _ | refine Below.alloc ?_ (by first | (simp; done) | omega | (simp; omega)) _ | refine Below.step ?_ (by assumption) (by first | (simp; done) | omega | (simp; omega))))) (by omega)) (Rf.set _ _ _)⟩
    · rw [if_neg hr0]
      go_enter Tryz.func176, Tryz.ntmps176
      go_wp2_with fail
      go_quiet (fail)
      go_wp2_with fail
      go_quiet (first | (go_at_call 77; refine (idxByteAt (ba l) d.toNat r HR.out _).mono ?_; rintro e w1 ⟨rfl, rfl⟩; exact ⟨rfl, _, rfl⟩))
      go_wp2
      go_ret
      exact ⟨rfl, H.out.keep (by (repeat' (first | exact Below.refl _ _ | assumption | refine Below.drew ?_ | refine Below.drewN' ?_ _ | refine Below.setCell ?_ (by first | (simp; done) | omega | (simp; omega)) _ | refine Below.alloc ?_ (by first | (simp; done) | omega | (simp; omega)) _ | refine Below.step ?_ (by assumption) (by first | (simp; done) | omega | (simp; omega))))), Rf.of_below (by (repeat' (first | exact Below.refl _ _ | assumption | refine Below.drew ?_ | refine Below.drewN' ?_ _ | refine Below.setCell ?_ (by first | (simp; done) | omega | (simp; omega)) _ | refine Below.alloc ?_ (by first | (simp; done) | omega | (simp; omega)) _ | refine Below.step ?_ (by assumption) (by first | (simp; done) | omega | (simp; omega))))) (by omega)⟩
  · have hke : k = s.length := by omega
    subst hke
    have hpk : pk l (s.drop s.length) = -1 := by simp [pk]
    rw [hpk, if_neg (by decide)]
    clear hpk
    go_enter Tryz.func176, Tryz.ntmps176
    go_wp2_with fail
    go_quiet (fail)
    go_wp2
    go_ret
    exact ⟨rfl, H.out.keep (by (repeat' (first | exact Below.refl _ _ | assumption | refine Below.drew ?_ | refine Below.drewN' ?_ _ | refine Below.setCell ?_ (by first | (simp; done) | omega | (simp; omega)) _ | refine Below.alloc ?_ (by first | (simp; done) | omega | (simp; omega)) _ | refine Below.step ?_ (by assumption) (by first | (simp; done) | omega | (simp; omega))))), Rf.of_below (by (repeat' (first | exact Below.refl _ _ | assumption | refine Below.drew ?_ | refine Below.drewN' ?_ _ | refine Below.setCell ?_ (by first | (simp; done) | omega | (simp; omega)) _ | refine Below.alloc ?_ (by first | (simp; done) | omega | (simp; omega)) _ | refine Below.step ?_ (by assumption) (by first | (simp; done) | omega | (simp; omega))))) (by omega)⟩

set_option maxHeartbeats 1000000 in
set_option maxRecDepth 20000 in
theorem rd_wrong (b : Nat) (s : Bs) (k : Nat) (w : World) (h : IsRd b s k w) (hk : k ≤ s.length) (hn : s.length ≤ 100000) :
    Calls Tryz.prog 177 #[.pointer (some ⟨b, 0, none⟩)] w fun e w' => ∃ v, e = .returned v ∧ IsFlt w.heap.size v (Mu.clWrong s.length (s.drop k)) w' ∧ IsRd b s k w' ∧ Below w.heap.size w w' := by
  obtain ⟨c0, c1, f1, hlt⟩ := h.cells
  have hsz : (ba s).size = s.length := rfl
  have H := Lib.hid h
  clear h
  by_cases hl : k < s.length
  · have hwr : Mu.clWrong s.length (s.drop k) = ⟨4, (k : Int)⟩ := by
      have h1 : s.drop k ≠ [] := by
        intro h
        have := congrArg List.length h
        simp at this
        omega
      rw [Mu.clWrong, if_neg h1]
      simp
      omega
    rw [hwr]
    clear hwr
    go_enter Tryz.func177, Tryz.ntmps177
    go_wp2_with fail
    go_quiet (fail)
    go_wp2
    go_ret
    exact ⟨_, rfl, ⟨_, by simp, rfl, last_block _ _⟩, H.out.keep (by (repeat' (first | exact Below.refl _ _ | assumption | refine Below.drew ?_ | refine Below.drewN' ?_ _ | refine Below.setCell ?_ (by first | (simp; done) | omega | (simp; omega)) _ | refine Below.alloc ?_ (by first | (simp; done) | omega | (simp; omega)) _ | refine Below.step ?_ (by assumption) (by first | (simp; done) | omega | (simp; omega))))), by (repeat' (first | exact Below.refl _ _ | assumption | refine Below.drew ?_ | refine Below.drewN' ?_ _ | refine Below.setCell ?_ (by first | (simp; done) | omega | (simp; omega)) _ | refine Below.alloc ?_ (by first | (simp; done) | omega | (simp; omega)) _ | refine Below.step ?_ (by assumption) (by first | (simp; done) | omega | (simp; omega))))⟩
  · have hke : k = s.length := by omega
    subst hke
    have hwr : Mu.clWrong s.length (s.drop s.length) = ⟨3, (s.length : Int)⟩ := by simp [Mu.clWrong]
    rw [hwr]
    clear hwr
    go_enter Tryz.func177, Tryz.ntmps177
    go_wp2_with fail
    go_quiet (fail)
    go_wp2
    go_ret
    exact ⟨_, rfl, ⟨_, by simp, rfl, last_block _ _⟩, H.out.keep (by (repeat' (first | exact Below.refl _ _ | assumption | refine Below.drew ?_ | refine Below.drewN' ?_ _ | refine Below.setCell ?_ (by first | (simp; done) | omega | (simp; omega)) _ | refine Below.alloc ?_ (by first | (simp; done) | omega | (simp; omega)) _ | refine Below.step ?_ (by assumption) (by first | (simp; done) | omega | (simp; omega))))), by (repeat' (first | exact Below.refl _ _ | assumption | refine Below.drew ?_ | refine Below.drewN' ?_ _ | refine Below.setCell ?_ (by first | (simp; done) | omega | (simp; omega)) _ | refine Below.alloc ?_ (by first | (simp; done) | omega | (simp; omega)) _ | refine Below.step ?_ (by assumption) (by first | (simp; done) | omega | (simp; omega))))⟩

end Go.Proofs.YtdmhjnnogcpccaaGreatDoor
end

section
namespace Go.Proofs.YtdmhjnnogcpccaaGreatDoor
open Go.RowKit
open Mu (Cl Bs Nd Ru Gr Tk)
set_option linter.unusedSimpArgs false
set_option linter.unusedVariables false

def escOf (d : UInt8) : Option Nat := if d = 110 then some 10 else if d = 114 then some 13 else if d = 116 then some 9 else if Mu.marked.contains d then some d.toNat else none

theorem clWrong_cons (n : Nat) (c : UInt8) (r : Bs) : Mu.clWrong n (c :: r) = ⟨4, (n : Int) - (r.length + 1 : Nat)⟩ := by simp [Mu.clWrong]
theorem clWrong_nil (n : Nat) : Mu.clWrong n [] = ⟨3, n⟩ := rfl

theorem clRead_nil (n : Nat) : Mu.clRead n [] = .error (Mu.clWrong n []) := rfl
theorem clRead_bad (n : Nat) (c : UInt8) (r : Bs) (h : c ≠ 92) (hb : c < 32 ∨ 126 < c ∨ Mu.marked.contains c) : Mu.clRead n (c :: r) = .error (Mu.clWrong n (c :: r)) := by
  rw [clWrong_cons]; simp only [Mu.clRead, if_neg h, if_pos hb]
theorem clRead_good (n : Nat) (c : UInt8) (r : Bs) (h : c ≠ 92) (hb : ¬ (c < 32 ∨ 126 < c ∨ Mu.marked.contains c)) : Mu.clRead n (c :: r) = .ok (c.toNat, r) := by
  simp only [Mu.clRead, if_neg h, if_neg hb]
theorem clRead_esc0 (n : Nat) : Mu.clRead n [92] = .error (Mu.clWrong n []) := rfl
theorem clRead_esc (n : Nat) (d : UInt8) (q : Bs) (v : Nat) (h : escOf d = some v) : Mu.clRead n (92 :: d :: q) = .ok (v, q) := by
  unfold escOf at h
  simp only [Mu.clRead, if_true]
  repeat' split at h
  all_goals first | (cases h; done) | (cases h; simp_all; done) | (simp_all; done)
theorem clRead_escBad (n : Nat) (d : UInt8) (q : Bs) (h : escOf d = none) (hd : d ≠ 120) : Mu.clRead n (92 :: d :: q) = .error (Mu.clWrong n (d :: q)) := by
  rw [clWrong_cons]
  unfold escOf at h
  simp only [Mu.clRead, if_true]
  repeat' split at h
  all_goals first | (cases h; done) | simp_all
theorem clRead_x0 (n : Nat) : Mu.clRead n [92, 120] = .error (Mu.clWrong n []) := rfl
theorem clRead_x1 (n : Nat) (e : UInt8) (q : Bs) (h : Mu.hexVal e = none) : Mu.clRead n (92 :: 120 :: e :: q) = .error (Mu.clWrong n (e :: q)) := by
  rw [clWrong_cons]
  simp [Mu.clRead, h, Mu.marked]
theorem clRead_x2 (n : Nat) (e : UInt8) (a : Nat) (h : Mu.hexVal e = some a) : Mu.clRead n (92 :: 120 :: e :: []) = .error (Mu.clWrong n []) := by
  simp [Mu.clRead, h, Mu.marked, Mu.clWrong]
theorem clRead_x3 (n : Nat) (e f : UInt8) (q : Bs) (a : Nat) (h : Mu.hexVal e = some a) (h2 : Mu.hexVal f = none) : Mu.clRead n (92 :: 120 :: e :: f :: q) = .error (Mu.clWrong n (f :: q)) := by
  rw [clWrong_cons]
  simp [Mu.clRead, h, h2, Mu.marked]
theorem clRead_x4 (n : Nat) (e f : UInt8) (q : Bs) (a l : Nat) (h : Mu.hexVal e = some a) (h2 : Mu.hexVal f = some l) : Mu.clRead n (92 :: 120 :: e :: f :: q) = .ok (16 * a + l, q) := by
  simp [Mu.clRead, h, h2, Mu.marked]

theorem esc_letters : ∀ d : Fin 256, 0 ≤ Lib.indexByte [110, 114, 116] (UInt8.ofNat d.val) → Lib.indexByte [110, 114, 116] (UInt8.ofNat d.val) < 3 ∧ escOf (UInt8.ofNat d.val) = some (([10, 13, 9] : Bs).getD (Lib.indexByte [110, 114, 116] (UInt8.ofNat d.val)).toNat 0).toNat := by decide +kernel
theorem esc_marked : ∀ d : Fin 256, Lib.indexByte [110, 114, 116] (UInt8.ofNat d.val) < 0 → 0 ≤ Lib.indexByte [91, 93, 92, 45, 94] (UInt8.ofNat d.val) → Lib.indexByte [91, 93, 92, 45, 94] (UInt8.ofNat d.val) < 5 ∧ escOf (UInt8.ofNat d.val) = some (([91, 93, 92, 45, 94] : Bs).getD (Lib.indexByte [91, 93, 92, 45, 94] (UInt8.ofNat d.val)).toNat 0).toNat := by decide +kernel
theorem esc_none : ∀ d : Fin 256, Lib.indexByte [110, 114, 116] (UInt8.ofNat d.val) < 0 → Lib.indexByte [91, 93, 92, 45, 94] (UInt8.ofNat d.val) < 0 → escOf (UInt8.ofNat d.val) = none := by decide +kernel
theorem esc_x : ∀ d : Fin 256, (0 ≤ Lib.indexByte [120] (UInt8.ofNat d.val) ↔ UInt8.ofNat d.val = 120) := by decide +kernel
theorem hex_idx : ∀ d : Fin 256, (0 ≤ Lib.indexByte [48, 49, 50, 51, 52, 53, 54, 55, 56, 57, 97, 98, 99, 100, 101, 102] (UInt8.ofNat d.val) → Lib.indexByte [48, 49, 50, 51, 52, 53, 54, 55, 56, 57, 97, 98, 99, 100, 101, 102] (UInt8.ofNat d.val) < 16 ∧ Mu.hexVal (UInt8.ofNat d.val) = some (Lib.indexByte [48, 49, 50, 51, 52, 53, 54, 55, 56, 57, 97, 98, 99, 100, 101, 102] (UInt8.ofNat d.val)).toNat) ∧ (Lib.indexByte [48, 49, 50, 51, 52, 53, 54, 55, 56, 57, 97, 98, 99, 100, 101, 102] (UInt8.ofNat d.val) < 0 → Mu.hexVal (UInt8.ofNat d.val) = none) := by decide +kernel
theorem marked_idx : ∀ d : Fin 256, (0 ≤ Lib.indexByte [91, 93, 92, 45, 94] (UInt8.ofNat d.val) ↔ Mu.marked.contains (UInt8.ofNat d.val) = true) := by decide +kernel

theorem by8 {P : UInt8 → Prop} (h : ∀ d : Fin 256, P (UInt8.ofNat d.val)) (c : UInt8) : P c := by
  have := h ⟨c.toNat, c.toNat_lt⟩
  simpa using this

theorem hexVal_lt : ∀ d : Fin 256, ∀ a, Mu.hexVal (UInt8.ofNat d.val) = some a → a < 16 := by
  intro d a h
  rcases Int.lt_or_le (Lib.indexByte [48, 49, 50, 51, 52, 53, 54, 55, 56, 57, 97, 98, 99, 100, 101, 102] (UInt8.ofNat d.val)) 0 with h1 | h1
  · rw [(hex_idx d).2 h1] at h; cases h
  · have := (hex_idx d).1 h1
    rw [this.2] at h
    cases h
    omega

def SignEnd (b : Nat) (s : Bs) (k : Nat) (w : World) (e : Ending) (w' : World) : Prop := Rf b w w' ∧
  ((∃ f v, Mu.clRead s.length (s.drop k) = .error f ∧ e = .returned (.tuple #[.int .i64 0, v]) ∧ IsFlt w.heap.size v f w') ∨
   (∃ (n : Nat) (k' : Nat), Mu.clRead s.length (s.drop k) = .ok (n, s.drop k') ∧ n < 256 ∧ k < k' ∧ k' ≤ s.length ∧ e = .returned (.tuple #[.int .i64 (n : Int), .nilIface]) ∧ IsRd b s k' w'))

/-- the place behind 'k' of a text -/
theorem drop_cases (s : Bs) (k : Nat) (hk : k ≤ s.length) : (k = s.length ∧ s.drop k = []) ∨ ∃ c, k < s.length ∧ s.drop k = c :: s.drop (k + 1) ∧ ∀ h, s[k]'h = c := by
  rcases Nat.lt_or_ge k s.length with h | h
  · exact .inr ⟨s[k], h, List.drop_eq_getElem_cons h, fun _ => rfl⟩
  · have : k = s.length := by omega
    subst this
    exact .inl ⟨rfl, by simp⟩

end Go.Proofs.YtdmhjnnogcpccaaGreatDoor
end
