/- class.sign and class.Text: a class as a text. class.Text: a class as a text. How trees, rules and grammars lie in memory: which cells hold them, and in which blocks. lex: letters, digits, names. lex.Quote: bytes as a literal. -/
import Derived.Test.YtdmhjnnogcpccaaGreatDoorJBas
import Derived.Test.YtdmhjnnogcpccaaGreatDoorJBld
import Derived.Test.YtdmhjnnogcpccaaGreatDoorJShf
import Derived.StillTailTactics
section
namespace Go.Proofs.YtdmhjnnogcpccaaGreatDoor
open Go.RowKit
open Mu (Cl Bs Nd Ru Gr Tk)
set_option linter.unusedSimpArgs false
set_option linter.unusedVariables false

theorem idxByte (s : ByteArray) (n : Nat) (w : World) :
    Calls Tryz.prog 77 #[.string s, .int .u8 n] w fun e w' => e = .returned (.int .i64 (Lib.indexByte s.data.toList n.toUInt8)) ∧ w = w' :=
  (Tryz.strings_IndexByte s n w).mono fun e w' h => by
    obtain ⟨h1, h2⟩ := h
    exact ⟨by rw [h1]; rfl, h2.symm⟩

/-- a byte array of these bytes -/
abbrev ba (l : Bs) : ByteArray := ⟨l.toArray⟩

def SignPost (n : Nat) (w : World) (e : Ending) (w' : World) : Prop := e = .returned (.string (ba (Mu.clSign (UInt8.ofNat n)))) ∧ Below w.heap.size w w'

theorem idxByteAt (s : ByteArray) (n : Nat) (r : Int) (hr : Lib.indexByte s.data.toList n.toUInt8 = r) (w : World) :
    Calls Tryz.prog 77 #[.string s, .int .u8 n] w fun e w' => e = .returned (.int .i64 r) ∧ w = w' := by
  rw [← hr]
  exact idxByte s n w

theorem idx_none (c : UInt8) : ∀ l : Bs, c ∉ l → Lib.indexByte l c = -1
  | [], _ => rfl
  | b :: l, h => by
    have h1 : (b == c) = false := by
      rw [beq_eq_false_iff_ne]
      rintro rfl
      exact h (by simp)
    have h2 := idx_none c l (fun hm => h (by simp [hm]))
    simp [Lib.indexByte, h1, h2]

theorem idx_some (c : UInt8) : ∀ l : Bs, c ∈ l → 0 ≤ Lib.indexByte l c ∧ Lib.indexByte l c < l.length ∧ l.getD (Lib.indexByte l c).toNat 0 = c
  | [], h => by simp at h
  | b :: l, h => by
    by_cases hb : b = c
    · subst hb
      simp [Lib.indexByte]
    · have hm : c ∈ l := by
        rcases List.mem_cons.1 h with h | h
        · exact absurd h.symm hb
        · exact h
      have ih := idx_some c l hm
      have h1 : (b == c) = false := by rw [beq_eq_false_iff_ne]; exact hb
      have h2 : (Lib.indexByte l c == -1) = false := by rw [beq_eq_false_iff_ne]; omega
      have h3 : Lib.indexByte (b :: l) c = Lib.indexByte l c + 1 := by simp [Lib.indexByte, h1, h2]
      rw [h3]
      refine ⟨by omega, by simp; omega, ?_⟩
      have h4 : (Lib.indexByte l c + 1).toNat = (Lib.indexByte l c).toNat + 1 := by omega
      rw [h4]
      simpa using ih.2.2

theorem hex_sign : ∀ n : Fin 256, (n.val < 32 ∨ 126 < n.val) ∧ n.val ≠ 10 ∧ n.val ≠ 13 ∧ n.val ≠ 9 →
    (ba [92, 120] ++ (ba [48, 49, 50, 51, 52, 53, 54, 55, 56, 57, 97, 98, 99, 100, 101, 102]).extract (n.val / 16) (n.val / 16 + 1) ++ (ba [48, 49, 50, 51, 52, 53, 54, 55, 56, 57, 97, 98, 99, 100, 101, 102]).extract (n.val % 16) (n.val % 16 + 1)) = ba (Mu.clSign (UInt8.ofNat n.val)) := by decide +kernel

theorem enc_byte : ∀ n : Fin 128, Utf8.encode (n.val : Int) = ba [UInt8.ofNat n.val] := by decide +kernel

theorem sign_marked : ∀ n : Fin 256, (n.val = 91 ∨ n.val = 93 ∨ n.val = 92 ∨ n.val = 45 ∨ n.val = 94) → (ba [92] ++ ba [UInt8.ofNat n.val]) = ba (Mu.clSign (UInt8.ofNat n.val)) := by decide +kernel

theorem sign_plain : ∀ n : Fin 256, ¬ (n.val < 32 ∨ 126 < n.val) ∧ ¬ (n.val = 91 ∨ n.val = 93 ∨ n.val = 92 ∨ n.val = 45 ∨ n.val = 94) → ba [UInt8.ofNat n.val] = ba (Mu.clSign (UInt8.ofNat n.val)) := by decide +kernel

theorem idx_marked : ∀ n : Fin 256, (n.val = 91 ∨ n.val = 93 ∨ n.val = 92 ∨ n.val = 45 ∨ n.val = 94) → 0 ≤ Lib.indexByte [91, 93, 92, 45, 94] n.val.toUInt8 := by decide +kernel

attribute [local irreducible] Utf8.encode

set_option maxHeartbeats 1000000 in
set_option maxRecDepth 20000 in
theorem class_sign (n : Nat) (hn : n < 256) (w : World) : Calls Tryz.prog 159 #[.int .i64 n] w (SignPost n w) := by
  by_cases h1 : n = 10
  · subst h1
    go_enter Tryz.func159, Tryz.ntmps159
    go_wp2_with fail
    refine (idxByteAt _ 10 0 (by decide) _).mono ?_
    rintro e w1 ⟨rfl, rfl⟩
    go_wp2_with fail
    go_ret
    exact ⟨rfl, Below.refl _ _⟩
  by_cases h2 : n = 13
  · subst h2
    go_enter Tryz.func159, Tryz.ntmps159
    go_wp2_with fail
    refine (idxByteAt _ 13 1 (by decide) _).mono ?_
    rintro e w1 ⟨rfl, rfl⟩
    go_wp2_with fail
    go_ret
    exact ⟨rfl, Below.refl _ _⟩
  by_cases h3 : n = 9
  · subst h3
    go_enter Tryz.func159, Tryz.ntmps159
    go_wp2_with fail
    refine (idxByteAt _ 9 2 (by decide) _).mono ?_
    rintro e w1 ⟨rfl, rfl⟩
    go_wp2_with fail
    go_ret
    exact ⟨rfl, Below.refl _ _⟩
  have hu : (n.toUInt8).toNat = n := by simp; omega
  have e1 : Lib.indexByte [10, 13, 9] n.toUInt8 = -1 := idx_none _ _ (by
    intro hm
    have : n.toUInt8 = 10 ∨ n.toUInt8 = 13 ∨ n.toUInt8 = 9 := by simpa using hm
    rcases this with h | h | h <;> (have := congrArg UInt8.toNat h; rw [hu] at this; simp at this; omega))
  by_cases h4 : n < 32 ∨ 126 < n
  · have E1 := Lib.hid e1
    clear e1 hu
    have h5 : ¬ (32 ≤ n ∧ n ≤ 126) := by omega
    have hx := hex_sign ⟨n, hn⟩ ⟨h4, h1, h2, h3⟩
    simp only at hx
    have HX := Lib.hid hx
    clear hx
    rcases h4 with h4 | h4
    all_goals
      go_enter Tryz.func159, Tryz.ntmps159
      go_wp2_with fail
      refine (idxByteAt (ba [10, 13, 9]) n (-1) E1.out w).mono ?_
      rintro e w1 ⟨rfl, rfl⟩
      go_wp2_with fail
      go_quiet (fail)
      go_wp2
      go_ret
      exact ⟨congrArg (fun z => Ending.returned (Value.string z)) HX.out, by (repeat' (first | exact Below.refl _ _ | assumption | refine Below.drew ?_ | refine Below.drewN' ?_ _ | refine Below.setCell ?_ (by first | (simp; done) | omega | (simp; omega)) _ | refine Below.alloc ?_ (by first | (simp; done) | omega | (simp; omega)) _ | refine Below.step ?_ (by assumption) (by first | (simp; done) | omega | (simp; omega))))⟩
  · have E1 := Lib.hid e1
    clear e1
    have h5 : 32 ≤ n := by omega
    have h6 : n ≤ 126 := by omega
    have hen := enc_byte ⟨n, by omega⟩
    by_cases h7 : n = 91 ∨ n = 93 ∨ n = 92 ∨ n = 45 ∨ n = 94
    · have hm := sign_marked ⟨n, hn⟩ h7
      have hx := idx_marked ⟨n, hn⟩ h7
      have hz1 : (ba [UInt8.ofNat n]).size = 1 := rfl
      simp only at hm hx hen
      generalize ba [UInt8.ofNat n] = z at hm hen hz1
      have hes : (Utf8.encode (n : Int)).size = 1 := by rw [hen]; exact hz1
      have HEN := Lib.hid hen
      clear hen hz1
      generalize hr : Lib.indexByte [91, 93, 92, 45, 94] n.toUInt8 = r at hx
      have HM := Lib.hid hm
      have HR := Lib.hid hr
      have H7 := Lib.hid h7
      clear hm hr h7 hu h4
      go_enter Tryz.func159, Tryz.ntmps159
      go_wp2_with fail
      refine (idxByteAt (ba [10, 13, 9]) n (-1) E1.out w).mono ?_
      rintro e w1 ⟨rfl, rfl⟩
      go_wp2_with fail
      refine (idxByteAt (ba [91, 93, 92, 45, 94]) n r HR.out w).mono ?_
      rintro e w1 ⟨rfl, rfl⟩
      go_wp2_with fail
      go_ret
      refine ⟨?_, Below.refl _ _⟩
      rw [← HM.out, ← HEN.out]
      rfl
    · have e2 : Lib.indexByte [91, 93, 92, 45, 94] n.toUInt8 = -1 := idx_none _ _ (by
        intro hm
        have : n.toUInt8 = 91 ∨ n.toUInt8 = 93 ∨ n.toUInt8 = 92 ∨ n.toUInt8 = 45 ∨ n.toUInt8 = 94 := by simpa using hm
        rcases this with h | h | h | h | h <;> (have := congrArg UInt8.toNat h; rw [hu] at this; simp at this; omega))
      have E2 := Lib.hid e2
      have H7 := Lib.hid h7
      simp only at hen
      have hp := sign_plain ⟨n, hn⟩ ⟨h4, h7⟩
      simp only at hp
      generalize ba [UInt8.ofNat n] = z at hp hen
      have HP := Lib.hid hp
      have HEN := Lib.hid hen
      clear e2 hu h7 h4 hp hen
      go_enter Tryz.func159, Tryz.ntmps159
      go_wp2_with fail
      refine (idxByteAt (ba [10, 13, 9]) n (-1) E1.out w).mono ?_
      rintro e w1 ⟨rfl, rfl⟩
      go_wp2_with fail
      refine (idxByteAt (ba [91, 93, 92, 45, 94]) n (-1) E2.out w).mono ?_
      rintro e w1 ⟨rfl, rfl⟩
      go_wp2_with fail
      go_ret
      refine ⟨?_, Below.refl _ _⟩
      rw [← HP.out, ← HEN.out]
      rfl

end Go.Proofs.YtdmhjnnogcpccaaGreatDoor
end

section
namespace Go.Proofs.YtdmhjnnogcpccaaGreatDoor
open Go.RowKit
open Mu (Cl Bs Nd Ru Gr Tk)
set_option linter.unusedSimpArgs false
set_option linter.unusedVariables false

theorem clSign_len (c : UInt8) : (Mu.clSign c).length ≤ 4 := by
  unfold Mu.clSign
  repeat' split
  all_goals simp

theorem runText_len (r : Nat × Nat) : (Mu.runText r).length ≤ 9 := by
  have h1 := clSign_len (UInt8.ofNat r.1)
  have h2 := clSign_len (UInt8.ofNat r.2)
  unfold Mu.runText
  repeat' split
  all_goals simp
  all_goals omega

theorem runs_flat_len (l : List (Nat × Nat)) : (l.flatMap Mu.runText).length ≤ 9 * l.length := by
  induction l with
  | nil => simp
  | cons r l ih =>
    have := runText_len r
    simp only [List.flatMap_cons, List.length_append, List.length_cons]
    omega

theorem runsK_mem (c : Cl) : ∀ (k lo : Nat), (lo < 256 → Mu.has c lo = true) → ∀ r ∈ Mu.runsK c k lo, r.1 ≤ r.2 ∧ r.2 < 256
  | 0, _, _, r, h => by simp [Mu.runsK] at h
  | k + 1, lo, hh, r, h => by
    by_cases hlt : lo < 256
    · have g1 := next_gt c lo hlt (hh hlt)
      have g2 := next_le c false lo (by omega)
      rw [Mu.runsK, if_pos hlt] at h
      rcases List.mem_cons.1 h with rfl | h
      · simp only
        omega
      · exact runsK_mem c k _ (next_has c true _ g2) r h
    · rw [Mu.runsK, if_neg hlt] at h
      simp at h

theorem runs_mem (c : Cl) (r : Nat × Nat) (h : r ∈ Mu.runs c) : r.1 ≤ r.2 ∧ r.2 < 256 := by
  by_cases hz : c = Cl.zero
  · rw [runs_zero c hz] at h
    simp at h
  · rw [runs_some c hz] at h
    exact runsK_mem c 256 _ (next_has c true 0 (by omega)) r h

theorem runs_length (c : Cl) : (Mu.runs c).length ≤ 256 := by
  by_cases hz : c = Cl.zero
  · rw [runs_zero c hz]; simp
  · rw [runs_some c hz]; exact runs_len c 256 _

theorem runCells_get (l : List (Nat × Nat)) (k : Nat) (h : k < l.length) : (runCells l)[k * 2]? = some (.int .i64 (l[k].1 : Nat)) ∧ (runCells l)[k * 2 + 1]? = some (.int .i64 (l[k].2 : Nat)) := by
  induction l generalizing k with
  | nil => simp at h
  | cons r l ih =>
    cases k with
    | zero => simp [runCells]
    | succ k =>
      have := ih k (by simpa using h)
      have e1 : (k + 1) * 2 = k * 2 + 1 + 1 := by omega
      simp only [runCells, List.flatMap_cons] at this ⊢
      rw [e1]
      simpa using this

theorem take_step {A : Type} (l : List A) (k : Nat) (h : k < l.length) : l.take (k + 1) = l.take k ++ [l[k]] := by
  rw [List.take_succ_eq_append_getElem h]

def TextPost (c : Cl) (w : World) (e : Ending) (w' : World) : Prop := e = .returned (.string (ba (Mu.clText c))) ∧ Below w.heap.size w w'

set_option maxHeartbeats 2000000 in
set_option maxRecDepth 20000 in
theorem class_text (c : Cl) (w : World) : Calls Tryz.prog 122 #[clv c] w (TextPost c w) := by
  have hB0 : Bld 155 (w.heap.size + 1) [] ((w.alloc (.cells (clv c).cells 27)).alloc (.cells #[.pointer none, .slice none 0 0] 155)) := by
    have := Bld.fresh 155 (w.alloc (.cells (clv c).cells 27))
    simpa using this
  have HB0 := Lib.hid hB0
  clear hB0
  go_enter Tryz.func122, Tryz.ntmps122
  go_wp2_with fail
  refine (writeByte 155 bt_builder (w.heap.size + 1) [] 91 _ HB0.out (by simp)).mono ?_
  rintro e w1 ⟨rfl, hb1, hw1⟩
  have hc1 : w1.heap[w.heap.size]? = some (.cells (clv c).cells 27) := by
    rw [hw1.below.block _ (by omega), Below.heap_alloc _ _ _ (by simp)]
    exact last_block _ _
  have hz1 : w.heap.size + 1 < w1.heap.size := hb1.lt
  have c0 : w1.cell? ⟨w.heap.size, 0, none⟩ = some (.int .u64 (c.a.toNat : Int)) := cell_at hc1 0
  have c1 : w1.cell? ⟨w.heap.size, 1, none⟩ = some (.int .u64 (c.b.toNat : Int)) := cell_at hc1 1
  have c2 : w1.cell? ⟨w.heap.size, 2, none⟩ = some (.int .u64 (c.c.toNat : Int)) := cell_at hc1 2
  have c3 : w1.cell? ⟨w.heap.size, 3, none⟩ = some (.int .u64 (c.d.toNat : Int)) := cell_at hc1 3
  have hBw1 : Below w.heap.size w w1 := ((((Below.refl _ _).alloc (Nat.le_refl _) _).alloc (by simp) _).trans (hw1.below.mono (by omega)))
  have HB1 := Lib.hid hb1
  clear hb1 hw1 hc1
  go_wp2_with fail
  refine (class_runs c w1).mono ?_
  rintro e w2 ⟨v, rfl, hown, hbl⟩
  have hb2 := HB1.out.keep hbl
  have hBw2 : Below w.heap.size w w2 := hBw1.step hbl (by omega)
  have HB2 := Lib.hid hb2
  have HOWN := Lib.hid hown
  have hz2 := hb2.lt
  have hlen := runs_length c
  clear hbl hb2 hown c0 c1 c2 c3 hBw1
  rcases HOWN.out.2 with ⟨rfl, h0⟩ | ⟨g, cap, cur, rfl, hg, hgb, hnc, hcm, hcs, htk⟩
  · have h00 : Mu.runs c = [] := by simpa using h0
    have H00 := Lib.hid h00
    clear h0 h00 HOWN
    go_wp2_with fail
    refine wp_loop_rounds 1 ?_
    rw [rounds_succ]
    go_wp2_with fail
    refine (writeByte 155 bt_builder (w.heap.size + 1) [91] 93 _ HB2.out (by simp)).mono ?_
    rintro e w3 ⟨rfl, hb3, hw3⟩
    have HB3 := Lib.hid hb3
    clear hb3
    go_wp2_with fail
    refine (builderString 155 bt_builder (w.heap.size + 1) _ (by simp) _ HB3.out).mono ?_
    rintro e w4 ⟨rfl, hb4, hw4⟩
    go_wp2_with fail
    go_ret
    refine ⟨?_, (hBw2.trans (hw3.below.mono (by omega))).trans (hw4.below.mono (by omega))⟩
    rw [Mu.clText, H00.out]
    rfl
  · have HGB := Lib.hid hgb
    have HTK := Lib.hid htk
    have hgne : g ≠ w.heap.size + 1 := by omega
    clear hgb htk hcs hcm HOWN
    go_wp2_with fail
    go_loopw [10] (fun i wr => ∃ k : Nat, k ≤ (Mu.runs c).length ∧ i = .int .i64 k ∧ Bld 155 (w.heap.size + 1) (91 :: ((Mu.runs c).take k).flatMap Mu.runText) wr ∧ Below w.heap.size w wr ∧ wr.heap[g]? = some (.cells cur 203)) (fun i _ => (Mu.runs c).length - (intOf i).toNat)
    case atStart => exact ⟨0, by omega, rfl, HB2.out, hBw2, HGB.out⟩
    case round =>
      obtain ⟨k, hk, rfl, hb, hB, hgr⟩ := hrel
      have HB := Lib.hid hb
      have hzr := hb.lt
      clear hb
      by_cases hlt : k < (Mu.runs c).length
      · have hcl := runCells_get (Mu.runs c) k hlt
        have hmem := runs_mem c (Mu.runs c)[k] (List.getElem_mem hlt)
        have hts := take_step (Mu.runs c) k hlt
        have hfl := runs_flat_len ((Mu.runs c).take k)
        have hfl2 : ((Mu.runs c).take k).length = k := by simp; omega
        have e0 : wr.cell? ⟨g, k * 2, none⟩ = some (.int .i64 ((Mu.runs c)[k].1 : Nat)) := by
          rw [cell_at hgr]
          have h1 := hcl.1
          rw [← HTK.out, List.getElem?_take_of_lt (by omega)] at h1
          simpa using h1
        have e1 : wr.cell? ⟨g, k * 2 + 1, none⟩ = some (.int .i64 ((Mu.runs c)[k].2 : Nat)) := by
          rw [cell_at hgr]
          have h1 := hcl.2
          rw [← HTK.out, List.getElem?_take_of_lt (by omega)] at h1
          simpa using h1
        have hltg := lt_of_block hgr
        have HGR := Lib.hid hgr
        have HTS := Lib.hid hts
        clear hgr hts hcl
        generalize hr : (Mu.runs c)[k] = r at *
        obtain ⟨r1, r2⟩ := r
        simp only at e0 e1 hmem
        have HR := Lib.hid hr
        clear hr
        have fin : ∀ w' : World, Bld 155 (w.heap.size + 1) (91 :: ((Mu.runs c).take k).flatMap Mu.runText ++ Mu.runText (r1, r2)) w' → Wr (w.heap.size + 1) wr w' →
            (∃ k' : Nat, k' ≤ (Mu.runs c).length ∧ (Value.int .i64 ((k : Int) + 1)) = .int .i64 k' ∧ Bld 155 (w.heap.size + 1) (91 :: ((Mu.runs c).take k').flatMap Mu.runText) w' ∧ Below w.heap.size w w' ∧ w'.heap[g]? = some (.cells cur 203)) := by
          intro w' h1 h2
          refine ⟨k + 1, by omega, by go_num, ?_, hB.trans (h2.below.mono (by omega)), h2.keep HGR.out hgne (by intro c1 fz h; cases h)⟩
          rw [HTS.out]
          simpa using h1
        have FIN := Lib.hid fin
        clear fin
        have hacc : (91 :: ((Mu.runs c).take k).flatMap Mu.runText).length ≤ 2305 := by
          rw [List.length_cons]; omega
        generalize hac : (91 :: ((Mu.runs c).take k).flatMap Mu.runText) = acc at HB FIN hacc
        clear hfl hfl2 hac
        go_wp2_with fail
        refine (class_sign r1 (by omega) _).mono ?_
        rintro e w3 ⟨rfl, hb3⟩
        have hw3 : Wr (w.heap.size + 1) wr w3 := Wr.of_below ((Below.alloc (Below.refl _ _) (Nat.le_refl _) _).step hb3 (by simp)) (by omega)
        have hb3' := HB.out.keep ((Below.alloc (Below.refl _ _) (Nat.le_refl _) _).step hb3 (by simp))
        have hx3 : w3.heap[wr.heap.size]? = some (.cells #[.int .i64 r1, .int .i64 r2] 203) := by
          rw [hb3.block _ (by simp)]
          exact last_block _ _
        have HB3 := Lib.hid hb3'
        have HX3 := Lib.hid hx3
        clear hb3 hb3' hx3
        have hs1 := clSign_len (UInt8.ofNat r1)
        have hs2 := clSign_len (UInt8.ofNat r2)
        go_wp2_with fail
        refine (writeString 155 bt_builder (w.heap.size + 1) _ (ba (Mu.clSign (UInt8.ofNat r1))) _ HB3.out (by have : (ba (Mu.clSign (UInt8.ofNat r1))).size = (Mu.clSign (UInt8.ofNat r1)).length := rfl; omega)).mono ?_
        rintro e w4 ⟨rfl, hb4, hw4⟩
        have hx4 := hw4.keep HX3.out (by omega) (by intro c1 fz h; cases h)
        have d0 : w4.cell? ⟨wr.heap.size, 0, none⟩ = some (.int .i64 r1) := cell_at hx4 0
        have d1 : w4.cell? ⟨wr.heap.size, 1, none⟩ = some (.int .i64 r2) := cell_at hx4 1
        have hw4' := hw3.trans hw4
        have HB4 := Lib.hid hb4
        have HX4 := Lib.hid hx4
        have hlt4 := lt_of_block hx4
        clear hb4 hx4 hw4 hw3
        by_cases hd0 : r2 = r1
        · subst hd0
          go_wp2_with fail
          refine ⟨FIN.out w4 ?_ hw4', by simp [intOf]; omega⟩
          have h1 : Mu.runText (r2, r2) = Mu.clSign (UInt8.ofNat r2) := by simp [Mu.runText]
          rw [h1]
          exact HB4.out
        by_cases hd1 : r2 = r1 + 1
        · have hd1a : r1 + 1 ≤ r2 := by omega
          have hd1b : r2 ≤ r1 + 1 := by omega
          have h1 : Mu.runText (r1, r2) = Mu.clSign (UInt8.ofNat r1) ++ Mu.clSign (UInt8.ofNat r2) := by
            have h2 : r2 - r1 ≠ 0 := by omega
            have h3 : r2 - r1 = 1 := by omega
            simp [Mu.runText, h2, h3]
          have H1 := Lib.hid h1
          clear h1 hd1
          go_wp2_with fail
          refine (class_sign r2 (by omega) _).mono ?_
          rintro e w5 ⟨rfl, hb5⟩
          have hb5' := HB4.out.keep hb5
          have hw5 := hw4'.trans (Wr.of_below hb5 (by omega))
          have HB5 := Lib.hid hb5'
          clear hb5 hb5'
          go_wp2_with fail
          refine (writeString 155 bt_builder (w.heap.size + 1) _ (ba (Mu.clSign (UInt8.ofNat r2))) _ HB5.out (by have : (ba (Mu.clSign (UInt8.ofNat r2))).size = (Mu.clSign (UInt8.ofNat r2)).length := rfl; rw [List.length_append]; omega)).mono ?_
          rintro e w6 ⟨rfl, hb6, hw6⟩
          have HB6 := Lib.hid hb6
          have hw6' := hw5.trans hw6
          clear hb6 hw6 hw5
          go_wp2_with fail
          refine ⟨FIN.out w6 ?_ hw6', by simp [intOf]; omega⟩
          rw [H1.out, ← List.append_assoc]
          exact HB6.out
        · have hd2 : r1 + 2 ≤ r2 := by omega
          have h1 : Mu.runText (r1, r2) = Mu.clSign (UInt8.ofNat r1) ++ ([45] ++ Mu.clSign (UInt8.ofNat r2)) := by
            have h2 : r2 - r1 ≠ 0 := by omega
            have h3 : r2 - r1 ≠ 1 := by omega
            simp [Mu.runText, h2, h3]
          have H1 := Lib.hid h1
          clear h1
          go_wp2_with fail
          have hl45 : (acc ++ Mu.clSign (UInt8.ofNat r1)).length + 1 ≤ 140737488355328 := by rw [List.length_append]; omega
          refine (writeByte 155 bt_builder (w.heap.size + 1) (acc ++ Mu.clSign (UInt8.ofNat r1)) 45 w4 HB4.out hl45).mono ?_
          rintro e w4b ⟨rfl, hb4b, hw4b⟩
          have hx4b := hw4b.keep HX4.out (by omega) (by intro c1 fz h; cases h)
          have f1 : w4b.cell? ⟨wr.heap.size, 1, none⟩ = some (.int .i64 r2) := cell_at hx4b 1
          have hw4c := hw4'.trans hw4b
          have HB4b := Lib.hid hb4b
          have hlt4b := lt_of_block hx4b
          clear hb4b hx4b hw4b d0 d1
          go_wp2_with fail
          refine (class_sign r2 (by omega) _).mono ?_
          rintro e w5 ⟨rfl, hb5⟩
          have hb5' := HB4b.out.keep hb5
          have hw5 := hw4c.trans (Wr.of_below hb5 (by omega))
          have HB5 := Lib.hid hb5'
          clear hb5 hb5'
          go_wp2_with fail
          refine (writeString 155 bt_builder (w.heap.size + 1) _ (ba (Mu.clSign (UInt8.ofNat r2))) _ HB5.out (by have : (ba (Mu.clSign (UInt8.ofNat r2))).size = (Mu.clSign (UInt8.ofNat r2)).length := rfl; rw [List.length_append, List.length_append]; simp only [List.length_cons, List.length_nil]; omega)).mono ?_
          rintro e w6 ⟨rfl, hb6, hw6⟩
          have HB6 := Lib.hid hb6
          have hw6' := hw5.trans hw6
          clear hb6 hw6 hw5
          go_wp2_with fail
          refine ⟨FIN.out w6 ?_ hw6', by simp [intOf]; omega⟩
          rw [H1.out, ← List.append_assoc, ← List.append_assoc]
          exact HB6.out
      · have hke : k = (Mu.runs c).length := by omega
        subst hke
        have hfl := runs_flat_len (Mu.runs c)
        have hb0 := HB.out
        rw [List.take_length] at hb0
        have HB0' := Lib.hid hb0
        clear hb0
        go_wp2_with fail
        refine (writeByte 155 bt_builder (w.heap.size + 1) _ 93 _ HB0'.out (by rw [List.length_cons]; omega)).mono ?_
        rintro e w3 ⟨rfl, hb3, hw3⟩
        have HB3 := Lib.hid hb3
        clear hb3
        go_wp2_with fail
        refine (builderString 155 bt_builder (w.heap.size + 1) _ (by simp) _ HB3.out).mono ?_
        rintro e w4 ⟨rfl, hb4, hw4⟩
        go_wp2_with fail
        go_ret
        refine ⟨?_, (hB.trans (hw3.below.mono (by omega))).trans (hw4.below.mono (by omega))⟩
        rw [Mu.clText]
        rfl

end Go.Proofs.YtdmhjnnogcpccaaGreatDoor
end

section
namespace Go.Proofs.YtdmhjnnogcpccaaGreatDoor
open Go.RowKit
open Mu (Cl Bs Nd Ru Gr Tk)
set_option linter.unusedSimpArgs false
set_option linter.unusedVariables false

/-- the blocks of F hold what they held -/
def Keeps (F : Nat → Prop) (w w' : World) : Prop := ∀ b, F b → w'.heap[b]? = w.heap[b]?

theorem Keeps.refl (F : Nat → Prop) (w : World) : Keeps F w w := fun _ _ => rfl
theorem Keeps.trans {F : Nat → Prop} {a b c : World} (h : Keeps F a b) (k : Keeps F b c) : Keeps F a c := fun x hx => (k x hx).trans (h x hx)
theorem Keeps.of_below {F : Nat → Prop} {B : Nat} {w w' : World} (h : Below B w w') (hF : ∀ b, F b → b < B) : Keeps F w w' := fun b hb => h.block b (hF b hb)
theorem Keeps.cell {F : Nat → Prop} {w w' : World} (h : Keeps F w w') {b : Nat} (hb : F b) (o : Nat) : w'.cell? ⟨b, o, none⟩ = w.cell? ⟨b, o, none⟩ := World.cell?_of_block (a := ⟨b, o, none⟩) (h b hb)

/-- a tree's value: its eight cells -/
abbrev ndv (k : Int) (t : Bs) (c : Cl) (s : Value) (p : Int) : Value :=
  .agg #[.int .i64 k, .string (ba t), .int .u64 (c.a.toNat : Int), .int .u64 (c.b.toNat : Int), .int .u64 (c.c.toNat : Int), .int .u64 (c.d.toNat : Int), s, .int .i64 p]

/-- the most parts of a tree that memory bears -/
abbrev maxSubs : Nat := 1599289640354

/-- a value is a tree, its parts in blocks of F -/
inductive RN (w : World) (F : Nat → Prop) : Value → Nd → Prop
  | mk (k : Int) (t : Bs) (c : Cl) (p : Int) (a : Option Addr) (b off len cap : Nat) (l : List Nd) (C : Nat → Value)
      (hl : l.length = len) (ha : len = 0 ∨ a = some ⟨b, off, none⟩) (hF : 0 < len → F b) (hlim : len ≤ maxSubs) (htl : t.length ≤ 140737488351232)
      (hcell : ∀ i, i < len → ∀ j, j < 8 → w.cell? ⟨b, off + i * 8 + j, none⟩ = (C i).cells[j]?)
      (hC : ∀ i (h : i < l.length), RN w F (C i) l[i]) :
      RN w F (ndv k t c (.slice a len cap) p) (.mk k t c l p)

theorem RN.keep {w w' : World} {F : Nat → Prop} (hk : Keeps F w w') {v : Value} {n : Nd} (h : RN w F v n) : RN w' F v n := by
  induction h with
  | mk k t c p a b off len cap l C hl ha hF hlim htl hcell hC ih =>
    refine RN.mk k t c p a b off len cap l C hl ha hF hlim htl ?_ ih
    intro i hi j hj
    rw [hk.cell (hF (by omega))]
    exact hcell i hi j hj

theorem RN.mono {w : World} {F F' : Nat → Prop} (hk : ∀ b, F b → F' b) {v : Value} {n : Nd} (h : RN w F v n) : RN w F' v n := by
  induction h with
  | mk k t c p a b off len cap l C hl ha hF hlim htl hcell hC ih =>
    exact RN.mk k t c p a b off len cap l C hl ha (fun h => hk _ (hF h)) hlim htl hcell ih

/-- a row of trees at a place -/
structure RNs (w : World) (F : Nat → Prop) (a : Option Addr) (b off : Nat) (l : List Nd) (C : Nat → Value) : Prop where
  ha : l.length = 0 ∨ a = some ⟨b, off, none⟩
  hF : 0 < l.length → F b
  hlim : l.length ≤ maxSubs
  hcell : ∀ i, i < l.length → ∀ j, j < 8 → w.cell? ⟨b, off + i * 8 + j, none⟩ = (C i).cells[j]?
  hC : ∀ i (h : i < l.length), RN w F (C i) l[i]

theorem RNs.keep {w w' : World} {F : Nat → Prop} (hk : Keeps F w w') {a : Option Addr} {b off : Nat} {l : List Nd} {C : Nat → Value} (h : RNs w F a b off l C) : RNs w' F a b off l C :=
  ⟨h.ha, h.hF, h.hlim, fun i hi j hj => by rw [hk.cell (h.hF (by omega))]; exact h.hcell i hi j hj, fun i hi => (h.hC i hi).keep hk⟩

theorem RN.mk' {w : World} {F : Nat → Prop} {k : Int} {t : Bs} {c : Cl} {p : Int} {a : Option Addr} {b off cap : Nat} {l : List Nd} {C : Nat → Value} (h : RNs w F a b off l C) (htl : t.length ≤ 140737488351232) :
    RN w F (ndv k t c (.slice a l.length cap) p) (.mk k t c l p) :=
  RN.mk k t c p a b off l.length cap l C rfl h.ha h.hF h.hlim htl h.hcell h.hC

/-- a tree laid open -/
theorem RN.open {w : World} {F : Nat → Prop} {v : Value} {n : Nd} (h : RN w F v n) :
    ∃ (a : Option Addr) (b off cap : Nat) (C : Nat → Value), v = ndv n.kind n.text n.cls (.slice a n.subs.length cap) n.place ∧ RNs w F a b off n.subs C ∧ n.text.length ≤ 140737488351232 := by
  cases h with
  | mk k t c p a b off len cap l C hl ha hF hlim htl hcell hC =>
    subst hl
    exact ⟨a, b, off, cap, C, rfl, ⟨ha, hF, hlim, hcell, hC⟩, htl⟩

/-- the cells of one of a row's trees -/
theorem RNs.one {w : World} {F : Nat → Prop} {a : Option Addr} {b off : Nat} {l : List Nd} {C : Nat → Value} (h : RNs w F a b off l C) (i : Nat) (hi : i < l.length) :
    ∃ (a' : Option Addr) (cap' : Nat), a = some ⟨b, off, none⟩ ∧ F b ∧ C i = ndv l[i].kind l[i].text l[i].cls (.slice a' l[i].subs.length cap') l[i].place ∧
      w.cell? ⟨b, off + i * 8, none⟩ = some (.int .i64 l[i].kind) ∧ w.cell? ⟨b, off + i * 8 + 1, none⟩ = some (.string (ba l[i].text)) ∧
      w.cell? ⟨b, off + i * 8 + 2, none⟩ = some (.int .u64 (l[i].cls.a.toNat : Int)) ∧ w.cell? ⟨b, off + i * 8 + 3, none⟩ = some (.int .u64 (l[i].cls.b.toNat : Int)) ∧
      w.cell? ⟨b, off + i * 8 + 4, none⟩ = some (.int .u64 (l[i].cls.c.toNat : Int)) ∧ w.cell? ⟨b, off + i * 8 + 5, none⟩ = some (.int .u64 (l[i].cls.d.toNat : Int)) ∧
      w.cell? ⟨b, off + i * 8 + 6, none⟩ = some (.slice a' l[i].subs.length cap') ∧ w.cell? ⟨b, off + i * 8 + 7, none⟩ = some (.int .i64 l[i].place) := by
  obtain ⟨a', b', off', cap', C', hv, _, _⟩ := (h.hC i hi).open
  have hc := h.hcell i hi
  rw [hv] at hc
  refine ⟨a', cap', ?_, h.hF (by omega), hv, hc 0 (by omega), hc 1 (by omega), hc 2 (by omega), hc 3 (by omega), hc 4 (by omega), hc 5 (by omega), hc 6 (by omega), hc 7 (by omega)⟩
  rcases h.ha with h0 | h0
  · omega
  · exact h0

/-- a rule's value: its ten cells -/
abbrev ruv (name : Bs) (k : Int) (t : Bs) (c : Cl) (s : Value) (p : Int) (q : Int) : Value :=
  .agg #[.string (ba name), .int .i64 k, .string (ba t), .int .u64 (c.a.toNat : Int), .int .u64 (c.b.toNat : Int), .int .u64 (c.c.toNat : Int), .int .u64 (c.d.toNat : Int), s, .int .i64 p, .int .i64 q]

/-- the most rules that memory bears -/
abbrev maxRus : Nat := 1256584717421

/-- a row of rules at a place -/
structure RRs (w : World) (F : Nat → Prop) (a : Option Addr) (b off : Nat) (g : Gr) (S : Nat → Value) : Prop where
  ha : g.length = 0 ∨ a = some ⟨b, off, none⟩
  hF : 0 < g.length → F b
  hlim : g.length ≤ maxRus
  hnm : ∀ i (h : i < g.length), g[i].name.length ≤ 140737488351232
  hcell : ∀ i (h : i < g.length), ∀ j, j < 10 → w.cell? ⟨b, off + i * 10 + j, none⟩ = (ruv g[i].name g[i].body.kind g[i].body.text g[i].body.cls (S i) g[i].body.place g[i].place).cells[j]?
  hS : ∀ i (h : i < g.length), RN w F (ndv g[i].body.kind g[i].body.text g[i].body.cls (S i) g[i].body.place) g[i].body

theorem RRs.keep {w w' : World} {F : Nat → Prop} (hk : Keeps F w w') {a : Option Addr} {b off : Nat} {g : Gr} {S : Nat → Value} (h : RRs w F a b off g S) : RRs w' F a b off g S :=
  ⟨h.ha, h.hF, h.hlim, h.hnm, fun i hi j hj => by rw [hk.cell (h.hF (by omega))]; exact h.hcell i hi j hj, fun i hi => (h.hS i hi).keep hk⟩

theorem RRs.mono {w : World} {F F' : Nat → Prop} (hk : ∀ b, F b → F' b) {a : Option Addr} {b off : Nat} {g : Gr} {S : Nat → Value} (h : RRs w F a b off g S) : RRs w F' a b off g S :=
  ⟨h.ha, fun h0 => hk _ (h.hF h0), h.hlim, h.hnm, h.hcell, fun i hi => (h.hS i hi).mono hk⟩

theorem RRs.one {w : World} {F : Nat → Prop} {a : Option Addr} {b off : Nat} {g : Gr} {S : Nat → Value} (h : RRs w F a b off g S) (i : Nat) (hi : i < g.length) :
    ∃ (a' : Option Addr) (cap' : Nat), a = some ⟨b, off, none⟩ ∧ F b ∧ S i = .slice a' g[i].body.subs.length cap' ∧
      w.cell? ⟨b, off + i * 10, none⟩ = some (.string (ba g[i].name)) ∧ w.cell? ⟨b, off + i * 10 + 1, none⟩ = some (.int .i64 g[i].body.kind) ∧ w.cell? ⟨b, off + i * 10 + 2, none⟩ = some (.string (ba g[i].body.text)) ∧
      w.cell? ⟨b, off + i * 10 + 3, none⟩ = some (.int .u64 (g[i].body.cls.a.toNat : Int)) ∧ w.cell? ⟨b, off + i * 10 + 4, none⟩ = some (.int .u64 (g[i].body.cls.b.toNat : Int)) ∧
      w.cell? ⟨b, off + i * 10 + 5, none⟩ = some (.int .u64 (g[i].body.cls.c.toNat : Int)) ∧ w.cell? ⟨b, off + i * 10 + 6, none⟩ = some (.int .u64 (g[i].body.cls.d.toNat : Int)) ∧
      w.cell? ⟨b, off + i * 10 + 7, none⟩ = some (.slice a' g[i].body.subs.length cap') ∧ w.cell? ⟨b, off + i * 10 + 8, none⟩ = some (.int .i64 g[i].body.place) ∧ w.cell? ⟨b, off + i * 10 + 9, none⟩ = some (.int .i64 g[i].place) := by
  obtain ⟨a', b', off', cap', C', hv, _, _⟩ := (h.hS i hi).open
  have hs : S i = .slice a' g[i].body.subs.length cap' := by
    simp only [ndv, Value.agg.injEq] at hv
    have := congrArg (fun z : Array Value => z[6]?) hv
    simpa using this
  have hc := h.hcell i hi
  rw [hs] at hc
  refine ⟨a', cap', ?_, h.hF (by omega), hs, hc 0 (by omega), hc 1 (by omega), hc 2 (by omega), hc 3 (by omega), hc 4 (by omega), hc 5 (by omega), hc 6 (by omega), hc 7 (by omega), hc 8 (by omega), hc 9 (by omega)⟩
  rcases h.ha with h0 | h0
  · omega
  · exact h0

end Go.Proofs.YtdmhjnnogcpccaaGreatDoor
end

section
namespace Go.Proofs.YtdmhjnnogcpccaaGreatDoor
open Go.RowKit
open Mu (Cl Bs Nd Ru Gr Tk)
set_option linter.unusedSimpArgs false
set_option linter.unusedVariables false

theorem letter_bits : ∀ n : Fin 256, Mu.letter (UInt8.ofNat n.val) = ((decide (97 ≤ bits .or .u8 (n.val : Int) 32) && decide (bits .or .u8 (n.val : Int) 32 ≤ 122)) || ((n.val : Int) == 95)) := by decide +kernel

theorem digit_nat : ∀ n : Fin 256, Mu.digit (UInt8.ofNat n.val) = (decide (48 ≤ (n.val : Int)) && decide ((n.val : Int) ≤ 57)) := by decide +kernel

set_option maxHeartbeats 400000 in
theorem lex_digit (n : Nat) (hn : n < 256) (w : World) :
    Calls Tryz.prog 147 #[.int .u8 n] w fun e w' => e = .returned (.bool (Mu.digit (UInt8.ofNat n))) ∧ w = w' := by
  have h := digit_nat ⟨n, hn⟩
  simp only at h
  have H := Lib.hid h
  clear h
  by_cases h1 : 48 ≤ n
  all_goals
    go_enter Tryz.func147, Tryz.ntmps147
    go_wp2
    go_ret
    refine ⟨?_, rfl⟩
    rw [H.out]
    simp [h1]
    try omega

set_option maxHeartbeats 400000 in
theorem lex_letter (n : Nat) (hn : n < 256) (w : World) :
    Calls Tryz.prog 146 #[.int .u8 n] w fun e w' => e = .returned (.bool (Mu.letter (UInt8.ofNat n))) ∧ w = w' := by
  have h := letter_bits ⟨n, hn⟩
  simp only at h
  generalize hx : bits .or .u8 (n : Int) 32 = x at h
  have H := Lib.hid h
  clear h
  go_enter Tryz.func146, Tryz.ntmps146
  go_wp2
  all_goals
    go_ret
    refine ⟨?_, rfl⟩
    rw [H.out]
    simp [*]
    try omega

theorem nameLen_nil : Mu.nameLen [] = 0 := rfl

/-- where a name stops -/
theorem nameTail_step (c : UInt8) (r : Bs) : Mu.nameTail (c :: r) = if Mu.letter c || Mu.digit c then Mu.nameTail r + 1 else 0 := rfl
theorem nameLen_step (c : UInt8) (r : Bs) : Mu.nameLen (c :: r) = if Mu.letter c then Mu.nameTail r + 1 else 0 := rfl

theorem nameTail_le : ∀ l : Bs, Mu.nameTail l ≤ l.length
  | [] => by simp [Mu.nameTail]
  | c :: r => by
    have := nameTail_le r
    rw [nameTail_step]
    split
    · simp; omega
    · simp

theorem nameLen_le (l : Bs) : Mu.nameLen l ≤ l.length := by
  cases l with
  | nil => simp [Mu.nameLen]
  | cons c r =>
    have := nameTail_le r
    rw [nameLen_step]
    split
    · simp; omega
    · simp

set_option maxHeartbeats 1000000 in
set_option maxRecDepth 20000 in
theorem lex_name (t : Bs) (ht : t.length ≤ 140737488355328) (w : World) :
    Calls Tryz.prog 110 #[.string (ba t)] w fun e w' => e = .returned (.int .i64 (Mu.nameLen t)) ∧ w = w' := by
  have hsz : (ba t).size = t.length := rfl
  go_enter Tryz.func110, Tryz.ntmps110
  go_wp2_with fail
  go_loop [6] (fun i => ∃ k : Nat, k ≤ t.length ∧ i = .int .i64 k ∧ (k = 0 ∨ Mu.nameLen t = k + Mu.nameTail (t.drop k))) (fun i => t.length - (intOf i).toNat)
  case atStart => exact ⟨0, by omega, rfl, .inl rfl⟩
  case round =>
    obtain ⟨k, hk, rfl, hst⟩ := hrel
    have HST := Lib.hid hst
    clear hst
    by_cases hlt : k < t.length
    · have hdr : t.drop k = t[k] :: t.drop (k + 1) := List.drop_eq_getElem_cons hlt
      have hg : (ba t)[k] = t[k] := rfl
      generalize hc : t[k] = c at hdr hg
      have hn := c.toNat_lt
      have hoc : UInt8.ofNat c.toNat = c := UInt8.ofNat_toNat
      have HDR := Lib.hid hdr
      have HOC := Lib.hid hoc
      have HC := Lib.hid hc
      clear hdr hoc hc
      cases hl : Mu.letter c with
      | true =>
        have HL := Lib.hid hl
        clear hl
        go_wp2_with fail
        refine (lex_letter c.toNat hn w).mono ?_
        rintro e w' ⟨rfl, rfl⟩
        rw [HOC.out, HL.out]
        go_wp2_with fail
        refine ⟨⟨k + 1, by omega, by go_num, .inr ?_⟩, by simp [intOf]; omega⟩
        rcases HST.out with h0 | h0
        · subst h0
          have h1 := HDR.out
          rw [List.drop_zero] at h1
          rw [h1, nameLen_step, if_pos HL.out]
          simp
          omega
        · rw [h0, HDR.out, nameTail_step, HL.out]
          simp
          omega
      | false =>
        have HL := Lib.hid hl
        clear hl
        by_cases hk0 : k = 0
        · subst hk0
          go_wp2_with fail
          refine (lex_letter c.toNat hn w).mono ?_
          rintro e w' ⟨rfl, rfl⟩
          rw [HOC.out, HL.out]
          go_wp2_with fail
          go_ret
          refine ⟨?_, rfl⟩
          have h1 := HDR.out
          rw [List.drop_zero] at h1
          rw [h1, nameLen_step, HL.out]
          rfl
        · have hkp : 1 ≤ k := by omega
          have hst2 : Mu.nameLen t = k + Mu.nameTail (t.drop k) := by
            rcases HST.out with h0 | h0
            · omega
            · exact h0
          have HS2 := Lib.hid hst2
          clear hst2
          have hk0b : ((k : Int) == 0) = false := by simp; omega
          cases hd : Mu.digit c with
          | true =>
            have HD := Lib.hid hd
            clear hd
            go_wp2_with fail
            refine (lex_letter c.toNat hn w).mono ?_
            rintro e w' ⟨rfl, rfl⟩
            rw [HOC.out, HL.out]
            go_wp2_with fail
            refine (lex_digit c.toNat hn w).mono ?_
            rintro e w' ⟨rfl, rfl⟩
            rw [HOC.out, HD.out]
            go_wp2_with fail
            refine ⟨⟨k + 1, by omega, by go_num, .inr ?_⟩, by simp [intOf]; omega⟩
            rw [HS2.out, HDR.out, nameTail_step, HD.out]
            simp
            omega
          | false =>
            have HD := Lib.hid hd
            clear hd
            go_wp2_with fail
            refine (lex_letter c.toNat hn w).mono ?_
            rintro e w' ⟨rfl, rfl⟩
            rw [HOC.out, HL.out]
            go_wp2_with fail
            refine (lex_digit c.toNat hn w).mono ?_
            rintro e w' ⟨rfl, rfl⟩
            rw [HOC.out, HD.out]
            go_wp2_with fail
            go_ret
            refine ⟨?_, rfl⟩
            rw [HS2.out, HDR.out, nameTail_step, HD.out, HL.out]
            rfl
    · have hke : k = t.length := by omega
      subst hke
      go_wp2_with fail
      go_ret
      refine ⟨?_, rfl⟩
      rcases HST.out with h0 | h0
      · have : t = [] := List.length_eq_zero_iff.1 h0
        subst this
        rfl
      · rw [h0, List.drop_length]
        rfl

set_option maxHeartbeats 1000000 in
set_option maxRecDepth 20000 in
theorem lex_Name (t : Bs) (ht : t.length ≤ 140737488355328) (w : World) :
    Calls Tryz.prog 116 #[.string (ba t)] w fun e w' => e = .returned (.bool (Mu.isName t)) ∧ w = w' := by
  have hsz : (ba t).size = t.length := rfl
  cases t with
  | nil =>
    go_enter Tryz.func116, Tryz.ntmps116
    go_wp2_with fail
    go_ret
    exact ⟨rfl, rfl⟩
  | cons c r =>
    rw [List.length_cons] at ht
    by_cases h32 : r.length + 1 ≤ 32
    · have hN : (.bool (Mu.isName (c :: r)) : Value) = .bool ((Mu.nameLen (c :: r) : Int) == (r.length : Int) + 1) := by
        simp only [Mu.isName, List.isEmpty_cons, List.length_cons, h32, Bool.not_false, Bool.true_and, decide_true]
        congr 1
        rw [Bool.eq_iff_iff]
        simp
        omega
      have HN := Lib.hid hN
      clear hN
      go_enter Tryz.func116, Tryz.ntmps116
      go_wp2_with fail
      refine (lex_name (c :: r) (by rw [List.length_cons]; omega) w).mono ?_
      rintro e w' ⟨rfl, rfl⟩
      go_wp2_with fail
      go_ret
      exact ⟨by rw [HN.out]; rfl, rfl⟩
    · have hN : Mu.isName (c :: r) = false := by simp [Mu.isName, h32]
      have HN := Lib.hid hN
      clear hN
      have h33 : 32 < r.length + 1 := by omega
      go_enter Tryz.func116, Tryz.ntmps116
      go_wp2_with fail
      go_ret
      exact ⟨by rw [HN.out]; rfl, rfl⟩

end Go.Proofs.YtdmhjnnogcpccaaGreatDoor
end

section
namespace Go.Proofs.YtdmhjnnogcpccaaGreatDoor
open Go.RowKit
open Mu (Cl Bs Nd Ru Gr Tk)
set_option linter.unusedSimpArgs false
set_option linter.unusedVariables false

theorem quoteB_len (c : UInt8) : (Mu.quoteB c).length ≤ 4 := by
  unfold Mu.quoteB
  repeat' split
  all_goals simp

theorem quote_flat_len (l : Bs) : (l.flatMap Mu.quoteB).length ≤ 4 * l.length := by
  induction l with
  | nil => simp
  | cons r l ih =>
    have := quoteB_len r
    simp only [List.flatMap_cons, List.length_append, List.length_cons]
    omega

theorem quote_esc : ∀ n : Fin 256, 0 ≤ Lib.indexByte [10, 13, 9, 39, 92] n.val.toUInt8 →
    Lib.indexByte [10, 13, 9, 39, 92] n.val.toUInt8 < 5 ∧ (ba [92] ++ (ba [110, 114, 116, 39, 92]).extract (Lib.indexByte [10, 13, 9, 39, 92] n.val.toUInt8).toNat (Lib.indexByte [10, 13, 9, 39, 92] n.val.toUInt8 + 1).toNat).data.toList = Mu.quoteB (UInt8.ofNat n.val) := by decide +kernel

theorem quote_hex : ∀ n : Fin 256, Lib.indexByte [10, 13, 9, 39, 92] n.val.toUInt8 < 0 → (n.val < 32 ∨ 126 < n.val) →
    (ba [92, 120] ++ (ba [48, 49, 50, 51, 52, 53, 54, 55, 56, 57, 97, 98, 99, 100, 101, 102]).extract (n.val / 16) (n.val / 16 + 1) ++ (ba [48, 49, 50, 51, 52, 53, 54, 55, 56, 57, 97, 98, 99, 100, 101, 102]).extract (n.val % 16) (n.val % 16 + 1)).data.toList = Mu.quoteB (UInt8.ofNat n.val) := by decide +kernel

theorem quote_self : ∀ n : Fin 256, Lib.indexByte [10, 13, 9, 39, 92] n.val.toUInt8 < 0 → ¬ (n.val < 32 ∨ 126 < n.val) → [UInt8.ofNat n.val] = Mu.quoteB (UInt8.ofNat n.val) := by decide +kernel

theorem and15 : ∀ n : Fin 256, bits BinOp.and IntKind.u8 (n.val : Int) 15 = ((n.val % 16 : Nat) : Int) := by decide +kernel

def QuotePost (t : Bs) (w : World) (e : Ending) (w' : World) : Prop := e = .returned (.string (ba (Mu.quote t))) ∧ Below w.heap.size w w'

set_option maxHeartbeats 2000000 in
set_option maxRecDepth 20000 in
theorem lex_quote (t : Bs) (ht : t.length ≤ 100000) (w : World) : Calls Tryz.prog 121 #[.string (ba t)] w (QuotePost t w) := by
  have hsz : (ba t).size = t.length := rfl
  have HB0 := Lib.hid (Bld.fresh 155 w)
  go_enter Tryz.func121, Tryz.ntmps121
  go_wp2_with fail
  refine (writeByte 155 bt_builder w.heap.size [] 39 _ HB0.out (by simp)).mono ?_
  rintro e w1 ⟨rfl, hb1, hw1⟩
  have HB1 := Lib.hid hb1
  have hBw1 : Below w.heap.size w w1 := ((Below.refl _ _).alloc (Nat.le_refl _) _).trans hw1.below
  clear hb1 hw1
  go_wp2_with fail
  go_loopw [10] (fun i wr => ∃ k : Nat, k ≤ t.length ∧ i = .int .i64 k ∧ Bld 155 w.heap.size (39 :: (t.take k).flatMap Mu.quoteB) wr ∧ Below w.heap.size w wr) (fun i _ => t.length - (intOf i).toNat)
  case atStart => exact ⟨0, by omega, rfl, HB1.out, hBw1⟩
  case round =>
    obtain ⟨k, hk, rfl, hb, hB⟩ := hrel
    have hzr := hb.lt
    have HB := Lib.hid hb
    clear hb
    by_cases hlt : k < t.length
    · have hg : (ba t)[k] = t[k] := rfl
      have hts := take_step t k hlt
      have hfl := quote_flat_len (t.take k)
      have hfl2 : (t.take k).length = k := by simp; omega
      generalize hc : t[k] = c at hg hts
      have hn := c.toNat_lt
      have hoc : UInt8.ofNat c.toNat = c := UInt8.ofNat_toNat
      have fin : ∀ w' : World, Bld 155 w.heap.size (39 :: (t.take k).flatMap Mu.quoteB ++ Mu.quoteB c) w' → Wr w.heap.size wr w' →
          (∃ k' : Nat, k' ≤ t.length ∧ (Value.int .i64 ((k : Int) + 1)) = .int .i64 k' ∧ Bld 155 w.heap.size (39 :: (t.take k').flatMap Mu.quoteB) w' ∧ Below w.heap.size w w') := by
        intro w' h1 h2
        refine ⟨k + 1, by omega, by go_num, ?_, hB.trans (h2.below)⟩
        rw [hts]
        simpa using h1
      have hacc : (39 :: (t.take k).flatMap Mu.quoteB).length ≤ 400001 := by
        rw [List.length_cons]; omega
      generalize hac : (39 :: (t.take k).flatMap Mu.quoteB) = acc at HB fin hacc
      have FIN := Lib.hid fin
      have HOC := Lib.hid hoc
      have q1 := quote_esc ⟨c.toNat, hn⟩
      have q2 := quote_hex ⟨c.toNat, hn⟩
      have q3 := quote_self ⟨c.toNat, hn⟩
      have hoc2 : c.toNat.toUInt8 = c := by simp
      simp only [hoc, hoc2] at q1 q2 q3
      have hql := quoteB_len c
      generalize hq : Mu.quoteB c = q at q1 q2 q3 hql FIN
      clear fin hfl hfl2 hac hts hc hoc hq
      generalize hr : Lib.indexByte [10, 13, 9, 39, 92] c = r at q1 q2 q3
      have hr' : Lib.indexByte [10, 13, 9, 39, 92] c.toNat.toUInt8 = r := by rw [hoc2, hr]
      have HR := Lib.hid hr'
      clear hr hr' hoc2
      by_cases hr0 : 0 ≤ r
      · obtain ⟨hr5, he⟩ := q1 hr0
        have HE := Lib.hid he
        clear q1 q2 q3 he
        go_wp2_with fail
        refine (idxByteAt (ba [10, 13, 9, 39, 92]) c.toNat r HR.out wr).mono ?_
        rintro e w2 ⟨rfl, rfl⟩
        go_wp2_with fail
        refine (writeString 155 bt_builder w.heap.size acc _ wr HB.out (by have : ∀ z : ByteArray, z.size = z.data.toList.length := fun _ => rfl; rw [this, HE.out]; omega)).mono ?_
        rintro e w3 ⟨rfl, hb3, hw3⟩
        rw [HE.out] at hb3
        have HB3 := Lib.hid hb3
        clear hb3
        go_wp2_with fail
        exact ⟨FIN.out w3 HB3.out hw3, by simp [intOf]; omega⟩
      · by_cases hcc : c.toNat < 32 ∨ 126 < c.toNat
        · have he := q2 (by omega) hcc
          have HE := Lib.hid he
          clear q1 q2 q3 he
          rcases hcc with hcc | hcc
          all_goals
            go_wp2_with fail
            refine (idxByteAt (ba [10, 13, 9, 39, 92]) c.toNat r HR.out wr).mono ?_
            rintro e w2 ⟨rfl, rfl⟩
            go_wp2_with fail
            have hs1 : ∀ z : ByteArray, z.data.toList = q → z.size ≤ 4 := fun z hz => by
              have h1 : z.size = z.data.toList.length := rfl
              rw [h1, hz]
              exact hql
            have b1 : bits BinOp.and IntKind.u8 (c.toNat : Int) 15 = ((c.toNat % 16 : Nat) : Int) := and15 ⟨c.toNat, hn⟩
            have b2 : (c.toNat : Int) / 16 = ((c.toNat / 16 : Nat) : Int) := by omega
            have hd : c.toNat / 16 < 16 := by omega
            have hm : c.toNat % 16 < 16 := by omega
            generalize c.toNat / 16 = d at b2 hd HE
            generalize c.toNat % 16 = m at b1 hm HE
            have s1 : IntKind.u8.wrap ((d : Int) + 1) = (d : Int) + 1 := IntWalk.u8_in _ (by omega)
            have s2 : IntKind.u8.wrap ((m : Int) + 1) = (m : Int) + 1 := IntWalk.u8_in _ (by omega)
            have l1 : ¬ (9223372036854775807 < 2 + (min (d + 1) 16 - d)) := by omega
            have l2 : ¬ (9223372036854775807 < 2 + (min (d + 1) 16 - d) + (min (m + 1) 16 - m)) := by omega
            have s5 : (d : Int) + 1 ≤ 16 := by omega
            have s9 : (m : Int) + 1 ≤ 16 := by omega
            have s3 : (0 : Int) ≤ (d : Int) := by omega
            have s4 : (0 : Int) ≤ (d : Int) + 1 := by omega
            have s6 : (d : Int) ≤ (d : Int) + 1 := by omega
            have s7 : (0 : Int) ≤ (m : Int) := by omega
            have s8 : (0 : Int) ≤ (m : Int) + 1 := by omega
            have s10 : (m : Int) ≤ (m : Int) + 1 := by omega
            have t5 : ((d : Int) + 1).toNat = d + 1 := by omega
            have t9 : ((m : Int) + 1).toNat = m + 1 := by omega
            go_still_tail 14, (by kernel_rfl)
            go_wp2_with fail
            refine (writeString 155 bt_builder w.heap.size acc _ _ (HB.out.keep (Below.drew (Below.refl _ _))) ?len).mono ?_
            case len => exact Nat.le_trans (Nat.add_le_add hacc (hs1 _ HE.out)) (by decide)
            rintro e w3 ⟨rfl, hb3, hw3⟩
            rw [HE.out] at hb3
            have HB3 := Lib.hid hb3
            clear hb3
            go_wp2_with fail
            exact ⟨FIN.out w3 HB3.out (Wr.trans (Wr.of_below (Below.drew (Below.refl _ _)) (by omega)) hw3), by simp [intOf]; omega⟩
        · have he := q3 (by omega) hcc
          have HE := Lib.hid he
          clear q1 q2 q3 he
          go_wp2_with fail
          refine (idxByteAt (ba [10, 13, 9, 39, 92]) c.toNat r HR.out wr).mono ?_
          rintro e w2 ⟨rfl, rfl⟩
          go_wp2_with fail
          refine (writeByte 155 bt_builder w.heap.size acc c wr HB.out (by omega)).mono ?_
          rintro e w3 ⟨rfl, hb3, hw3⟩
          rw [HE.out] at hb3
          have HB3 := Lib.hid hb3
          clear hb3
          go_wp2_with fail
          exact ⟨FIN.out w3 HB3.out hw3, by simp [intOf]; omega⟩
    · have hke : k = t.length := by omega
      subst hke
      have hfl := quote_flat_len t
      have hb0 := HB.out
      rw [List.take_length] at hb0
      have HB0' := Lib.hid hb0
      clear hb0
      go_wp2_with fail
      refine (writeByte 155 bt_builder w.heap.size _ 39 _ HB0'.out (by rw [List.length_cons]; omega)).mono ?_
      rintro e w3 ⟨rfl, hb3, hw3⟩
      have HB3 := Lib.hid hb3
      clear hb3
      go_wp2_with fail
      refine (builderString 155 bt_builder w.heap.size _ (by simp) _ HB3.out).mono ?_
      rintro e w4 ⟨rfl, hb4, hw4⟩
      go_wp2_with fail
      go_ret
      exact ⟨rfl, (hB.trans hw3.below).trans hw4.below⟩

end Go.Proofs.YtdmhjnnogcpccaaGreatDoor
end
