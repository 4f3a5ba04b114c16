/- lex.Tokens. syntax.Parse: what it defers. -/
import Derived.Test.YtdmhjnnogcpccaaGreatDoorJCud
import Derived.Test.YtdmhjnnogcpccaaGreatDoorJSyc
import Derived.Test.YtdmhjnnogcpccaaGreatDoorJSyf
import Derived.Defers
import Derived.Recover
import Derived.Laws.Pointers
section
namespace Go.Proofs.YtdmhjnnogcpccaaGreatDoor
open Go.RowKit
open Mu (Cl Bs Nd Ru Gr Tk)
set_option linter.unusedSimpArgs false
set_option linter.unusedVariables false

attribute [local irreducible] wpQuiet wpStill
attribute [local go_sem ↓] Go.wp_at_zero Go.wp_at_succ

theorem token_place {n : Nat} {s q : Bs} {t : Tk} (h : Mu.token n s = .ok (t, q)) : t.place = n - s.length := by
  unfold Mu.token at h
  cases s with
  | nil => simp at h
  | cons c r =>
    simp only at h
    split at h
    · cases h
    · split at h
      · cases h; rfl
      · split at h
        · cases h; rfl
        · split at h
          · cases h; rfl
          · split at h
            · split at h
              · cases h
              · cases h; rfl
            · split at h
              · split at h
                · cases h
                · cases h; rfl
              · cases h

theorem tokensK_end (n f : Nat) (acc : List Tk) (hf : 0 < f) : Mu.tokensK n f acc [] = .ok (acc.reverse ++ [⟨6, [], Cl.zero, n⟩]) := by
  cases f with
  | zero => omega
  | succ f => simp [Mu.tokensK]
theorem tokensK_rem (n f : Nat) (acc : List Tk) (r : Bs) : Mu.tokensK n (f + 1) acc (35 :: r) = Mu.tokensK n f acc (Mu.remark (35 :: r)) := by simp [Mu.tokensK]
theorem tokensK_blank (n f : Nat) (acc : List Tk) (c : UInt8) (r : Bs) (h1 : c ≠ 35) (h2 : c = 9 ∨ c = 10 ∨ c = 13 ∨ c = 32) : Mu.tokensK n (f + 1) acc (c :: r) = Mu.tokensK n f acc r := by simp [Mu.tokensK, h1, h2]
theorem tokensK_err (n f : Nat) (acc : List Tk) (c : UInt8) (r : Bs) (h1 : c ≠ 35) (h2 : ¬ (c = 9 ∨ c = 10 ∨ c = 13 ∨ c = 32)) (e : Mu.Flt) (h : Mu.token n (c :: r) = .error e) (hf : 0 < f) : Mu.tokensK n f acc (c :: r) = .error e := by
  cases f with
  | zero => omega
  | succ f => simp only [Mu.tokensK, if_neg h1, if_neg h2, h]
theorem tokensK_ok (n f : Nat) (acc : List Tk) (c : UInt8) (r q : Bs) (t : Tk) (h1 : c ≠ 35) (h2 : ¬ (c = 9 ∨ c = 10 ∨ c = 13 ∨ c = 32)) (h : Mu.token n (c :: r) = .ok (t, q)) : Mu.tokensK n (f + 1) acc (c :: r) = Mu.tokensK n f (t :: acc) q := by
  simp only [Mu.tokensK, if_neg h1, if_neg h2, h]

/-- where a remark ends -/
theorem remark_at : ∀ l : Bs, (Lib.indexByte l 10 < 0 ∧ Mu.remark l = []) ∨ (0 ≤ Lib.indexByte l 10 ∧ (Lib.indexByte l 10).toNat < l.length ∧ Mu.remark l = l.drop (Lib.indexByte l 10).toNat)
  | [] => .inl ⟨by decide, rfl⟩
  | c :: r => by
    by_cases hc : c = 10
    · subst hc
      refine .inr ⟨by simp [Lib.indexByte], by simp [Lib.indexByte], by simp [Lib.indexByte, Mu.remark]⟩
    · have hb : (c == 10) = false := beq_eq_false_iff_ne.2 hc
      have hrm : Mu.remark (c :: r) = Mu.remark r := by simp [Mu.remark, hc]
      rcases remark_at r with ⟨h1, h2⟩ | ⟨h1, h2, h3⟩
      · exact .inl ⟨by simp [Lib.indexByte, hb]; split <;> omega, by rw [hrm, h2]⟩
      · have hi : Lib.indexByte (c :: r) 10 = Lib.indexByte r 10 + 1 := by
          simp [Lib.indexByte, hb]
          omega
        have ht : (Lib.indexByte r 10 + 1).toNat = (Lib.indexByte r 10).toNat + 1 := by omega
        rw [hi, ht, hrm, h3]
        exact .inr ⟨by omega, by simp; omega, by simp⟩

/-- how many bytes are left to a cutter of n bytes -/
def cutLeft (b n : Nat) (w : World) : Nat := match w.cell? ⟨b, 1, none⟩ with
  | some (.int _ k) => n - k.toNat
  | _ => 0

theorem IsCut.left {b : Nat} {s : Bs} {k : Nat} {l : List Tk} {w : World} (h : IsCut b s k l w) (n : Nat) : cutLeft b n w = n - k := by
  simp [cutLeft, h.cells.2.1]

/-- tokens as they are cut -/
def TksOk (n : Nat) (l : List Tk) : Prop := ∀ t ∈ l, t.text.length ≤ 255 ∧ t.place ≤ n

def TkInv (b : Nat) (s : Bs) (RES : Except Mu.Flt (List Tk)) (w wr : World) : Prop :=
  ∃ (k f : Nat) (l : List Tk), Below w.heap.size w wr ∧ IsCut b s k l wr ∧ k ≤ s.length ∧ l.length ≤ k ∧ TksOk s.length l ∧ Mu.tokensK s.length f l.reverse (s.drop k) = RES ∧ s.length - k < f

def TokensEnd (s : Bs) (w : World) (e : Ending) (w' : World) : Prop := Below w.heap.size w w' ∧
  ((∃ f v, Mu.tokens s = .error f ∧ e = .returned (.tuple #[.slice none 0 0, v]) ∧ IsFlt w.heap.size v f w') ∨
   (∃ (L : List Tk) (v : Value), Mu.tokens s = .ok L ∧ Ends L ∧ L ≠ [] ∧ e = .returned (.tuple #[v, .nilIface]) ∧ w'.ownsRow (w.heap.size + 1) 112 7 v L.length (toksCells L)))

theorem ends_of (n : Nat) (l : List Tk) (hn : n ≤ 10000) (hl : l.length ≤ n) (h : TksOk n l) : Ends (l ++ [⟨6, [], Cl.zero, n⟩]) := by
  refine ⟨by simp; omega, fun i t ht => ?_⟩
  by_cases hi : i < l.length
  · rw [List.getElem?_append_left hi] at ht
    have hm := h t (List.mem_of_getElem? ht)
    exact ⟨hm.1, by omega, fun _ => by simp; omega⟩
  · rw [List.getElem?_append_right (by omega)] at ht
    have h0 : i - l.length = 0 := by
      have := (List.getElem?_eq_some_iff.1 ht).1
      simp at this
      omega
    rw [h0] at ht
    simp at ht
    subst ht
    exact ⟨by simp, by simp; omega, fun h => absurd rfl h⟩

set_option maxHeartbeats 4000000 in
set_option maxRecDepth 100000 in
theorem lex_tokens (s : Bs) (w : World) (hG : ErrT w) (hs : s.length ≤ 140737488355328) : Calls Tryz.prog 55 #[.string (ba s)] w (TokensEnd s w) := by
  have hsz : (ba s).size = s.length := rfl
  by_cases h8 : 8192 < s.length
  · have ht : Mu.tokens s = .error ⟨2, -1⟩ := by simp [Mu.tokens, h8]
    have HT := Lib.hid ht
    have h8i : (8192 : Int) < (s.length : Int) := by omega
    clear ht
    go_enter Tryz.func55, Tryz.ntmps55
    go_wp2_with fail
    refine (lex_fault 2 (-1) w).mono ?_
    rintro e w1 ⟨v, rfl, hv, hb⟩
    have HV := Lib.hid hv
    clear hv
    go_wp2_with fail
    refine bodyPost_ret (v := .tuple #[.slice none 0 0, v]) (by simp [results, Tryz.results55, go_sem]) rfl ⟨hb, .inl ⟨_, v, HT.out, rfl, HV.out⟩⟩
  · have h8i : ¬ (8192 : Int) < (s.length : Int) := by omega
    have ht : Mu.tokens s = Mu.tokensK s.length (s.length + 1) [] s := by simp [Mu.tokens, h8]
    generalize hRES : Mu.tokensK s.length (s.length + 1) [] s = RES at ht
    have HT := Lib.hid ht
    have HRES := Lib.hid hRES
    have HG := Lib.hid hG
    have hn : s.length ≤ 8192 := by omega
    clear ht hRES hG h8
    go_enter Tryz.func55, Tryz.ntmps55
    go_wp2_with fail
    go_loopw [5, 6] (fun _ _ wr => TkInv w.heap.size s RES w wr) (fun _ _ wr => cutLeft w.heap.size s.length wr)
    case atStart =>
      refine ⟨0, _, [], by (repeat' (first | exact Below.refl _ _ | assumption | refine Below.drew ?_ | refine Below.drewN' ?_ _ | refine Below.setCell ?_ (by first | (simp; done) | omega | (simp; omega)) _ | refine Below.alloc ?_ (by first | (simp; done) | omega | (simp; omega)) _ | refine Below.step ?_ (by assumption) (by first | (simp; done) | omega | (simp; omega)))), ⟨.slice none 0 0, new_at _ _ _ (by simp), by exact World.ownsRow_nil _ _ _ _⟩, by omega, by simp, fun t h => by simp at h, HRES.out, by omega⟩
    case round =>
      obtain ⟨k, f, l, hb, hI, hk, hl, hok, hres, hf⟩ := hrel
      obtain ⟨c0, c1, f1, hlt⟩ := hI.cells
      have hbs := hb.size
      have HI := Lib.hid hI
      have HB := Lib.hid hb
      have HOK := Lib.hid hok
      have HRES2 := Lib.hid hres
      clear hI hb hok hres HRES
      rcases drop_cases s k hk with ⟨he, hd⟩ | ⟨c, hkl, hd, hg⟩
      · subst he
        have hd2 : Mu.tokens s = .ok (l ++ [⟨6, [], Cl.zero, s.length⟩]) := by rw [HT.out, ← HRES2.out, hd, tokensK_end _ _ _ (by omega), List.reverse_reverse]
        have HD := Lib.hid hd2
        clear hd hd2
        go_wp2_with fail
        refine (cut_add0 w.heap.size s s.length l 6 [] s.length _ _ rfl rfl wr HI.out (by omega)).mono ?_
        rintro e w2 ⟨rfl, hc2, hb2⟩
        obtain ⟨v, hbk, hown⟩ := hc2
        have d2 := cell_at hbk 2
        have HBK := Lib.hid hbk
        have HOWN := Lib.hid hown
        have HB2 := Lib.hid (HB.out.trans hb2)
        clear hbk hown hb2
        go_wp2_with fail
        refine bodyPost_ret (v := .tuple #[v, .nilIface]) (by simp [results, Tryz.results55, go_sem]) rfl ⟨HB2.out, .inr ⟨_, v, HD.out, ends_of _ _ (by omega) hl HOK.out, by simp, rfl, HOWN.out⟩⟩
      · obtain ⟨f', rfl⟩ : ∃ f', f = f' + 1 := ⟨f - 1, by omega⟩
        have hki : (k : Int) < (s.length : Int) := by omega
        have hgk : (ba s)[k]'hkl = c := hdr0 s k hkl c hd
        have hc255 := c.toNat_lt
        have HD := Lib.hid hd
        clear hd hg
        by_cases h35 : c = 35
        · subst h35
          have hex : (ba s).extract k s.length = ba (s.drop k) := by
            apply ByteArray.ext
            simp [ba, ByteArray.data_extract, List.extract_eq_take_drop]
            exact List.take_of_length_le (by simp)
          have hM := tokensK_rem s.length f' l.reverse (s.drop (k + 1))
          rw [← HD.out, HRES2.out] at hM
          have HEX := Lib.hid hex
          have HM := Lib.hid hM
          have hdl : (s.drop k).length = s.length - k := by simp
          clear hex hM
          rcases remark_at (s.drop k) with ⟨h1, h2⟩ | ⟨h1, h2, h3⟩
          · generalize hr : Lib.indexByte (s.drop k) 10 = r at h1
            have HR := Lib.hid hr
            have H2 := Lib.hid h2
            have hr0 : ¬ 0 ≤ r := by omega
            clear hr h2 h1
            go_wp2_with fail
            rw [HEX.out]
            refine (idxByteAt (ba (s.drop k)) 10 r HR.out _).mono ?_
            rintro e w2 ⟨rfl, rfl⟩
            go_wp2_with fail
            go_roundw
            case rel =>
              refine ⟨s.length, f', l, HB.out.setCell (p := ⟨w.heap.size, 1, none⟩) (Nat.le_refl _) _, HI.out.moved s.length _ rfl, Nat.le_refl _, by omega, HOK.out, ?_, by omega⟩
              rw [HM.out, H2.out, List.drop_length]
            case measure =>
              rw [(HI.out.moved s.length _ rfl).left, HI.out.left]
              omega
          · obtain ⟨j, hj⟩ : ∃ j : Nat, Lib.indexByte (s.drop k) 10 = (j : Int) := ⟨(Lib.indexByte (s.drop k) 10).toNat, by omega⟩
            have hjn : (Lib.indexByte (s.drop k) 10).toNat = j := by omega
            rw [hjn] at h2 h3
            have HR := Lib.hid hj
            have H3 := Lib.hid h3
            have hjl : k + j < s.length := by omega
            have hj0 : (0 : Int) ≤ (j : Int) := by omega
            have hj1 : (j : Int) ≤ 8192 := by omega
            have hj2 : j ≠ 0 := by
              rintro rfl
              have e := HR.out
              rw [HD.out] at e
              have : ((35 : UInt8) == 10) = false := by decide
              simp [Lib.indexByte, this] at e
              split at e <;> omega
            clear hj h3 h1 hjn h2
            go_wp2_with fail
            rw [HEX.out]
            refine (idxByteAt (ba (s.drop k)) 10 (j : Int) HR.out _).mono ?_
            rintro e w2 ⟨rfl, rfl⟩
            go_wp2_with fail
            go_roundw
            case rel =>
              refine ⟨k + j, f', l, HB.out.setCell (p := ⟨w.heap.size, 1, none⟩) (Nat.le_refl _) _, HI.out.moved (k + j) _ (by simp), by omega, by omega, HOK.out, ?_, by omega⟩
              rw [HM.out, H3.out, List.drop_drop]
            case measure =>
              rw [(HI.out.moved (k + j) _ (by simp)).left, HI.out.left]
              omega
        · by_cases hbl : c = 9 ∨ c = 10 ∨ c = 13 ∨ c = 32
          · have hM := tokensK_blank s.length f' l.reverse c (s.drop (k + 1)) h35 hbl
            rw [← HD.out, HRES2.out] at hM
            have HM := Lib.hid hM
            clear hM h35 HD
            rcases hbl with rfl | rfl | rfl | rfl
            all_goals
              go_wp2_with fail
              go_roundw
              case rel => exact ⟨k + 1, f', l, HB.out.setCell (p := ⟨w.heap.size, 1, none⟩) (Nat.le_refl _) _, HI.out.moved (k + 1) _ (by simp), by omega, by omega, HOK.out, HM.out.symm, by omega⟩
              case measure =>
                rw [(HI.out.moved (k + 1) _ (by simp)).left, HI.out.left]
                omega
          · have hc35 : ((c.toNat : Int) == 35) = false := beq_eq_false_iff_ne.2 fun e => h35 (UInt8.toNat_inj.1 (by show c.toNat = 35; omega))
            have hc9 : ((c.toNat : Int) == 9) = false := beq_eq_false_iff_ne.2 fun e => hbl (.inl (UInt8.toNat_inj.1 (by show c.toNat = 9; omega)))
            have hc10 : ((c.toNat : Int) == 10) = false := beq_eq_false_iff_ne.2 fun e => hbl (.inr (.inl (UInt8.toNat_inj.1 (by show c.toNat = 10; omega))))
            have hc13 : ((c.toNat : Int) == 13) = false := beq_eq_false_iff_ne.2 fun e => hbl (.inr (.inr (.inl (UInt8.toNat_inj.1 (by show c.toNat = 13; omega)))))
            have hc32 : ((c.toNat : Int) == 32) = false := beq_eq_false_iff_ne.2 fun e => hbl (.inr (.inr (.inr (UInt8.toNat_inj.1 (by show c.toNat = 32; omega)))))
            have HN35 := Lib.hid h35
            have HNB := Lib.hid hbl
            have hGr : ErrT wr := HG.out.keep HB.out HG.out.2
            have HGR := Lib.hid hGr
            clear h35 hbl hGr
            go_wp2_with fail
            refine (cut_token w.heap.size s k l wr HI.out HGR.out (by omega) (by omega) hkl).mono ?_
            rintro e w2 ⟨hb2, ⟨fl, v, hf2, rfl, hv⟩ | ⟨t, q, hq, htl, hq1, hq2, rfl, hc2⟩⟩
            · obtain ⟨p, hp1, rfl, hp2⟩ := hv
              have HP := Lib.hid hp2
              have HF := Lib.hid hf2
              have HB2 := Lib.hid (HB.out.trans hb2)
              clear hp2 hf2 hb2
              go_wp2_with fail
              refine bodyPost_ret (v := .tuple #[.slice none 0 0, .iface 83 (.pointer (some ⟨p, 0, none⟩))]) (by simp [results, Tryz.results55, go_sem]) rfl ⟨HB2.out, .inl ⟨fl, _, ?_, rfl, p, by omega, rfl, HP.out⟩⟩
              rw [HT.out, ← HRES2.out, HD.out]
              exact tokensK_err _ _ _ _ _ HN35.out HNB.out _ (by rw [← HD.out]; exact HF.out) (by omega)
            · have HQ := Lib.hid hq
              have HC2 := Lib.hid hc2
              have HB2 := Lib.hid (HB.out.trans hb2)
              clear hq hc2 hb2
              go_wp2_with fail
              go_roundw
              case rel =>
                refine ⟨q, f', l ++ [t], HB2.out, HC2.out, hq2, by simp; omega, ?_, ?_, by omega⟩
                · intro x hx
                  rcases List.mem_append.1 hx with h | h
                  · exact HOK.out x h
                  · simp at h
                    subst h
                    exact ⟨htl, by rw [token_place HQ.out]; omega⟩
                · rw [← HRES2.out, HD.out, tokensK_ok _ _ _ _ _ _ _ HN35.out HNB.out (by rw [← HD.out]; exact HQ.out)]
                  simp
              case measure =>
                rw [HC2.out.left, HI.out.left]
                omega

end Go.Proofs.YtdmhjnnogcpccaaGreatDoor
end

section
namespace Go.Proofs.YtdmhjnnogcpccaaGreatDoor
open Go.RowKit
open Mu (Cl Bs Nd Ru Gr Tk)
set_option linter.unusedSimpArgs false
set_option linter.unusedVariables false

attribute [local irreducible] wpQuiet wpStill

set_option maxHeartbeats 2000000 in
set_option maxRecDepth 20000 in
theorem catch_idle (g e : Addr) (w : World) :
    CallsD Tryz.prog 56 #[.pointer (some g), .pointer (some e)] .returning w fun ev u' w' => ev = .returned (.tuple #[]) ∧ u' = .returning ∧ w' = w := by
  refine callsD_of_wpS Tryz.func56 rfl fun c₀ cs hu => ?_
  apply wpS_seq
  apply wpS_region
  simp [wpOpsS, go_sem, recoverD, hu, Tryz.ntmps56, Exit.thenS]
  refine wpS_of_wp ?_
  go_wp2
  cases c₀
  simp_all [bodyPostS, results, Tryz.results56]

set_option maxHeartbeats 2000000 in
set_option maxRecDepth 20000 in
theorem catch_fault (g e : Nat) (p : Addr) (gv ev0 : Value) (older : List PanicEntry) (w : World) (hg : w.cell? ⟨g, 0, none⟩ = some gv) (hgf : w.frozen? ⟨g, 0, none⟩ = false) (he : w.cell? ⟨e, 0, none⟩ = some ev0) (hef : w.frozen? ⟨e, 0, none⟩ = false) (hne : ¬ e = g) (hne' : ¬ g = e) :
    CallsD Tryz.prog 56 #[.pointer (some ⟨g, 0, none⟩), .pointer (some ⟨e, 0, none⟩)] (.panicking ({ v := .iface 83 (.pointer (some p)), recovered := false } :: older)) w fun ev u' w' =>
      ev = .returned (.tuple #[]) ∧ u' = .panicking ({ v := .iface 83 (.pointer (some p)), recovered := true } :: older) ∧ w' = (w.setCell ⟨g, 0, none⟩ (.slice none 0 0)).setCell ⟨e, 0, none⟩ (.iface 83 (.pointer (some p))) := by
  refine callsD_of_wpS Tryz.func56 rfl fun c₀ cs hu => ?_
  apply wpS_seq
  apply wpS_region
  simp [wpOpsS, go_sem, recoverD, hu, Tryz.ntmps56, Exit.thenS]
  refine wpS_of_wp ?_
  have hta : ∀ w, (Instr.typeAssert (.iface 83 (.pointer (some p))) 20 83 true).run Tryz.prog w = .ok (.tuple #[.pointer (some p), .bool true]) w := fun _ => by kernel_rfl
  go_wp2
  simp [bodyPostS, results, Tryz.results56]

end Go.Proofs.YtdmhjnnogcpccaaGreatDoor
end
