/- printer: rule; slices.IndexFunc and ContainsFunc over rules. printer: Print. printer: Right. -/
import Derived.Test.YtdmhjnnogcpccaaGreatDoorJPrc
section
namespace Go.Proofs.YtdmhjnnogcpccaaGreatDoor
open Go.RowKit
open Mu (Cl Bs Nd Ru Gr Tk)
set_option linter.unusedSimpArgs false
set_option linter.unusedVariables false

attribute [local irreducible] wpQuiet wpStill
attribute [local go_sem ↓] Go.wp_at_zero Go.wp_at_succ

/-- what 'rule' answers of a rule that is read -/
def RuleC (f : FuncId) (P : Ru → Bool) (r : Ru) : Prop := ∀ (S : Value) (w : World) (F : Nat → Prop), r.name.length ≤ 140737488351232 → RN w F (ndv r.body.kind r.body.text r.body.cls S r.body.place) r.body → (∀ k, F k → k < w.heap.size) →
  Calls Tryz.prog f #[ruOf r S] w fun e w' => e = .returned (.bool (P r)) ∧ Below w.heap.size w w'

set_option maxHeartbeats 4000000 in
set_option maxRecDepth 20000 in
theorem prn_rule (r : Ru) : RuleC 87 Mu.ruleOk r := by
  intro S w F hl hR hF
  obtain ⟨a, b, off, cap, C, hv, _⟩ := hR.open
  have hS : S = .slice a r.body.subs.length cap := by
    simp only [ndv, Value.agg.injEq] at hv
    have := congrArg (fun z : Array Value => z[6]?) hv
    simpa using this
  subst hS
  have hN := Lib.hid (prn_node r.body _ (w.alloc (.cells (ruOf r (.slice a r.body.subs.length cap)).cells 60)) F (hR.keep fun k hk => Below.heap_alloc _ _ _ (hF k hk)) (fun k hk => by have := hF k hk; simp; omega))
  clear hR hv
  cases hnm : Mu.isName r.name
  · have hr : Mu.ruleOk r = false := by simp [Mu.ruleOk, hnm]
    have HR := Lib.hid hr
    clear hr
    go_enter Tryz.func87, Tryz.ntmps87
    go_wp2_with fail
    refine (lex_Name r.name (by omega) _).mono ?_
    rintro e w2 ⟨rfl, rfl⟩
    rw [hnm]
    go_wp2_with fail
    go_ret
    exact ⟨by rw [HR.out]; rfl, by (repeat' (first | exact Below.refl _ _ | assumption | refine Below.drew ?_ | refine Below.drewN' ?_ _ | refine Below.setCell ?_ (by first | (simp; done) | omega | (simp; omega)) _ | refine Below.alloc ?_ (by first | (simp; done) | omega | (simp; omega)) _ | refine Below.step ?_ (by assumption) (by first | (simp; done) | omega | (simp; omega))))⟩
  · have hr : Mu.ruleOk r = Mu.nodeOk r.body := by simp [Mu.ruleOk, hnm]
    rw [hr]
    clear hr
    go_enter Tryz.func87, Tryz.ntmps87
    go_wp2_with fail
    refine (lex_Name r.name (by omega) _).mono ?_
    rintro e w2 ⟨rfl, rfl⟩
    rw [hnm]
    go_wp2_with fail
    refine hN.out.mono ?_
    rintro e w3 ⟨rfl, hb⟩
    go_wp2_with fail
    go_ret
    exact ⟨rfl, Below.trans (by (repeat' (first | exact Below.refl _ _ | assumption | refine Below.drew ?_ | refine Below.drewN' ?_ _ | refine Below.setCell ?_ (by first | (simp; done) | omega | (simp; omega)) _ | refine Below.alloc ?_ (by first | (simp; done) | omega | (simp; omega)) _ | refine Below.step ?_ (by assumption) (by first | (simp; done) | omega | (simp; omega))))) (hb.mono (by simp))⟩

set_option maxHeartbeats 4000000 in
set_option maxRecDepth 20000 in
theorem prn_rule_closure (r : Ru) : RuleC 86 (fun r => !Mu.ruleOk r) r := by
  intro S w F hl hR hF
  obtain ⟨a, b, off, cap, C, hv, _⟩ := hR.open
  have hS : S = .slice a r.body.subs.length cap := by
    simp only [ndv, Value.agg.injEq] at hv
    have := congrArg (fun z : Array Value => z[6]?) hv
    simpa using this
  subst hS
  have hN := Lib.hid (prn_rule r _ (w.alloc (.cells (ruOf r (.slice a r.body.subs.length cap)).cells 60)) F hl (hR.keep fun k hk => Below.heap_alloc _ _ _ (hF k hk)) (fun k hk => by have := hF k hk; simp; omega))
  clear hR hv
  go_enter Tryz.func86, Tryz.ntmps86
  go_wp2_with fail
  refine hN.out.mono ?_
  rintro e w3 ⟨rfl, hb⟩
  go_wp2_with fail
  go_ret
  exact ⟨rfl, Below.trans (by (repeat' (first | exact Below.refl _ _ | assumption | refine Below.drew ?_ | refine Below.drewN' ?_ _ | refine Below.setCell ?_ (by first | (simp; done) | omega | (simp; omega)) _ | refine Below.alloc ?_ (by first | (simp; done) | omega | (simp; omega)) _ | refine Below.step ?_ (by assumption) (by first | (simp; done) | omega | (simp; omega))))) (hb.mono (by simp))⟩

theorem rule_cells {w : World} {F : Nat → Prop} {a : Option Addr} {b off : Nat} {g : Gr} {S : Nat → Value} (h : RRs w F a b off g S) (i : Nat) (hi : i < g.length) :
    RN w F (ndv g[i].body.kind g[i].body.text g[i].body.cls (S i) g[i].body.place) g[i].body := h.hS i hi

set_option maxHeartbeats 4000000 in
set_option maxRecDepth 20000 in
theorem idx_rules (g : Gr) (F : Nat → Prop) (a : Option Addr) (b off cap : Nat) (S : Nat → Value) (w : World) (h : RRs w F a b off g S) (hF : ∀ k, F k → k < w.heap.size) :
    Calls Tryz.prog 51 #[.slice a g.length cap, .func (.func 86) #[] #[]] w fun e w' => ∃ r : Int, e = .returned (.int .i64 r) ∧ (decide (0 ≤ r) = g.any (fun r => !Mu.ruleOk r)) ∧ Below w.heap.size w w' := by
  have hlim := h.hlim
  unfold maxRus at hlim
  have H := Lib.hid h
  have HF := Lib.hid hF
  clear h hF
  go_enter Tryz.func51, Tryz.ntmps51
  go_wp2_with fail
  go_loopw [5, 8] (fun _ s wr => ∃ k : Nat, k ≤ g.length ∧ s = .int .i64 k ∧ (g.take k).any (fun r => !Mu.ruleOk r) = false ∧ Below w.heap.size w wr) (fun _ s _ => g.length - (intOf s).toNat)
  case atStart => exact ⟨0, Nat.zero_le _, rfl, by simp, by (repeat' (first | exact Below.refl _ _ | assumption | refine Below.drew ?_ | refine Below.drewN' ?_ _ | refine Below.setCell ?_ (by first | (simp; done) | omega | (simp; omega)) _ | refine Below.alloc ?_ (by first | (simp; done) | omega | (simp; omega)) _ | refine Below.step ?_ (by assumption) (by first | (simp; done) | omega | (simp; omega))))⟩
  case round =>
    obtain ⟨k, hk, rfl, hall, hb⟩ := hrel
    have HALL := Lib.hid hall
    have HB := Lib.hid hb
    have hsz := hb.size
    clear hall hb
    by_cases hlt : k < g.length
    · have hn := H.out.keep (Keeps.of_below HB.out HF.out)
      obtain ⟨a', cap', rfl, hFb, hSk, t0, t1, t2, t3, t4, t5, t6, t7, t8, t9⟩ := hn.one k hlt
      have hR := hn.hS k hlt
      have hnm := hn.hnm k hlt
      have hmem : g[k] ∈ g := List.getElem_mem hlt
      have hts : (g.take (k + 1)).any (fun r => !Mu.ruleOk r) = !Mu.ruleOk g[k] := by
        rw [List.take_succ_eq_append_getElem hlt, List.any_append, HALL.out]
        simp
      have hall2 : Mu.ruleOk g[k] = false → g.any (fun r => !Mu.ruleOk r) = true := fun hf => by
        rw [List.any_eq_true]
        exact ⟨_, hmem, by simp [hf]⟩
      have hcl := prn_rule_closure g[k] (S k) wr F hnm hR (fun j hj => by have := HF.out j hj; omega)
      rw [hSk] at hcl
      have HC := Lib.hid hcl
      have HTS := Lib.hid hts
      have HA2 := Lib.hid hall2
      clear hn hR hSk hmem hts hall2 hcl hnm
      generalize g[k] = r0 at t0 t1 t2 t3 t4 t5 t6 t7 t8 t9 HC HTS HA2
      have hlti : (k : Int) < (g.length : Int) := by omega
      go_wp2_with fail
      refine HC.out.mono ?_
      rintro e w2 ⟨rfl, hb2⟩
      have HB2 := Lib.hid (HB.out.trans (hb2.mono hsz))
      clear hb2
      cases hok : Mu.ruleOk r0 with
      | true =>
        have HOK := Lib.hid hok
        clear hok
        simp only [Bool.not_true]
        go_wp2_with fail
        go_roundw
        case rel => exact ⟨k + 1, by omega, by go_num, by rw [HTS.out, HOK.out]; rfl, HB2.out⟩
        case measure => simp [intOf]; omega
      | false =>
        have HOK := Lib.hid hok
        clear hok
        simp only [Bool.not_false]
        go_wp2_with fail
        go_ret
        exact ⟨(k : Int), rfl, by rw [HA2.out HOK.out]; simp, HB2.out⟩
    · obtain rfl : k = g.length := by omega
      go_wp2_with fail
      go_ret
      exact ⟨-1, rfl, by have := HALL.out; rw [List.take_length] at this; rw [this]; rfl, HB.out⟩

set_option maxHeartbeats 4000000 in
set_option maxRecDepth 20000 in
theorem contains_rules (g : Gr) (F : Nat → Prop) (a : Option Addr) (b off cap : Nat) (S : Nat → Value) (w : World) (h : RRs w F a b off g S) (hF : ∀ k, F k → k < w.heap.size) :
    Calls Tryz.prog 85 #[.slice a g.length cap, .func (.func 86) #[] #[]] w fun e w' => e = .returned (.bool (g.any fun r => !Mu.ruleOk r)) ∧ Below w.heap.size w w' := by
  have HI := Lib.hid (idx_rules g F a b off cap S w h hF)
  clear h hF
  go_enter Tryz.func85, Tryz.ntmps85
  go_wp2_with fail
  refine HI.out.mono ?_
  rintro e w2 ⟨r, rfl, hr, hb⟩
  have HR := Lib.hid hr
  clear hr
  go_wp2_with fail
  go_ret
  exact ⟨by rw [← HR.out]; rfl, hb⟩

end Go.Proofs.YtdmhjnnogcpccaaGreatDoor
end

section
namespace Go.Proofs.YtdmhjnnogcpccaaGreatDoor
open Go.RowKit
open Mu (Cl Bs Nd Ru Gr Tk)
set_option linter.unusedSimpArgs false
set_option linter.unusedVariables false

attribute [local irreducible] wpQuiet wpStill
attribute [local go_sem ↓] Go.wp_at_zero Go.wp_at_succ

/-- all nodes of a grammar -/
def szg : Gr → Nat
  | [] => 0
  | r :: g => Mu.sz r.body + 1 + szg g

theorem szg_drop : ∀ (g : Gr) (k : Nat) (h : k < g.length), szg (g.drop k) = Mu.sz g[k].body + 1 + szg (g.drop (k + 1))
  | [], k, h => by simp at h
  | r :: g, 0, _ => by simp [szg]
  | r :: g, k + 1, h => by simpa using szg_drop g k (by simpa using h)

theorem szg_mem : ∀ (g : Gr) (r : Ru), r ∈ g → Mu.sz r.body + 1 ≤ szg g
  | [], r, h => by simp at h
  | q :: g, r, h => by
    rcases List.mem_cons.1 h with rfl | h
    · simp [szg]
    · have := szg_mem g r h
      simp [szg]
      omega

/-- what Print answers, once the rules' text is there -/
def prRes : Option Bs → Except Int Bs
  | none => .error 2
  | some s => match Mu.parse s with
    | .error _ => .error 20
    | .ok _ => .ok s

theorem print_ok (g : Gr) (h : ¬ (g.length < 1 ∨ 64 < g.length ∨ g.any (fun r => !Mu.ruleOk r) = true)) : Mu.print g = prRes (Mu.rulesT g []) := by
  unfold Mu.print
  rw [if_neg h]
  cases Mu.rulesT g [] <;> rfl

/-- an error's number as an interface value -/
abbrev errnoV (c : Int) : Value := .iface 43 (.int .i64 c)

def PrintEnd (g : Gr) (w : World) (e : Ending) (w' : World) : Prop := Below w.heap.size w w' ∧
  ((∃ c, Mu.print g = .error c ∧ e = .returned (.tuple #[.string (ba []), errnoV c])) ∨ (∃ s, Mu.print g = .ok s ∧ e = .returned (.tuple #[.string (ba s), .nilIface])))

set_option maxHeartbeats 8000000 in
set_option maxRecDepth 100000 in
theorem prn_print (g : Gr) (F : Nat → Prop) (a : Option Addr) (b off cap : Nat) (S : Nat → Value) (w : World) (h : RRs w F a b off g S) (hF : ∀ k, F k → k < w.heap.size) (hG : ErrT w) (hsz : 3000 * szg g ≤ 140737488200000) :
    Calls Tryz.prog 60 #[.agg #[.slice a g.length cap]] w (PrintEnd g w) := by
  have hlim := h.hlim
  unfold maxRus at hlim
  have h1 := h.keep (w' := w.alloc (.cells #[.slice a g.length cap] 24)) (fun k hk => Below.heap_alloc _ _ _ (hF k hk))
  have HC := Lib.hid (contains_rules g F a b off cap S _ h1 (fun k hk => by have := hF k hk; simp; omega))
  have H := Lib.hid h
  have H1 := Lib.hid h1
  have HF := Lib.hid hF
  have HG := Lib.hid hG
  clear h h1 hF hG
  have hbad : (g.length < 1 ∨ 64 < g.length ∨ g.any (fun r => !Mu.ruleOk r) = true) → Mu.print g = .error 20 := fun h => by
    unfold Mu.print
    rw [if_pos h]
  by_cases hl1 : g.length < 1
  · have hp := hbad (.inl hl1)
    have HPR := Lib.hid hp
    have hi : (g.length : Int) < 1 := by omega
    clear hp hbad
    go_enter Tryz.func60, Tryz.ntmps60
    go_wp2_with fail
    refine bodyPost_ret (v := .tuple #[.string (ba []), errnoV 20]) (by simp [results, Tryz.results60, go_sem]) rfl ⟨by (repeat' (first | exact Below.refl _ _ | assumption | refine Below.drew ?_ | refine Below.drewN' ?_ _ | refine Below.setCell ?_ (by first | (simp; done) | omega | (simp; omega)) _ | refine Below.alloc ?_ (by first | (simp; done) | omega | (simp; omega)) _ | refine Below.step ?_ (by assumption) (by first | (simp; done) | omega | (simp; omega)))), .inl ⟨20, HPR.out, rfl⟩⟩
  · by_cases hl64 : 64 < g.length
    · have hp := hbad (.inr (.inl hl64))
      have HPR := Lib.hid hp
      have hi : ¬ (g.length : Int) < 1 := by omega
      have hj : (64 : Int) < (g.length : Int) := by omega
      clear hp hbad
      go_enter Tryz.func60, Tryz.ntmps60
      go_wp2_with fail
      refine bodyPost_ret (v := .tuple #[.string (ba []), errnoV 20]) (by simp [results, Tryz.results60, go_sem]) rfl ⟨by (repeat' (first | exact Below.refl _ _ | assumption | refine Below.drew ?_ | refine Below.drewN' ?_ _ | refine Below.setCell ?_ (by first | (simp; done) | omega | (simp; omega)) _ | refine Below.alloc ?_ (by first | (simp; done) | omega | (simp; omega)) _ | refine Below.step ?_ (by assumption) (by first | (simp; done) | omega | (simp; omega)))), .inl ⟨20, HPR.out, rfl⟩⟩
    · have hi : ¬ (g.length : Int) < 1 := by omega
      have hj : ¬ (64 : Int) < (g.length : Int) := by omega
      cases hany : g.any (fun r => !Mu.ruleOk r)
      · have HANY := Lib.hid hany
        clear hbad hany
        go_enter Tryz.func60, Tryz.ntmps60
        go_wp2_with fail
        refine HC.out.mono ?_
        rintro e w1 ⟨rfl, hb1⟩
        rw [HANY.out]
        have hq1 := (hb1.block w.heap.size (by simp)).trans (last_block w _)
        have q0 := cell_at hq1 0
        have hs1 : w.heap.size + 1 ≤ w1.heap.size := by have := hb1.size; simpa using this
        have HQ1 := Lib.hid hq1
        have HB1 := Lib.hid (Below.trans (by (repeat' (first | exact Below.refl _ _ | assumption | refine Below.drew ?_ | refine Below.drewN' ?_ _ | refine Below.setCell ?_ (by first | (simp; done) | omega | (simp; omega)) _ | refine Below.alloc ?_ (by first | (simp; done) | omega | (simp; omega)) _ | refine Below.step ?_ (by assumption) (by first | (simp; done) | omega | (simp; omega)))) : Below w.heap.size w (w.alloc (.cells #[.slice a g.length cap] 24))) (hb1.mono (by simp)))
        have hwl : w.heap.size < w1.heap.size := by omega
        have hrok : ∀ r ∈ g, Mu.ruleOk r = true := fun r hr => by
          have := HANY.out
          rw [List.any_eq_false] at this
          simpa using this r hr
        have HROK := Lib.hid hrok
        have hpr := print_ok g (fun h => h.elim hl1 fun h => h.elim hl64 fun q => by rw [HANY.out] at q; cases q)
        generalize hRT : Mu.rulesT g [] = RT at hpr
        have HPR := Lib.hid hpr
        have HRT := Lib.hid hRT
        clear hb1 hq1 hrok hRT hpr
        go_wp2_with fail
        go_loopw [28] (fun s wr => ∃ (k : Nat) (lk : Bs), k ≤ g.length ∧ s = .int .i64 k ∧ Bld 157 w1.heap.size lk wr ∧ Wr w1.heap.size (w1.alloc (.cells #[.pointer none, .slice none 0 0] 157)) wr ∧ Mu.rulesT (g.drop k) lk = RT ∧ lk.length ≤ 8192 ∧ (k = 0 ∨ lk ≠ [])) (fun s _ => g.length - (intOf s).toNat)
        case atStart => exact ⟨0, [], Nat.zero_le _, rfl, Bld.fresh _ _, Wr.refl _ _, HRT.out, by simp, .inl rfl⟩
        case round =>
          obtain ⟨k, lk, hk, rfl, hBk, hWk, hRk, hlk, hnk⟩ := hrel
          have hsk := hWk.size
          simp at hsk
          have hbW : Below w.heap.size w wr := (HB1.out.trans ((Below.refl _ _).alloc (by omega) _)).trans (hWk.below.mono (by omega))
          have HBk := Lib.hid hBk
          have HWk := Lib.hid hWk
          have HRk := Lib.hid hRk
          have HBW := Lib.hid hbW
          have HNK := Lib.hid hnk
          clear hBk hWk hRk hbW hnk
          by_cases hlt : k < g.length
          · have hn := H.out.keep (Keeps.of_below HBW.out HF.out)
            obtain ⟨a', cap', rfl, hFb, hSk, t0, t1, t2, t3, t4, t5, t6, t7, t8, t9⟩ := hn.one k hlt
            have hR := hn.hS k hlt
            rw [hSk] at hR
            have hok := HROK.out _ (List.getElem_mem hlt)
            have hdr : g.drop k = g[k] :: g.drop (k + 1) := List.drop_eq_getElem_cons hlt
            have hRk := HRk.out
            rw [hdr] at hRk
            have hszk := szg_mem g _ (List.getElem_mem hlt)
            have hbl := HF.out b hFb
            have HR := Lib.hid hR
            have HOK := Lib.hid hok
            have HRk2 := Lib.hid hRk
            have HSZ := Lib.hid hszk
            clear hn hSk hR hok hdr hRk hszk HRk
            generalize g[k] = r0 at t0 t1 t2 t3 t4 t5 t6 t7 t8 t9 HR HOK HRk2 HSZ
            have hlti : (k : Int) < (g.length : Int) := by omega
            have hbw2 : b < wr.heap.size := by omega
            have hn32 : r0.name.length ≤ 32 := by
              have := HOK.out
              simp [Mu.ruleOk] at this
              exact isName_len _ this.1
            have hnb : (ba r0.name).size ≤ 32 := hn32
            have hdt : (ba r0.name ++ (⟨#[32, 60, 45, 32]⟩ : ByteArray)).data.toList = r0.name ++ [32, 60, 45, 32] := by simp [ba]
            have hdz : (ba r0.name ++ (⟨#[32, 60, 45, 32]⟩ : ByteArray)).size = r0.name.length + 4 := by
              have := congrArg List.length hdt
              simp [ByteArray.size]
            have HW1 := Lib.hid (writeString 157 bt_page w1.heap.size lk (ba r0.name ++ (⟨#[32, 60, 45, 32]⟩ : ByteArray)) (wr.alloc (.cells #[.string (ba r0.name), .int .i64 r0.body.kind, .string (ba r0.body.text), .int .u64 (r0.body.cls.a.toNat : Int), .int .u64 (r0.body.cls.b.toNat : Int), .int .u64 (r0.body.cls.c.toNat : Int), .int .u64 (r0.body.cls.d.toNat : Int), .slice a' r0.body.subs.length cap', .int .i64 r0.body.place, .int .i64 r0.place] 60)) (HBk.out.keep (by (repeat' (first | exact Below.refl _ _ | assumption | refine Below.drew ?_ | refine Below.drewN' ?_ _ | refine Below.setCell ?_ (by first | (simp; done) | omega | (simp; omega)) _ | refine Below.alloc ?_ (by first | (simp; done) | omega | (simp; omega)) _ | refine Below.step ?_ (by assumption) (by first | (simp; done) | omega | (simp; omega)))))) (by rw [hdz]; omega))
            have HDT := Lib.hid hdt
            have hokb : Mu.nodeOk r0.body = true := by
              have := HOK.out
              simp [Mu.ruleOk] at this
              exact this.2
            have HOKB := Lib.hid hokb
            clear hdt hdz hokb
            go_wp2_with fail
            refine HW1.out.mono ?_
            rintro e w2 ⟨rfl, hB2, hW2⟩
            rw [HDT.out] at hB2
            have hq2 := hW2.keep (last_block wr _) (by omega) (by intro c fz e; cases e)
            obtain ⟨y1, y2, y3, y4, y5, y6, y7, y8⟩ : w2.cell? ⟨wr.heap.size, 1, none⟩ = some (.int .i64 r0.body.kind) ∧ w2.cell? ⟨wr.heap.size, 2, none⟩ = some (.string (ba r0.body.text)) ∧ w2.cell? ⟨wr.heap.size, 3, none⟩ = some (.int .u64 (r0.body.cls.a.toNat : Int)) ∧ w2.cell? ⟨wr.heap.size, 4, none⟩ = some (.int .u64 (r0.body.cls.b.toNat : Int)) ∧ w2.cell? ⟨wr.heap.size, 5, none⟩ = some (.int .u64 (r0.body.cls.c.toNat : Int)) ∧ w2.cell? ⟨wr.heap.size, 6, none⟩ = some (.int .u64 (r0.body.cls.d.toNat : Int)) ∧ w2.cell? ⟨wr.heap.size, 7, none⟩ = some (.slice a' r0.body.subs.length cap') ∧ w2.cell? ⟨wr.heap.size, 8, none⟩ = some (.int .i64 r0.body.place) :=
              ⟨cell_at hq2 1, cell_at hq2 2, cell_at hq2 3, cell_at hq2 4, cell_at hq2 5, cell_at hq2 6, cell_at hq2 7, cell_at hq2 8⟩
            have hWk2 := (HWk.out.alloc (.cells #[.string (ba r0.name), .int .i64 r0.body.kind, .string (ba r0.body.text), .int .u64 (r0.body.cls.a.toNat : Int), .int .u64 (r0.body.cls.b.toNat : Int), .int .u64 (r0.body.cls.c.toNat : Int), .int .u64 (r0.body.cls.d.toNat : Int), .slice a' r0.body.subs.length cap', .int .i64 r0.body.place, .int .i64 r0.place] 60) (by omega)).trans hW2
            have hR2 := (HR.out.keep (w' := w2) fun j hj => by
              have hjl := HF.out j hj
              exact (hW2.below.block j (by omega)).trans (Below.heap_alloc _ _ _ (by omega)))
            have HX := Lib.hid (prn_expr r0.body _ w2 F w1.heap.size (lk ++ (r0.name ++ [32, 60, 45, 32])) hR2 (fun j hj => by have := HF.out j hj; omega) hB2 HOKB.out (by have := HSZ.out; simp; omega))
            have HWk2 := Lib.hid hWk2
            have hql := lt_of_block hq2
            clear hB2 hW2 hq2 hWk2 hR2
            go_wp2_with fail
            refine HX.out.mono ?_
            rintro e w3 ⟨rfl, hB3, hW3, hl3⟩
            have HWk3 := Lib.hid (HWk2.out.trans hW3)
            have HY := Lib.hid (writeByte 157 bt_page w1.heap.size _ 10 w3 hB3 (by have := HSZ.out; simp at hl3; omega))
            clear hB3 hW3
            go_wp2_with fail
            refine HY.out.mono ?_
            rintro e w4 ⟨rfl, hB4, hW4⟩
            have HB4 := Lib.hid hB4
            have HWk4 := Lib.hid (HWk3.out.trans hW4)
            clear hB4 hW4
            have hqb : (Mu.exprT r0.body (lk ++ (r0.name ++ [32, 60, 45, 32])) ++ [10]).length ≤ 140737488355328 := by
              have := HSZ.out
              simp at hl3 ⊢
              omega
            generalize hq : Mu.exprT r0.body (lk ++ (r0.name ++ [32, 60, 45, 32])) ++ [10] = q at HB4 hqb
            have hRT2 : (if 8192 < q.length then none else Mu.rulesT (g.drop (k + 1)) q) = RT := by
              rw [← HRk2.out, Mu.rulesT, ← hq]
            have HRT2 := Lib.hid hRT2
            have HQ := Lib.hid hq
            clear hq hRT2
            go_wp2_with fail
            refine (prn_wide w1.heap.size q w4 HB4.out hqb).mono ?_
            rintro e w5 ⟨rfl, rfl⟩
            by_cases h8 : 8192 < q.length
            · have hwd : Mu.wide q = true := by simp [Mu.wide, h8]
              rw [hwd]
              have hRT3 := HRT2.out
              rw [if_pos h8] at hRT3
              have hp2 : Mu.print g = .error 2 := by rw [HPR.out, ← hRT3]; rfl
              have HP2 := Lib.hid hp2
              clear hwd hRT3 hp2
              go_wp2_with fail
              refine bodyPost_ret (v := .tuple #[.string (ba []), errnoV 2]) (by simp [results, Tryz.results60, go_sem]) rfl ⟨(HB1.out.trans ((Below.refl _ _).alloc (by omega) _)).trans (HWk4.out.below.mono (by omega)), .inl ⟨2, HP2.out, rfl⟩⟩
            · have hwd : Mu.wide q = false := by simp [Mu.wide, h8]
              rw [hwd]
              have hRT3 := HRT2.out
              rw [if_neg h8] at hRT3
              have HRT3 := Lib.hid hRT3
              have hq0 : q ≠ [] := by rw [← HQ.out]; simp
              have HQ0 := Lib.hid hq0
              have hq8 : q.length ≤ 8192 := by omega
              clear hwd hRT3 h8 hq0
              go_wp2_with fail
              go_roundw
              case rel => exact ⟨k + 1, q, by omega, by go_num, HB4.out, HWk4.out, HRT3.out, hq8, .inr HQ0.out⟩
              case measure => simp [intOf]; omega
          · obtain rfl : k = g.length := by omega
            have hne : lk ≠ [] := by
              rcases HNK.out with h0 | h0
              · omega
              · exact h0
            have hRTs : RT = some lk := by
              have := HRk.out
              rw [List.drop_length, Mu.rulesT] at this
              exact this.symm
            have hpr := HPR.out
            rw [hRTs] at hpr
            have HPP := Lib.hid hpr
            have HS1 := Lib.hid (builderString 157 bt_page w1.heap.size lk hne wr HBk.out)
            have HNE := Lib.hid hne
            clear hRTs hpr HRk hne
            go_wp2_with fail
            refine HS1.out.mono ?_
            rintro e w2 ⟨rfl, hB2, hW2⟩
            have HB2 := Lib.hid hB2
            have HW2 := Lib.hid (HWk.out.trans hW2)
            have hbW2 : Below w.heap.size w w2 := HBW.out.trans (hW2.below.mono (by omega))
            have HBW2 := Lib.hid hbW2
            have HGG := Lib.hid (HG.out.keep hbW2 HG.out.2)
            clear hB2 hW2 hbW2
            go_wp2_with fail
            refine (syn_parse lk w2 HGG.out (by omega)).mono ?_
            rintro e w3 ⟨hb3, ⟨f, v, hp, rfl, p, hp1, rfl, hp2⟩ | ⟨gr, v, hp, h0, h64, rfl, hru⟩⟩
            · have hpf : Mu.print g = .error 20 := by rw [HPP.out]; simp [prRes, hp]
              have HPF := Lib.hid hpf
              have HB3 := Lib.hid (HBW2.out.trans (hb3.mono (by have := HBW2.out.size; omega)))
              have hs3 := HB3.out.size
              clear hpf hb3 hp hp2
              go_wp2_with fail
              refine bodyPost_ret (v := .tuple #[.string (ba []), errnoV 20]) (by simp [results, Tryz.results60, go_sem]) rfl ⟨HB3.out.alloc (by omega) _, .inl ⟨20, HPF.out, rfl⟩⟩
            · obtain ⟨av, cv, rfl⟩ : ∃ av cv, v = .slice av gr.length cv := by
                obtain ⟨vs, _, ho, _⟩ := hru
                rcases ho.2 with ⟨h1, h2⟩ | ⟨g2, cap2, cur2, h1, _⟩
                · exact ⟨none, 0, by rw [h1, h2]⟩
                · exact ⟨_, _, h1⟩
              have hpf : Mu.print g = .ok lk := by rw [HPP.out]; simp [prRes, hp]
              have HPF := Lib.hid hpf
              have HB3 := Lib.hid (HBW2.out.trans (hb3.mono (by have := HBW2.out.size; omega)))
              have hs3 := HB3.out.size
              have HS2 := Lib.hid (builderString 157 bt_page w1.heap.size lk HNE.out (w3.alloc (.cells #[.slice av gr.length cv] 24)) ((HB2.out.keep hb3).keep ((Below.refl _ _).alloc (Nat.le_refl _) _)))
              clear hpf hb3 hp hru
              go_wp2_with fail
              refine HS2.out.mono ?_
              rintro e w4 ⟨rfl, hB4, hW4⟩
              have hbW4 := (HB3.out.alloc (by omega) (.cells #[.slice av gr.length cv] 24)).trans (hW4.below.mono (by omega))
              have HBW4 := Lib.hid hbW4
              clear hB4 hW4 hbW4
              go_wp2_with fail
              refine bodyPost_ret (v := .tuple #[.string (ba lk), .nilIface]) (by simp [results, Tryz.results60, go_sem]) rfl ⟨HBW4.out, .inr ⟨lk, HPF.out, rfl⟩⟩
      · have hp := hbad (.inr (.inr hany))
        have HPR := Lib.hid hp
        have HANY := Lib.hid hany
        clear hp hbad hany
        go_enter Tryz.func60, Tryz.ntmps60
        go_wp2_with fail
        refine HC.out.mono ?_
        rintro e w1 ⟨rfl, hb1⟩
        rw [HANY.out]
        go_wp2_with fail
        refine bodyPost_ret (v := .tuple #[.string (ba []), errnoV 20]) (by simp [results, Tryz.results60, go_sem]) rfl ⟨Below.trans (by (repeat' (first | exact Below.refl _ _ | assumption | refine Below.drew ?_ | refine Below.drewN' ?_ _ | refine Below.setCell ?_ (by first | (simp; done) | omega | (simp; omega)) _ | refine Below.alloc ?_ (by first | (simp; done) | omega | (simp; omega)) _ | refine Below.step ?_ (by assumption) (by first | (simp; done) | omega | (simp; omega))))) (hb1.mono (by simp)), .inl ⟨20, HPR.out, rfl⟩⟩

end Go.Proofs.YtdmhjnnogcpccaaGreatDoor
end

section
namespace Go.Proofs.YtdmhjnnogcpccaaGreatDoor
open Go.RowKit
open Mu (Cl Bs Nd Ru Gr Tk)
set_option linter.unusedSimpArgs false
set_option linter.unusedVariables false

attribute [local irreducible] wpQuiet wpStill
attribute [local go_sem ↓] Go.wp_at_zero Go.wp_at_succ

def RightEnd (g : Gr) (w : World) (e : Ending) (w' : World) : Prop := Below w.heap.size w w' ∧
  ((∃ c, Mu.print g = .error c ∧ e = .returned (errnoV c)) ∨ (∃ s, Mu.print g = .ok s ∧ e = .returned .nilIface))

set_option maxHeartbeats 4000000 in
set_option maxRecDepth 20000 in
theorem prn_right (g : Gr) (F : Nat → Prop) (a : Option Addr) (b off cap : Nat) (S : Nat → Value) (w : World) (h : RRs w F a b off g S) (hF : ∀ k, F k → k < w.heap.size) (hG : ErrT w) (hsz : 3000 * szg g ≤ 140737488200000) :
    Calls Tryz.prog 48 #[.agg #[.slice a g.length cap]] w (RightEnd g w) := by
  have HC := Lib.hid (prn_print g F a b off cap S (w.alloc (.cells #[.slice a g.length cap] 24)) (h.keep fun k hk => Below.heap_alloc _ _ _ (hF k hk)) (fun k hk => by have := hF k hk; simp; omega) (hG.keep (by (repeat' (first | exact Below.refl _ _ | assumption | refine Below.drew ?_ | refine Below.drewN' ?_ _ | refine Below.setCell ?_ (by first | (simp; done) | omega | (simp; omega)) _ | refine Below.alloc ?_ (by first | (simp; done) | omega | (simp; omega)) _ | refine Below.step ?_ (by assumption) (by first | (simp; done) | omega | (simp; omega)))) : Below w.heap.size w _) hG.2) hsz)
  clear h hF hG hsz
  go_enter Tryz.func48, Tryz.ntmps48
  go_wp2_with fail
  refine HC.out.mono ?_
  rintro e w2 ⟨hb, ⟨c, hc, rfl⟩ | ⟨s, hs, rfl⟩⟩
  · have H := Lib.hid hc
    clear hc
    go_wp2_with fail
    refine bodyPost_ret (v := errnoV c) (by simp [results, Tryz.results48, go_sem]) rfl ⟨Below.trans (by (repeat' (first | exact Below.refl _ _ | assumption | refine Below.drew ?_ | refine Below.drewN' ?_ _ | refine Below.setCell ?_ (by first | (simp; done) | omega | (simp; omega)) _ | refine Below.alloc ?_ (by first | (simp; done) | omega | (simp; omega)) _ | refine Below.step ?_ (by assumption) (by first | (simp; done) | omega | (simp; omega))))) (hb.mono (by simp)), .inl ⟨c, H.out, rfl⟩⟩
  · have H := Lib.hid hs
    clear hs
    go_wp2_with fail
    refine bodyPost_ret (v := .nilIface) (by simp [results, Tryz.results48, go_sem]) rfl ⟨Below.trans (by (repeat' (first | exact Below.refl _ _ | assumption | refine Below.drew ?_ | refine Below.drewN' ?_ _ | refine Below.setCell ?_ (by first | (simp; done) | omega | (simp; omega)) _ | refine Below.alloc ?_ (by first | (simp; done) | omega | (simp; omega)) _ | refine Below.step ?_ (by assumption) (by first | (simp; done) | omega | (simp; omega))))) (hb.mono (by simp)), .inr ⟨s, H.out, rfl⟩⟩

end Go.Proofs.YtdmhjnnogcpccaaGreatDoor
end
