/- The small case of chapter 06. muntinlaw06.ScopeMore: the walk. -/
import Derived.Test.YtdmhjnnogcpccaaGreatDoorJSch
import Derived.Test.YtdmhjnnogcpccaaGreatDoorJEat
import Derived.Test.YtdmhjnnogcpccaaGreatDoorJMir
import Derived.Deep.AppendLies
import Derived.Deep.Upon
import Derived.Deep.Cut
import Derived.Deep.RegionHeld3
import Derived.Deep.RegionLaw
section
namespace Go.Proofs.YtdmhjnnogcpccaaGreatDoor
open Go.RowKit
open Mu (Cl Bs Nd Ru Gr Tk)
set_option linter.unusedSimpArgs false
set_option linter.unusedVariables false

attribute [local irreducible] wpQuiet wpStill
attribute [local go_sem ↓] Go.wp_at_zero Go.wp_at_succ

theorem cellsOf_getN (m : Nat) : ∀ (vs : List Value) (i j : Nat), (∀ k, k < vs.length → (vs.getD k .nilIface).cells.size = m) → i < vs.length → j < m → (cellsOf vs)[i * m + j]? = (vs.getD i .nilIface).cells[j]?
  | [], i, j, _, h, _ => by simp at h
  | v :: vs, i, j, hc, h, hj => by
    have h0 : v.cells.size = m := hc 0 (by simp)
    unfold cellsOf
    rw [List.flatMap_cons]
    cases i with
    | zero =>
      rw [List.getElem?_append_left (by simp [h0]; omega)]
      simp
    | succ i =>
      rw [List.getElem?_append_right (by simp [h0, Nat.succ_mul]; omega)]
      have := cellsOf_getN m vs i j (fun k hk => by have := hc (k + 1) (by simp; omega); simpa using this) (by simpa using h) hj
      unfold cellsOf at this
      have e : (i + 1) * m + j - v.cells.toList.length = i * m + j := by simp [h0, Nat.succ_mul]; omega
      rw [e, this]
      simp

theorem RuRow.rrs {B : Nat} {v : Value} {g : Gr} {w : World} (h : RuRow B v g w) (h0 : g ≠ []) (hl : g.length ≤ 64) : ∃ (a : Option Addr) (b off cap : Nat) (S : Nat → Value), v = .slice a g.length cap ∧ RRs w (fun k => B ≤ k ∧ k < w.heap.size) a b off g S := by
  obtain ⟨vs, h1, ⟨h2, h3⟩, h4⟩ := h
  have hne : 0 < g.length := List.length_pos_iff.2 h0
  rcases h3 with ⟨_, h3⟩ | ⟨gb, cap, cur, hv, hg, hh, hc1, hc2, hsz, htk⟩
  · omega
  · have hS : ∀ i, ∃ S, i < g.length → ∃ (hi : i < g.length), vs.getD i .nilIface = ruOf g[i] S ∧ g[i].name.length ≤ 255 ∧ RN w (fun k => B ≤ k ∧ k < w.heap.size ∧ some k ≠ v.ownBlock) (ndv g[i].body.kind g[i].body.text g[i].body.cls S g[i].body.place) g[i].body := fun i => by
      by_cases hi : i < g.length
      · obtain ⟨S, h⟩ := h4 i hi
        exact ⟨S, fun _ => ⟨hi, h⟩⟩
      · exact ⟨.nilIface, fun h => absurd h hi⟩
    obtain ⟨S, hS⟩ : ∃ S : Nat → Value, ∀ i, i < g.length → ∃ (hi : i < g.length), vs.getD i .nilIface = ruOf g[i] (S i) ∧ g[i].name.length ≤ 255 ∧ RN w (fun k => B ≤ k ∧ k < w.heap.size ∧ some k ≠ v.ownBlock) (ndv g[i].body.kind g[i].body.text g[i].body.cls (S i) g[i].body.place) g[i].body := ⟨fun i => (hS i).choose, fun i hi => (hS i).choose_spec hi⟩
    refine ⟨some ⟨gb, 0, none⟩, gb, 0, cap, S, hv, .inr rfl, fun _ => ⟨hg, lt_of_block hh⟩, by unfold maxRus; omega, fun i hi => ?_, fun i hi j hj => ?_, fun i hi => ?_⟩
    · obtain ⟨_, _, h, _⟩ := hS i hi
      omega
    · obtain ⟨_, he, _, _⟩ := hS i hi
      rw [cell_at hh]
      have hcs : ∀ k, k < vs.length → (vs.getD k .nilIface).cells.size = 10 := fun k hk => by
        obtain ⟨_, he, _⟩ := hS k (by omega)
        rw [he]
        rfl
      have := cellsOf_getN 10 vs i j hcs (by omega) hj
      rw [he] at this
      rw [← htk, List.getElem?_take_of_lt (by omega)] at this
      simpa using this
    · obtain ⟨_, _, _, h⟩ := hS i hi
      exact h.mono fun k hk => ⟨hk.1, hk.2.1⟩

set_option maxHeartbeats 8000000 in
set_option maxRecDepth 20000 in
theorem law06_small (w : World) (hG : ErrT w) :
    Calls Tryz.prog 18 #[] w fun e w' => e = .returned (.bool true) ∧ Below w.heap.size w w' := by
  have HG := Lib.hid hG
  have hP := syn_parse Mu.smallA w hG (by unfold Mu.smallA; simp)
  have HP := Lib.hid hP
  clear hG hP
  go_enter Tryz.func18, Tryz.ntmps18
  go_wp2_with fail
  refine HP.out.mono ?_
  rintro e w2 ⟨hb2, ⟨f, v, hp, _⟩ | ⟨gr, v, hp, h0, h64, rfl, hru⟩⟩
  · rw [Mu.smallA_parse] at hp
    cases hp
  · rw [Mu.smallA_parse] at hp
    obtain rfl : Mu.smallG = gr := by cases hp; rfl
    obtain ⟨a, b, off, cap, S, rfl, hrr⟩ := hru.rrs h0 h64
    have hb3 : Below w2.heap.size w2 (w2.alloc (.cells #[.slice a Mu.smallG.length cap] 24)) := by (repeat' (first | exact Below.refl _ _ | assumption | refine Below.drew ?_ | refine Below.drewN' ?_ _ | refine Below.setCell ?_ (by first | (simp; done) | omega | (simp; omega)) _ | refine Below.alloc ?_ (by first | (simp; done) | omega | (simp; omega)) _ | refine Below.step ?_ (by assumption) (by first | (simp; done) | omega | (simp; omega))))
    have HR := Lib.hid (scope_Reach Mu.smallG 0 _ a b off cap S (w2.alloc (.cells #[.slice a Mu.smallG.length cap] 24)) (hrr.keep (fun k hk => hb3.block k hk.2)) (fun k hk => by have := hk.2; simp; omega) (HG.out.keep (hb2.trans (hb3.mono hb2.size)) HG.out.2) (by simp [szg, Mu.smallG, Mu.sz, Mu.szs]))
    have HB3 := Lib.hid (hb2.trans (hb3.mono hb2.size))
    have hs2 := hb2.size
    clear hb2 hb3 hrr hru hp h0 h64 HP
    go_wp2_with fail
    refine HR.out.mono ?_
    rintro e w4 ⟨hb4, ⟨er, v, hck, _⟩ | ⟨hck, hlt, _⟩ | ⟨j, v, hck, hj0, hjl, rfl, hrow⟩⟩
    · rw [Mu.smallG_check] at hck
      cases hck
    · rcases hlt with h | h
      · omega
      · simp [Mu.smallG] at h
    · obtain rfl : j = 0 := by omega
      rw [Mu.smallG_reach] at hrow
      obtain ⟨ra, rb, roff, rcap, rfl, hra, hrF, _, hrc⟩ := hrow
      obtain rfl : ra = some ⟨rb, roff, none⟩ := by simpa using hra
      have hrb := hrF (by simp)
      have hs4 := hb4.size
      simp at hs4
      have hr2 : w4.cell? ⟨rb, roff + 2, none⟩ = some (.int .i64 2) := hrc 2 (by simp)
      have hb5 : Below w.heap.size w w4 := HB3.out.trans (hb4.mono (by simp; omega))
      have HQ := Lib.hid (syn_parse Mu.smallB w4 (HG.out.keep hb5 HG.out.2) (by unfold Mu.smallB; simp))
      have HR2 := Lib.hid hr2
      have HB5 := Lib.hid hb5
      have hrl := hrb.2
      clear hb4 hb5 hr2 hrc hrF hra hck hjl hj0 hrb
      go_wp2_with fail
      refine HQ.out.mono ?_
      rintro e w6 ⟨hb6, ⟨f, v, hp, _⟩ | ⟨gr, v, hp, h0, h64, rfl, hru⟩⟩
      · rw [Mu.smallB_parse] at hp
        cases hp
      · rw [Mu.smallB_parse] at hp
        obtain rfl : Mu.smallH = gr := by cases hp; rfl
        obtain ⟨a2, b2, off2, cap2, S2, rfl, hrr⟩ := hru.rrs h0 h64
        have hb7 : Below w6.heap.size w6 (w6.alloc (.cells #[.slice a2 Mu.smallH.length cap2] 24)) := by (repeat' (first | exact Below.refl _ _ | assumption | refine Below.drew ?_ | refine Below.drewN' ?_ _ | refine Below.setCell ?_ (by first | (simp; done) | omega | (simp; omega)) _ | refine Below.alloc ?_ (by first | (simp; done) | omega | (simp; omega)) _ | refine Below.step ?_ (by assumption) (by first | (simp; done) | omega | (simp; omega))))
        have hs6 := hb6.size
        have HB7 := Lib.hid (HB5.out.trans (Below.trans (hb6.mono (by omega)) (hb7.mono (by omega))))
        have HC := Lib.hid (scope_check Mu.smallH _ a2 b2 off2 cap2 S2 (w6.alloc (.cells #[.slice a2 Mu.smallH.length cap2] 24)) (hrr.keep (fun k hk => hb7.block k hk.2)) (fun k hk => by have := hk.2; simp; omega) (HG.out.keep HB7.out HG.out.2) (by simp [szg, Mu.smallH, Mu.sz, Mu.szs]))
        have hr7 : (w6.alloc (.cells #[.slice a2 Mu.smallH.length cap2] 24)).cell? ⟨rb, roff + 2, none⟩ = some (.int .i64 2) := by
          rw [hb7.cell (p := ⟨rb, roff + 2, none⟩) (by show rb < _; omega), hb6.cell (p := ⟨rb, roff + 2, none⟩) (by show rb < _; omega)]
          exact HR2.out
        have HR7 := Lib.hid hr7
        clear hb6 hb7 hrr hru hp h0 h64 HQ hr7
        go_wp2_with fail
        refine HC.out.mono ?_
        rintro e w8 ⟨hb8, v, rfl, hv⟩
        rw [Mu.smallH_check] at hv
        have hs8 := hb8.size
        simp at hs8
        have hr8 : w8.cell? ⟨rb, roff + 2, none⟩ = some (.int .i64 2) := by
          rw [hb8.cell (p := ⟨rb, roff + 2, none⟩) (by show rb < _; simp; omega)]
          exact HR7.out
        have HB8 := Lib.hid (HB7.out.trans (hb8.mono (by simp; omega)))
        have HV := Lib.hid hv
        have HGG := Lib.hid (HG.out.keep HB8.out HG.out.2)
        obtain ⟨p, _, hvp, _⟩ := hv
        subst hvp
        have HCO := Lib.hid (api_code _ _ _ w8 HV.out HGG.out)
        clear hb8
        go_wp2_with fail
        refine HCO.out.mono ?_
        rintro e w9 ⟨rfl, hb9⟩
        have hs9 := hb9.size
        have HB9 := Lib.hid (HB8.out.trans (hb9.mono (by omega)))
        have HAT := Lib.hid (api_at _ _ _ w9 (HV.out.keep hb9) (HG.out.keep HB9.out HG.out.2))
        simp only [codeOf]
        clear hb9
        go_wp2_with fail
        refine HAT.out.mono ?_
        rintro e w10 ⟨rfl, hb10⟩
        have HB10 := Lib.hid (HB9.out.trans (hb10.mono (by omega)))
        simp only [placeAt]
        clear hb10
        go_wp2_with fail
        go_ret
        exact ⟨rfl, HB10.out⟩

end Go.Proofs.YtdmhjnnogcpccaaGreatDoor
end

section
namespace Go.Proofs.YtdmhjnnogcpccaaGreatDoor
open Go.RowKit
open Mu (Cl Bs Nd Ru Gr Tk)
set_option linter.unusedSimpArgs false
set_option linter.unusedVariables false

attribute [local irreducible] wpQuiet wpStill
attribute [local go_sem ↓] Go.wp_at_zero Go.wp_at_succ

theorem step_append_none {P : Program} {w : World} {ops : Array Oper} {o : Oper} {a : Act} {K : Act → World → Prop} {Q : Exit → Act → World → Prop} {E : Prop} (hgd : o.guard = none) (s x : Operand) (t : TypeId)
    (ho : o.op = .call { callee := .builtin .append, args := #[s, x], argTypes := #[t, t] }) (v y : Value) (hs : a.eval s = v) (hx : a.eval x = y) (hrun : (Builtin.append_ #[t, t] o.type #[v, y]).run P w = .ok v w) (h : K (a.put o.dst v) w) :
    if Region.wanted o (yielded ops a.tmps) = true then Oper.wp P o a w K Q else E := by
  have hw : Region.wanted o (yielded ops a.tmps) = true := by simp [Region.wanted, hgd]
  rw [if_pos hw]
  unfold Oper.wp execOp
  simp only [ho, resolve, invoke, builtin, Sem.run_bind, Sem.run_pure, Result.andThen_ok, List.map_toArray, List.map_cons, List.map_nil, hs, hx, hrun]
  exact h

/-- a row of rules in a block of the call's own -/
theorem rrs_own {w : World} {B : Nat} {v : Value} {g : Gr} {vs : List Value} {F : Nat → Prop} {S : Nat → Value} (hvl : vs.length = g.length) (hown : w.ownsRow B 60 10 v g.length (cellsOf vs))
    (hS : ∀ i (h : i < g.length), vs.getD i .nilIface = ruOf g[i] (S i) ∧ g[i].name.length ≤ 140737488351232 ∧ RN w F (ndv g[i].body.kind g[i].body.text g[i].body.cls (S i) g[i].body.place) g[i].body) (hF : ∀ k, B ≤ k → k < w.heap.size → F k) (h0 : 0 < g.length) (hl : g.length ≤ maxRus) :
    ∃ (a : Option Addr) (b off cap : Nat), v = .slice a g.length cap ∧ RRs w F a b off g S := by
  obtain ⟨h2, ⟨_, h3⟩ | ⟨gb, cap, cur, hv, hg, hh, hc1, hc2, hsz, htk⟩⟩ := hown
  · omega
  · refine ⟨some ⟨gb, 0, none⟩, gb, 0, cap, hv, .inr rfl, fun _ => hF _ hg (lt_of_block hh), hl, fun i hi => (hS i hi).2.1, fun i hi j hj => ?_, fun i hi => (hS i hi).2.2⟩
    rw [cell_at hh]
    have hcs : ∀ k, k < vs.length → (vs.getD k .nilIface).cells.size = 10 := fun k hk => by
      rw [(hS k (by omega)).1]
      rfl
    have := cellsOf_getN 10 vs i j hcs (by omega) hj
    rw [(hS i hi).1] at this
    rw [← htk, List.getElem?_take_of_lt (by omega)] at this
    simpa using this

def ruVals (g : Gr) (S : Nat → Value) : List Value := (List.range g.length).map fun i => ruOf (g.getD i default) (S i)

theorem ruVals_length (g : Gr) (S : Nat → Value) : (ruVals g S).length = g.length := by simp [ruVals]
theorem ruVals_get (g : Gr) (S : Nat → Value) (i : Nat) (h : i < g.length) : (ruVals g S).getD i .nilIface = ruOf g[i] (S i) := by
  unfold ruVals
  rw [List.getD_eq_getElem?_getD, List.getElem?_map, List.getElem?_range h]
  simp [List.getD_eq_getElem?_getD, List.getElem?_eq_getElem h]
theorem ruVals_cells (g : Gr) (S : Nat → Value) : (cellsOf (ruVals g S)).length = g.length * 10 := by
  unfold cellsOf ruVals
  rw [List.flatMap_map, List.length_flatMap]
  have : ∀ l : List Nat, (l.map fun i => (ruOf (g.getD i default) (S i)).cells.toList.length).sum = l.length * 10 := fun l => by
    induction l with
    | nil => rfl
    | cons x l ih => simp only [List.map_cons, List.sum_cons, ih, List.length_cons]; show 10 + _ = _; omega
  simpa using this (List.range g.length)

theorem RRs.news {w : World} {F : Nat → Prop} {a : Option Addr} {b off : Nat} {g : Gr} {S : Nat → Value} (h : RRs w F a b off g S) : ∀ j u, (cellsOf (ruVals g S))[j]? = some u → w.cell? ((⟨b, off, none⟩ : Addr).add j) = some u := by
  intro j u hu
  have hj : j < g.length * 10 := by
    rw [← ruVals_cells g S]
    exact (List.getElem?_eq_some_iff.1 hu).1
  have hadd : (⟨b, off, none⟩ : Addr).add j = ⟨b, off + j, none⟩ := by unfold Addr.add; split <;> simp_all
  have hi : j / 10 < g.length := by omega
  have hcs : ∀ k, k < (ruVals g S).length → ((ruVals g S).getD k .nilIface).cells.size = 10 := fun k hk => by
    rw [ruVals_get g S k (by rw [ruVals_length] at hk; exact hk)]
    rfl
  have h1 := cellsOf_getN 10 (ruVals g S) (j / 10) (j % 10) hcs (by rw [ruVals_length]; exact hi) (by omega)
  rw [show j / 10 * 10 + j % 10 = j by omega, hu, ruVals_get g S _ hi] at h1
  rw [hadd, show off + j = off + j / 10 * 10 + j % 10 by omega, h.hcell (j / 10) hi (j % 10) (by omega)]
  exact h1.symm

theorem RRs.one_cell {w : World} {F : Nat → Prop} {a : Option Addr} {b off : Nat} {g : Gr} {S : Nat → Value} (h : RRs w F a b off g S) : ∀ u ∈ cellsOf (ruVals g S), u.oneCell' = true := by
  intro u hu
  unfold cellsOf ruVals at hu
  obtain ⟨x, hx, hu⟩ := List.mem_flatMap.1 hu
  obtain ⟨i, hi, rfl⟩ := List.mem_map.1 hx
  have hi : i < g.length := by simpa using hi
  obtain ⟨a', cap', _, _, hs, _⟩ := h.one i hi
  rw [hs] at hu
  simp [Value.cells] at hu
  rcases hu with rfl | rfl | rfl | rfl | rfl | rfl | rfl | rfl | rfl | rfl <;> rfl

/-- where one more rule stands behind the others: block k holds the new grammar -/
def MoreAt (g : Gr) (n : Nd) (F : Nat → Prop) (w w3 wx : World) (k : Nat) : Prop := Below w.heap.size w wx ∧ Below w3.heap.size w3 wx ∧ k < wx.heap.size ∧ ∃ (a : Option Addr) (b off cap : Nat) (S : Nat → Value),
  wx.heap[k]? = some (.cells #[.slice a (g.length + 1) cap] 24) ∧ RRs wx (fun q => F q ∨ (w.heap.size ≤ q ∧ q < wx.heap.size)) a b off (g ++ [⟨[115, 99, 111, 112, 101, 109, 111, 114, 101], n, 0⟩]) S

/-- what Reach answers, in short -/
def Rch2 (g : Gr) (i : Int) (B : Nat) (w : World) (xa : Option Addr) (xl xc : Nat) (y : Value) : Prop :=
  (∃ j : Nat, Mu.check g = none ∧ i = j ∧ j < g.length ∧ y = .nilIface ∧ IRow w (fun k => B ≤ k ∧ k < w.heap.size) (.slice xa xl xc) (Mu.reach (Mu.usesAll g) j)) ∨ ∃ T V, y = .iface T V

theorem ReachEnd.two {g : Gr} {i : Int} {w w' : World} {e : Ending} (h : ReachEnd g i w e w') : Below w.heap.size w w' ∧ ∃ xa xl xc y, e = .returned (.tuple #[.slice xa xl xc, y]) ∧ Rch2 g i w.heap.size w' xa xl xc y := by
  obtain ⟨hb, ⟨er, v, _, rfl, hv⟩ | ⟨_, _, rfl⟩ | ⟨j, v, h1, h2, h3, rfl, hr⟩⟩ := h
  · refine ⟨hb, _, _, _, _, rfl, .inr ?_⟩
    match er, hv with
    | .no c, hv => exact ⟨_, _, hv⟩
    | .at f, hv =>
      obtain ⟨p, _, h, _⟩ := hv
      exact ⟨_, _, h⟩
  · exact ⟨hb, _, _, _, _, rfl, .inr ⟨_, _, rfl⟩⟩
  · have hr2 := hr
    obtain ⟨a, b, off, cap, rfl, _⟩ := hr
    exact ⟨hb, _, _, _, _, rfl, .inl ⟨j, h1, h2, h3, rfl, hr2⟩⟩

theorem szg_snoc (r : Ru) : ∀ g : Gr, szg (g ++ [r]) = szg g + Mu.sz r.body + 1
  | [] => by simp [szg]
  | q :: g => by simp [szg, szg_snoc r g]; omega

theorem more_at {g : Gr} {n : Nd} {F : Nat → Prop} {a : Option Addr} {b off : Nat} {S : Nat → Value} {w w3 wA w6 : World} {k g2 cap2 : Nat} {na : Option Addr} {ncap : Nat} (h : RRs w F a b off g S) (hn : RN w F (ndv n.kind n.text n.cls (.slice na n.subs.length ncap) n.place) n) (hF : ∀ q, F q → q < w.heap.size) (hl : g.length ≤ 1048576)
    (hbA : Below w.heap.size w wA) (hb3A : Below w3.heap.size w3 wA) (hk3 : w3.heap.size ≤ k) (hb6 : Below wA.heap.size wA w6) (hqA : wA.heap[k]? = some (.cells #[.slice none 0 0] 24)) (hk : w.heap.size ≤ k)
    (hown : w6.ownsRow wA.heap.size 60 10 (.slice (some ⟨g2, 0, none⟩) (g.length + 1) cap2) (g.length + 1) (cellsOf (ruVals g S) ++ [.string ⟨#[115, 99, 111, 112, 101, 109, 111, 114, 101]⟩, .int .i64 n.kind, .string (ba n.text), .int .u64 (n.cls.a.toNat : Int), .int .u64 (n.cls.b.toNat : Int), .int .u64 (n.cls.c.toNat : Int), .int .u64 (n.cls.d.toNat : Int), .slice na n.subs.length ncap, .int .i64 n.place, .int .i64 0])) :
    MoreAt g n F w w3 (w6.setCell ⟨k, 0, none⟩ (.slice (some ⟨g2, 0, none⟩) (g.length + 1) cap2)) k := by
  have hkA := lt_of_some hqA
  have hs6 := hb6.size
  have hb06 : Below w.heap.size w w6 := hbA.trans (hb6.mono hbA.size)
  have hbx : Below w.heap.size w (w6.setCell ⟨k, 0, none⟩ (.slice (some ⟨g2, 0, none⟩) (g.length + 1) cap2)) := hb06.setCell (p := ⟨k, 0, none⟩) hk _
  have hq6 := (hb6.block k hkA).trans hqA
  refine ⟨hbx, (hb3A.trans (hb6.mono hb3A.size)).setCell (p := ⟨k, 0, none⟩) hk3 _, by simp; omega, ?_⟩
  have hg2 : (g ++ [(⟨[115, 99, 111, 112, 101, 109, 111, 114, 101], n, 0⟩ : Ru)]).length = g.length + 1 := by simp
  have hnew : (cellsOf (ruVals g S) ++ [.string ⟨#[115, 99, 111, 112, 101, 109, 111, 114, 101]⟩, .int .i64 n.kind, .string (ba n.text), .int .u64 (n.cls.a.toNat : Int), .int .u64 (n.cls.b.toNat : Int), .int .u64 (n.cls.c.toNat : Int), .int .u64 (n.cls.d.toNat : Int), .slice na n.subs.length ncap, .int .i64 n.place, .int .i64 0]) = cellsOf (ruVals g S ++ [ruOf ⟨[115, 99, 111, 112, 101, 109, 111, 114, 101], n, 0⟩ (.slice na n.subs.length ncap)]) := by
    unfold cellsOf
    rw [List.flatMap_append]
    rfl
  have hown2 : (w6.setCell ⟨k, 0, none⟩ (.slice (some ⟨g2, 0, none⟩) (g.length + 1) cap2)).ownsRow wA.heap.size 60 10 (.slice (some ⟨g2, 0, none⟩) (g.length + 1) cap2) (g ++ [(⟨[115, 99, 111, 112, 101, 109, 111, 114, 101], n, 0⟩ : Ru)]).length (cellsOf (ruVals g S ++ [ruOf ⟨[115, 99, 111, 112, 101, 109, 111, 114, 101], n, 0⟩ (.slice na n.subs.length ncap)])) := by
    rw [hg2, ← hnew]
    obtain ⟨h1, ⟨h2, h3⟩ | ⟨gg, cap, cur, hv, hg, hh, r⟩⟩ := hown
    · omega
    · exact ⟨h1, .inr ⟨gg, cap, cur, hv, hg, by rw [Below.heap_setCell w6 ⟨k, 0, none⟩ _ gg (by show gg ≠ k; omega)]; exact hh, r⟩⟩
  have hkeep : Keeps F w (w6.setCell ⟨k, 0, none⟩ (.slice (some ⟨g2, 0, none⟩) (g.length + 1) cap2)) := Keeps.of_below hbx hF
  have hSS : ∀ i (hi : i < (g ++ [(⟨[115, 99, 111, 112, 101, 109, 111, 114, 101], n, 0⟩ : Ru)]).length), (ruVals g S ++ [ruOf ⟨[115, 99, 111, 112, 101, 109, 111, 114, 101], n, 0⟩ (.slice na n.subs.length ncap)]).getD i .nilIface = ruOf (g ++ [(⟨[115, 99, 111, 112, 101, 109, 111, 114, 101], n, 0⟩ : Ru)])[i] (if i < g.length then S i else .slice na n.subs.length ncap) ∧ (g ++ [(⟨[115, 99, 111, 112, 101, 109, 111, 114, 101], n, 0⟩ : Ru)])[i].name.length ≤ 140737488351232 ∧
      RN (w6.setCell ⟨k, 0, none⟩ (.slice (some ⟨g2, 0, none⟩) (g.length + 1) cap2)) (fun q => F q ∨ (w.heap.size ≤ q ∧ q < (w6.setCell ⟨k, 0, none⟩ (.slice (some ⟨g2, 0, none⟩) (g.length + 1) cap2)).heap.size)) (ndv (g ++ [(⟨[115, 99, 111, 112, 101, 109, 111, 114, 101], n, 0⟩ : Ru)])[i].body.kind (g ++ [(⟨[115, 99, 111, 112, 101, 109, 111, 114, 101], n, 0⟩ : Ru)])[i].body.text (g ++ [(⟨[115, 99, 111, 112, 101, 109, 111, 114, 101], n, 0⟩ : Ru)])[i].body.cls (if i < g.length then S i else .slice na n.subs.length ncap) (g ++ [(⟨[115, 99, 111, 112, 101, 109, 111, 114, 101], n, 0⟩ : Ru)])[i].body.place) (g ++ [(⟨[115, 99, 111, 112, 101, 109, 111, 114, 101], n, 0⟩ : Ru)])[i].body := by
    intro i hi
    by_cases hig : i < g.length
    · have e1 : (ruVals g S ++ [ruOf ⟨[115, 99, 111, 112, 101, 109, 111, 114, 101], n, 0⟩ (.slice na n.subs.length ncap)]).getD i .nilIface = ruOf g[i] (S i) := by
        rw [List.getD_eq_getElem?_getD, List.getElem?_append_left (by rw [ruVals_length]; exact hig), ← List.getD_eq_getElem?_getD]
        exact ruVals_get g S i hig
      have e2 : (g ++ [(⟨[115, 99, 111, 112, 101, 109, 111, 114, 101], n, 0⟩ : Ru)])[i] = g[i] := List.getElem_append_left hig
      simp only [if_pos hig, e1, e2]
      exact ⟨trivial, h.hnm i hig, ((h.hS i hig).keep hkeep).mono fun q hq => .inl hq⟩
    · have hi2 : i = g.length := by omega
      subst hi2
      have e1 : (ruVals g S ++ [ruOf ⟨[115, 99, 111, 112, 101, 109, 111, 114, 101], n, 0⟩ (.slice na n.subs.length ncap)]).getD g.length .nilIface = ruOf ⟨[115, 99, 111, 112, 101, 109, 111, 114, 101], n, 0⟩ (.slice na n.subs.length ncap) := by
        rw [List.getD_eq_getElem?_getD, List.getElem?_append_right (by rw [ruVals_length]; exact Nat.le_refl _), ruVals_length]
        simp
      have e2 : (g ++ [(⟨[115, 99, 111, 112, 101, 109, 111, 114, 101], n, 0⟩ : Ru)])[g.length] = ⟨[115, 99, 111, 112, 101, 109, 111, 114, 101], n, 0⟩ := by simp
      simp only [if_neg hig, e1, e2]
      exact ⟨trivial, by simp, (hn.keep hkeep).mono fun q hq => .inl hq⟩
  obtain ⟨a', b', off', cap', hv', hr'⟩ := rrs_own (g := g ++ [(⟨[115, 99, 111, 112, 101, 109, 111, 114, 101], n, 0⟩ : Ru)]) (F := fun q => F q ∨ (w.heap.size ≤ q ∧ q < (w6.setCell ⟨k, 0, none⟩ (.slice (some ⟨g2, 0, none⟩) (g.length + 1) cap2)).heap.size)) (S := fun i => if i < g.length then S i else .slice na n.subs.length ncap) (by rw [List.length_append, ruVals_length]; simp) hown2 hSS (fun q h1 h2 => .inr ⟨by have := hbA.size; omega, h2⟩) (by omega) (by unfold maxRus; omega)
  refine ⟨a', b', off', cap', _, ?_, hr'⟩
  rw [block_set hq6, hv', hg2]
  rfl

set_option maxHeartbeats 8000000 in
set_option maxRecDepth 20000 in
theorem law06_more (g : Gr) (n : Nd) (i : Int) (F : Nat → Prop) (a : Option Addr) (b off cap : Nat) (S : Nat → Value) (v : Value) (w : World) (h : RRs w F a b off g S) (hn : RN w F v n) (hF : ∀ k, F k → k < w.heap.size) (hG : ErrT w) (hl : g.length ≤ 1048576) (hsz : 3000 * (szg g + Mu.sz n + 1) ≤ 140737488200000) :
    Calls Tryz.prog 5 #[.agg #[.slice a g.length cap], v, .int .i64 i] w fun e w' => e = .returned (.bool true) ∧ Below w.heap.size w w' := by
  obtain ⟨na, nb, noff, ncap, C, hv, hns, htl⟩ := hn.open
  subst hv
  have hb2 : Below w.heap.size w ((w.alloc (.cells #[.slice a g.length cap] 24)).alloc (.cells (ndv n.kind n.text n.cls (.slice na n.subs.length ncap) n.place).cells 30)) := by (repeat' (first | exact Below.refl _ _ | assumption | refine Below.drew ?_ | refine Below.drewN' ?_ _ | refine Below.setCell ?_ (by first | (simp; done) | omega | (simp; omega)) _ | refine Below.alloc ?_ (by first | (simp; done) | omega | (simp; omega)) _ | refine Below.step ?_ (by assumption) (by first | (simp; done) | omega | (simp; omega))))
  have HSM := Lib.hid (law06_small _ (hG.keep hb2 hG.2))
  have H := Lib.hid h
  have HN := Lib.hid hn
  have HF := Lib.hid hF
  have HG := Lib.hid hG
  have HB2 := Lib.hid hb2
  clear h hn hF hG hns htl hb2
  go_enter Tryz.func5, Tryz.ntmps5
  go_wp2_with fail
  refine HSM.out.mono ?_
  rintro e w2 ⟨rfl, hb2⟩
  have hs2 := hb2.size
  simp at hs2
  have HB := Lib.hid (HB2.out.trans (hb2.mono (by simp; omega)))
  have g0 : w2.cell? ⟨w.heap.size, 0, none⟩ = some (.slice a g.length cap) := by
    rw [hb2.cell (p := ⟨w.heap.size, 0, none⟩) (by show w.heap.size < _; simp; omega)]
    simp
  have hq1 := (hb2.block (w.heap.size + 1) (by simp)).trans (last2 _ _ _)
  have HQ1 := Lib.hid hq1
  have HR := Lib.hid (scope_Reach g i F a b off cap S w2 (H.out.keep (Keeps.of_below HB.out HF.out)) (fun k hk => by have := HF.out k hk; omega) (HG.out.keep HB.out HG.out.2) (by omega))
  clear hb2 hq1 HSM
  go_wp2_with fail
  refine HR.out.mono ?_
  intro e w3 hre
  obtain ⟨hb3, xa, xl, xc, y, rfl, hx⟩ := hre.two
  have hs3 := hb3.size
  have HB3 := Lib.hid (HB.out.trans (hb3.mono (by omega)))
  have HX := Lib.hid hx
  have g3 : w3.cell? ⟨w.heap.size, 0, none⟩ = some (.slice a g.length cap) := by
    rw [hb3.cell (p := ⟨w.heap.size, 0, none⟩) (by show w.heap.size < _; omega)]
    exact g0
  have hq3 := (hb3.block (w.heap.size + 1) (by omega)).trans HQ1.out
  have HQ3 := Lib.hid hq3
  have n0 : w3.cell? ⟨w.heap.size + 1, 0, none⟩ = some (.int .i64 n.kind) := cell_at hq3 0
  have n1 : w3.cell? ⟨w.heap.size + 1, 1, none⟩ = some (.string (ba n.text)) := cell_at hq3 1
  have n2 : w3.cell? ⟨w.heap.size + 1, 2, none⟩ = some (.int .u64 (n.cls.a.toNat : Int)) := cell_at hq3 2
  have n3 : w3.cell? ⟨w.heap.size + 1, 3, none⟩ = some (.int .u64 (n.cls.b.toNat : Int)) := cell_at hq3 3
  have n4 : w3.cell? ⟨w.heap.size + 1, 4, none⟩ = some (.int .u64 (n.cls.c.toNat : Int)) := cell_at hq3 4
  have n5 : w3.cell? ⟨w.heap.size + 1, 5, none⟩ = some (.int .u64 (n.cls.d.toNat : Int)) := cell_at hq3 5
  have n6 : w3.cell? ⟨w.heap.size + 1, 6, none⟩ = some (.slice na n.subs.length ncap) := cell_at hq3 6
  have n7 : w3.cell? ⟨w.heap.size + 1, 7, none⟩ = some (.int .i64 n.place) := cell_at hq3 7
  have hw3 : w.heap.size + 1 < w3.heap.size := by omega
  have hw3' : w.heap.size < w3.heap.size := by omega
  clear hb3 hx g0 hq3 HR hre
  go_upto_region 4 with (fail)
  go_cut [] (fun wx => MoreAt g n F w w3 wx w3.heap.size)
  case first =>
    have hwA : ∃ wA, wA = w3.alloc (.cells #[.slice none 0 0] 24) := ⟨_, rfl⟩
    obtain ⟨wA, hwA⟩ := hwA
    have hbA : Below w3.heap.size w3 wA := by rw [hwA]; exact (Below.refl _ _).alloc (Nat.le_refl _) _
    have hsA : wA.heap.size = w3.heap.size + 1 := by rw [hwA]; simp
    have hqA : wA.heap[w3.heap.size]? = some (.cells #[.slice none 0 0] 24) := by rw [hwA]; exact last_block _ _
    have hq4 := (hbA.block (w.heap.size + 1) hw3).trans HQ3.out
    have kA0 : wA.cell? ⟨w3.heap.size, 0, none⟩ = some (.slice none 0 0) := cell_at hqA 0
    have kAf : wA.frozen? ⟨w3.heap.size, 0, none⟩ = false := unfrozen_at hqA 0
    have g4 : wA.cell? ⟨w.heap.size, 0, none⟩ = some (.slice a g.length cap) := (hbA.cell (p := ⟨w.heap.size, 0, none⟩) hw3').trans g3
    have p0 : wA.cell? ⟨w.heap.size + 1, 0, none⟩ = some (.int .i64 n.kind) := cell_at hq4 0
    have p1 : wA.cell? ⟨w.heap.size + 1, 1, none⟩ = some (.string (ba n.text)) := cell_at hq4 1
    have p2 : wA.cell? ⟨w.heap.size + 1, 2, none⟩ = some (.int .u64 (n.cls.a.toNat : Int)) := cell_at hq4 2
    have p3 : wA.cell? ⟨w.heap.size + 1, 3, none⟩ = some (.int .u64 (n.cls.b.toNat : Int)) := cell_at hq4 3
    have p4 : wA.cell? ⟨w.heap.size + 1, 4, none⟩ = some (.int .u64 (n.cls.c.toNat : Int)) := cell_at hq4 4
    have p5 : wA.cell? ⟨w.heap.size + 1, 5, none⟩ = some (.int .u64 (n.cls.d.toNat : Int)) := cell_at hq4 5
    have p6 : wA.cell? ⟨w.heap.size + 1, 6, none⟩ = some (.slice na n.subs.length ncap) := cell_at hq4 6
    have p7 : wA.cell? ⟨w.heap.size + 1, 7, none⟩ = some (.int .i64 n.place) := cell_at hq4 7
    have hA1 : w.heap.size + 1 < wA.heap.size := by omega
    have hA0 : w.heap.size < wA.heap.size := by omega
    have hA3 : w3.heap.size < wA.heap.size := by omega
    have hTG0 : w.heap.size ≠ w3.heap.size := by omega
    have hTG1 : w.heap.size + 1 ≠ w3.heap.size := by omega
    have tok1 : True := trivial
    have HBA := Lib.hid (HB3.out.trans (hbA.mono (by omega)))
    have HQA := Lib.hid hqA
    have HB3A := Lib.hid hbA
    have HSA := Lib.hid hsA
    rw [← hwA]
    clear hwA hbA hsA hqA hq4 g3 n0 n1 n2 n3 n4 n5 n6 n7
    obtain ⟨i0, hti, hz0, hz1, hz2⟩ := info_parts Tryz.infoRule
    by_cases hg0 : 0 < g.length
    · obtain rfl : a = some ⟨b, off, none⟩ := by
        rcases H.out.ha with h | h
        · omega
        · exact h
      go_region_law
        (first
          | (refine step_append_lies _ (by rfl) _ _ 22 (by rfl) wA.heap.size 60 i0 _ 10 112 Tryz.underlying22 hti hz0 hz1 hz2 (by rfl) (by decide) (.slice (some ⟨g1, 0, none⟩) g.length cap1) g.length (cellsOf (ruVals g S)) (by rfl) (HOWN5.out.alloc _) ⟨w5.heap.size, 0, none⟩ 1 1 [.string ⟨#[115, 99, 111, 112, 101, 109, 111, 114, 101]⟩, .int .i64 n.kind, .string (ba n.text), .int .u64 (n.cls.a.toNat : Int), .int .u64 (n.cls.b.toNat : Int), .int .u64 (n.cls.c.toNat : Int), .int .u64 (n.cls.d.toNat : Int), .slice na n.subs.length ncap, .int .i64 n.place, .int .i64 0] (by rfl) (by rfl) (World.news_of_block (new_at _ _ _ (by simp))) (by simp [Value.oneCell']) (by decide) (by unfold maxLen; omega) (by omega) (by first | (simp; done) | (simp; omega) | omega) _ rfl ?_; intro g2 cap2 w6 hown6 hgrow6 hat6 hlt6; have hb6 := Below.grown (HB5.out.alloc hs5 _) hgrow6 (by first | (simp; done) | (simp; omega) | omega) (fun j hj => (by have e : g1 = j := (by simpa [Value.ownBlock] using hj); omega)); obtain ⟨hc6, hf6⟩ := bcell hb6; have q3 := (hc6 _ 0 hA3).trans kA0; have qf := (hf6 _ 0 hA3).trans kAf; have q4 := (hc6 _ 0 hA0).trans g4; have r0 := (hc6 _ 0 hA1).trans p0; have r1 := (hc6 _ 1 hA1).trans p1; have r2 := (hc6 _ 2 hA1).trans p2; have r3 := (hc6 _ 3 hA1).trans p3; have r4 := (hc6 _ 4 hA1).trans p4; have r5 := (hc6 _ 5 hA1).trans p5; have r6 := (hc6 _ 6 hA1).trans p6; have r7 := (hc6 _ 7 hA1).trans p7; have hs6 := hb6.size; have HOWN6 := Lib.hid hown6; have HB6 := Lib.hid hb6; clear hown6 hgrow6 hat6 hc6 hf6 hb6)
          | (have _t := tok1; clear _t; refine step_append_lies _ (by rfl) _ _ 22 (by rfl) wA.heap.size 60 i0 _ 10 112 Tryz.underlying22 hti hz0 hz1 hz2 (by rfl) (by decide) (.slice none 0 0) 0 [] (by rfl) (World.ownsRow_nil _ _ _ _) ⟨b, off, none⟩ g.length cap (cellsOf (ruVals g S)) (by rfl) (ruVals_cells g S) (RRs.news (H.out.keep (Keeps.of_below (by exact Below.trans HBA.out (by (repeat' (first | exact Below.refl _ _ | assumption | refine Below.drew ?_ | refine Below.drewN' ?_ _ | refine Below.setCell ?_ (by first | (simp; done) | omega | (simp; omega)) _ | refine Below.alloc ?_ (by first | (simp; done) | omega | (simp; omega)) _ | refine Below.step ?_ (by assumption) (by first | (simp; done) | omega | (simp; omega)))))) HF.out))) H.out.one_cell hg0 (by unfold maxLen; omega) (by omega) (by first | (simp; done) | (simp; omega)) _ rfl ?_; intro g1 cap1 w5 hown5 hgrow5 hat5 hlt5; have hb5 := Below.grown (show Below wA.heap.size wA _ by (repeat' (first | exact Below.refl _ _ | assumption | refine Below.drew ?_ | refine Below.drewN' ?_ _ | refine Below.setCell ?_ (by first | (simp; done) | omega | (simp; omega)) _ | refine Below.alloc ?_ (by first | (simp; done) | omega | (simp; omega)) _ | refine Below.step ?_ (by assumption) (by first | (simp; done) | omega | (simp; omega))))) hgrow5 (by first | (simp; done) | (simp; omega)) (fun j hj => by simp [Value.ownBlock] at hj); obtain ⟨hc5, hf5⟩ := bcell hb5; have q3 := (hc5 _ 0 hA3).trans kA0; have q4 := (hc5 _ 0 hA0).trans g4; have r0 := (hc5 _ 0 hA1).trans p0; have r1 := (hc5 _ 1 hA1).trans p1; have r2 := (hc5 _ 2 hA1).trans p2; have r3 := (hc5 _ 3 hA1).trans p3; have r4 := (hc5 _ 4 hA1).trans p4; have r5 := (hc5 _ 5 hA1).trans p5; have r6 := (hc5 _ 6 hA1).trans p6; have r7 := (hc5 _ 7 hA1).trans p7; have hs5 := hb5.size; have hg1 : wA.heap.size ≤ g1 := (hat5.elim (fun h => (by simp [Value.ownBlock] at h)) (fun h => (by rw [h]; first | (simp; done) | (simp; omega)))); have HOWN5u := Lib.hid hown5; simp only [Nat.zero_add, List.nil_append] at hown5; have HOWN5 := Lib.hid hown5; have HGR5 := Lib.hid hgrow5; have HAT5 := Lib.hid hat5; have HB5 := Lib.hid hb5; clear hown5 hgrow5 hat5 hc5 hf5 hb5 tok1)
          | (refine step_append_lies _ (by rfl) _ _ 22 (by rfl) wA.heap.size 60 i0 _ 10 112 Tryz.underlying22 hti hz0 hz1 hz2 (by rfl) (by decide) (.slice (some ⟨g1, 0, none⟩) g.length cap1) g.length (cellsOf (ruVals g S)) (by rfl) (HOWN5.out) ⟨wA.heap.size, 0, none⟩ 1 1 [.string ⟨#[115, 99, 111, 112, 101, 109, 111, 114, 101]⟩, .int .i64 n.kind, .string (ba n.text), .int .u64 (n.cls.a.toNat : Int), .int .u64 (n.cls.b.toNat : Int), .int .u64 (n.cls.c.toNat : Int), .int .u64 (n.cls.d.toNat : Int), .slice na n.subs.length ncap, .int .i64 n.place, .int .i64 0] (by rfl) (by rfl) (World.news_of_block ((HGR5.out.block _ (by simp) (by simp [Value.ownBlock])).trans (new_at _ _ _ (by simp)))) (by simp [Value.oneCell']) (by decide) (by unfold maxLen; omega) (by omega) (by first | (simp; done) | (simp; omega) | omega) _ rfl ?_; intro g2 cap2 w6 hown6 hgrow6 hat6 hlt6; have hb6 := Below.grown (HB5.out) hgrow6 (by first | (simp; done) | (simp; omega) | omega) (fun j hj => (by have e : g1 = j := (by simpa [Value.ownBlock] using hj); omega)); obtain ⟨hc6, hf6⟩ := bcell hb6; have q3 := (hc6 _ 0 hA3).trans kA0; have qf := (hf6 _ 0 hA3).trans kAf; have q4 := (hc6 _ 0 hA0).trans g4; have r0 := (hc6 _ 0 hA1).trans p0; have r1 := (hc6 _ 1 hA1).trans p1; have r2 := (hc6 _ 2 hA1).trans p2; have r3 := (hc6 _ 3 hA1).trans p3; have r4 := (hc6 _ 4 hA1).trans p4; have r5 := (hc6 _ 5 hA1).trans p5; have r6 := (hc6 _ 6 hA1).trans p6; have r7 := (hc6 _ 7 hA1).trans p7; have hs6 := hb6.size; (try (simp only [Nat.zero_add, List.nil_append] at hown6)); have HOWN6 := Lib.hid hown6; have HB6 := Lib.hid hb6; clear hown6 hgrow6 hat6 hc6 hf6 hb6)
          | (refine step_append_lies _ (by rfl) _ _ 22 (by rfl) wA.heap.size 60 i0 _ 10 112 Tryz.underlying22 hti hz0 hz1 hz2 (by rfl) (by decide) (.slice (some ⟨g1, 0, none⟩) (0 + g.length) cap1) (0 + g.length) ([] ++ cellsOf (ruVals g S)) (by rfl) (HOWN5u.out) ⟨wA.heap.size, 0, none⟩ 1 1 [.string ⟨#[115, 99, 111, 112, 101, 109, 111, 114, 101]⟩, .int .i64 n.kind, .string (ba n.text), .int .u64 (n.cls.a.toNat : Int), .int .u64 (n.cls.b.toNat : Int), .int .u64 (n.cls.c.toNat : Int), .int .u64 (n.cls.d.toNat : Int), .slice na n.subs.length ncap, .int .i64 n.place, .int .i64 0] (by rfl) (by rfl) (World.news_of_block ((HGR5.out.block _ (by simp) (by simp [Value.ownBlock])).trans (new_at _ _ _ (by simp)))) (by simp [Value.oneCell']) (by decide) (by unfold maxLen; omega) (by omega) (by first | (simp; done) | (simp; omega) | omega) _ rfl ?_; intro g2 cap2 w6 hown6 hgrow6 hat6 hlt6; have hb6 := Below.grown (HB5.out) hgrow6 (by first | (simp; done) | (simp; omega) | omega) (fun j hj => (by have e : g1 = j := (by simpa [Value.ownBlock] using hj); omega)); obtain ⟨hc6, hf6⟩ := bcell hb6; have q3 := (hc6 _ 0 hA3).trans kA0; have qf := (hf6 _ 0 hA3).trans kAf; have q4 := (hc6 _ 0 hA0).trans g4; have r0 := (hc6 _ 0 hA1).trans p0; have r1 := (hc6 _ 1 hA1).trans p1; have r2 := (hc6 _ 2 hA1).trans p2; have r3 := (hc6 _ 3 hA1).trans p3; have r4 := (hc6 _ 4 hA1).trans p4; have r5 := (hc6 _ 5 hA1).trans p5; have r6 := (hc6 _ 6 hA1).trans p6; have r7 := (hc6 _ 7 hA1).trans p7; have hs6 := hb6.size; simp only [Nat.zero_add, List.nil_append] at hown6; have HOWN6 := Lib.hid hown6; have HB6 := Lib.hid hb6; clear hown6 hgrow6 hat6 hc6 hf6 hb6)
          )
      all_goals
        go_wp2_with fail
        go_meet
        case rel => exact more_at H.out HN.out HF.out hl HBA.out HB3A.out (Nat.le_refl _) HB6.out HQA.out (by omega) HOWN6.out
    · have hg1 : g.length = 0 := by omega
      have hap : ∀ (W : World), (Builtin.append_ #[22, 22] 22 #[.slice none 0 0, .slice a 0 cap]).run Tryz.prog W = .ok (.slice none 0 0) W := fun W => by
        cases a with
        | none => exact run_append_nothing W _ _ _ _ i0 Tryz.underlying22 hti none 0 0 (Nat.le_refl _) _ (Src.ofNil W Tryz.underlying22 cap)
        | some a => exact run_append_nothing W _ _ _ _ i0 Tryz.underlying22 hti none 0 0 (Nat.le_refl _) _ (Src.ofSlice W Tryz.underlying22 a 0 cap [] (by simp) (by simp) (by simp))
      have g40 : wA.cell? ⟨w.heap.size, 0, none⟩ = some (.slice a 0 cap) := by rw [g4, hg1]
      have HL0 := Lib.hid hg1
      clear g4 hg1
      go_region_law
        (first
          | (have _t := tok1; clear _t; refine step_append_none (by rfl) _ _ 22 (by rfl) (.slice none 0 0) (.slice a 0 cap) (by rfl) (by rfl) (hap _) ?_; clear tok1)
          | (refine step_append_lies _ (by rfl) _ _ 22 (by rfl) wA.heap.size 60 i0 _ 10 112 Tryz.underlying22 hti hz0 hz1 hz2 (by rfl) (by decide) (.slice none 0 0) 0 [] (by rfl) (World.ownsRow_nil _ _ _ _) ⟨wA.heap.size, 0, none⟩ 1 1 [.string ⟨#[115, 99, 111, 112, 101, 109, 111, 114, 101]⟩, .int .i64 n.kind, .string (ba n.text), .int .u64 (n.cls.a.toNat : Int), .int .u64 (n.cls.b.toNat : Int), .int .u64 (n.cls.c.toNat : Int), .int .u64 (n.cls.d.toNat : Int), .slice na n.subs.length ncap, .int .i64 n.place, .int .i64 0] (by rfl) (by rfl) (World.news_of_block (new_at _ _ _ (by simp))) (by simp [Value.oneCell']) (by decide) (by unfold maxLen; omega) (by omega) (by first | (simp; done) | (simp; omega) | omega) _ rfl ?_; intro g2 cap2 w6 hown6 hgrow6 hat6 hlt6; have hb6 := Below.grown (show Below wA.heap.size wA _ by (repeat' (first | exact Below.refl _ _ | assumption | refine Below.drew ?_ | refine Below.drewN' ?_ _ | refine Below.setCell ?_ (by first | (simp; done) | omega | (simp; omega)) _ | refine Below.alloc ?_ (by first | (simp; done) | omega | (simp; omega)) _ | refine Below.step ?_ (by assumption) (by first | (simp; done) | omega | (simp; omega))))) hgrow6 (by first | (simp; done) | (simp; omega) | omega) (fun j hj => by simp [Value.ownBlock] at hj); obtain ⟨hc6, hf6⟩ := bcell hb6; have q3 := (hc6 _ 0 hA3).trans kA0; have qf := (hf6 _ 0 hA3).trans kAf; have q4 := (hc6 _ 0 hA0).trans g40; have r0 := (hc6 _ 0 hA1).trans p0; have r1 := (hc6 _ 1 hA1).trans p1; have r2 := (hc6 _ 2 hA1).trans p2; have r3 := (hc6 _ 3 hA1).trans p3; have r4 := (hc6 _ 4 hA1).trans p4; have r5 := (hc6 _ 5 hA1).trans p5; have r6 := (hc6 _ 6 hA1).trans p6; have r7 := (hc6 _ 7 hA1).trans p7; have hs6 := hb6.size; simp only [Nat.zero_add, List.nil_append] at hown6; have HOWN6 := Lib.hid hown6; have HB6 := Lib.hid hb6; clear hown6 hgrow6 hat6 hc6 hf6 hb6)
          )
      all_goals
        go_wp2_with fail
        go_meet
        case rel =>
          obtain rfl : g = [] := List.eq_nil_of_length_eq_zero HL0.out
          exact more_at H.out HN.out HF.out hl HBA.out HB3A.out (Nat.le_refl _) HB6.out HQA.out (by omega) HOWN6.out
  case rest =>
    obtain ⟨hbx, hb3x, hkx, a', b', off', cap', S', hqk, hrx⟩ := hcut
    have hglen : (g ++ [(⟨[115, 99, 111, 112, 101, 109, 111, 114, 101], n, 0⟩ : Ru)]).length = g.length + 1 := by simp
    have hszm := szg_snoc ⟨[115, 99, 111, 112, 101, 109, 111, 114, 101], n, 0⟩ g
    rw [← hglen] at hqk
    have c10 : wc.cell? ⟨w3.heap.size, 0, none⟩ = some (.slice a' (g ++ [(⟨[115, 99, 111, 112, 101, 109, 111, 114, 101], n, 0⟩ : Ru)]).length cap') := cell_at hqk 0
    have HR2 := Lib.hid (scope_Reach (g ++ [(⟨[115, 99, 111, 112, 101, 109, 111, 114, 101], n, 0⟩ : Ru)]) i _ a' b' off' cap' S' wc hrx (fun q hq => hq.elim (fun h => (by have := HF.out q h; have := hbx.size; omega)) (fun h => h.2)) (HG.out.keep hbx HG.out.2) (by rw [hszm]; omega))
    have g7 : wc.cell? ⟨w.heap.size, 0, none⟩ = some (.slice a g.length cap) := (hb3x.cell (p := ⟨w.heap.size, 0, none⟩) hw3').trans g3
    have HBX := Lib.hid hbx
    have HB3X := Lib.hid hb3x
    have hsc := hb3x.size
    clear hrx hqk hszm hbx hb3x g3 n0 n1 n2 n3 n4 n5 n6 n7
    generalize hgm : g ++ [(⟨[115, 99, 111, 112, 101, 109, 111, 114, 101], n, 0⟩ : Ru)] = gm at c10 HR2 hglen
    have HGM := Lib.hid hgm
    clear hgm hglen
    go_wp2_with fail
    refine HR2.out.mono ?_
    intro e w8 hre8
    obtain ⟨hb8, ya, yl, yc, y2, rfl, hx8⟩ := hre8.two
    have hs8 := hb8.size
    have g8 : w8.cell? ⟨w.heap.size, 0, none⟩ = some (.slice a g.length cap) := (hb8.cell (p := ⟨w.heap.size, 0, none⟩) (by show w.heap.size < _; omega)).trans g7
    have HB8 := Lib.hid (HBX.out.trans (hb8.mono (by have := HBX.out.size; omega)))
    have HB38 := Lib.hid (HB3X.out.trans (hb8.mono hsc))
    have hw8 : w.heap.size < w8.heap.size := by omega
    have HX8 := Lib.hid hx8
    clear hre8 hb8 hx8 HR2 c10 g7
    rcases HX.out with ⟨j, hck, hij, hjl, rfl, hrow⟩ | ⟨T, V, rfl⟩
    · rcases HX8.out with ⟨j2, hck2, hij2, hjl2, rfl, hrow2⟩ | ⟨T2, V2, rfl⟩
      · obtain rfl : j = j2 := by omega
        subst hij
        have hreq := Mu.reach_more hck ⟨[115, 99, 111, 112, 101, 109, 111, 114, 101], n, 0⟩ hjl
        rw [HGM.out] at hreq
        rw [hreq] at hrow2
        have hne := Mu.reach_ne hjl
        have hrw := hrow.keep (w' := w8) (fun k hk => HB38.out.block k hk.2)
        clear hrow hreq hck hck2 hjl2 hij2
        generalize Mu.reach (Mu.usesAll g) j = L at hrw hrow2 hne
        have hlp : 0 < L.length := List.length_pos_iff.2 hne
        obtain ⟨a1, b1, o1, c1, e1, h1a, h1F, h64, h1c⟩ := hrw
        obtain ⟨a2, b2, o2, c2, e2, h2a, h2F, _, h2c⟩ := hrow2
        have hb1l := (h1F hlp).2
        have hb2l := (h2F hlp).2
        have hb1m : b1 < w8.heap.size := by omega
        obtain ⟨rfl, rfl, rfl⟩ : xa = a1 ∧ xl = L.length ∧ xc = c1 := by simpa using e1
        obtain ⟨rfl, rfl, rfl⟩ : ya = a2 ∧ yl = L.length ∧ yc = c2 := by simpa using e2
        obtain rfl : xa = some ⟨b1, o1, none⟩ := h1a.resolve_left (by omega)
        obtain rfl : ya = some ⟨b2, o2, none⟩ := h2a.resolve_left (by omega)
        have hjn : ¬ (g.length : Int) ≤ (j : Int) := by omega
        have hl0 : ((L.length : Int) == 0) = false := beq_eq_false_iff_ne.2 (by omega)
        have H1C := Lib.hid h1c
        have H2C := Lib.hid h2c
        clear h1c h2c h1a h2a e1 e2 hne h1F h2F
        go_wp2_with fail
        go_loopw [13] (fun u wr => ∃ k : Nat, k ≤ L.length ∧ u = .int .i64 k ∧ Below w8.heap.size w8 wr) (fun u _ => L.length - (RowKit.intOf u).toNat)
        case atStart => exact ⟨0, Nat.zero_le _, rfl, Below.refl _ _⟩
        case round =>
          obtain ⟨k, hk, rfl, hbr⟩ := hrel
          have HBR := Lib.hid hbr
          clear hbr
          by_cases hlt : k < L.length
          · have d1 : wr.cell? ⟨b1, o1 + k, none⟩ = some (.int .i64 (L[k] : Int)) := (HBR.out.cell (p := ⟨b1, o1 + k, none⟩) hb1m).trans (H1C.out k hlt)
            have d2 : wr.cell? ⟨b2, o2 + k, none⟩ = some (.int .i64 (L[k] : Int)) := (HBR.out.cell (p := ⟨b2, o2 + k, none⟩) hb2l).trans (H2C.out k hlt)
            generalize L[k] = x at d1 d2
            have hlti : (k : Int) < (L.length : Int) := by omega
            go_wp2_with fail
            go_quiet (fail)
            go_wp2_with fail
            go_roundw
            case rel => exact ⟨k + 1, by omega, by go_num, HBR.out.drewN' _⟩
            case measure => simp [RowKit.intOf]; omega
          · obtain rfl : k = L.length := by omega
            go_wp2_with fail
            go_ret
            exact ⟨rfl, HB8.out.trans (HBR.out.mono (by have := HB8.out.size; omega))⟩
      · go_wp2_with fail
        go_ret
        exact ⟨rfl, HB8.out⟩
    · go_wp2_with fail
      go_ret
      exact ⟨rfl, HB8.out⟩

end Go.Proofs.YtdmhjnnogcpccaaGreatDoor
end
