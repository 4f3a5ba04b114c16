/- muntinlaw06.ScopeClosed: the walk. -/
import Derived.Test.YtdmhjnnogcpccaaGreatDoorJScj
import Derived.Deep.RegionWith
import Derived.StillTailTactics
namespace Go.Proofs.YtdmhjnnogcpccaaGreatDoor
open Go.RowKit
open Mu (Cl Bs Nd Ru Gr Tk)
set_option linter.unusedSimpArgs false
set_option linter.unusedVariables false

attribute [local irreducible] wpQuiet wpStill
attribute [local go_sem ↓] Go.wp_at_zero Go.wp_at_succ

/-- is a place in a row? -/
def inRow (l : List Nat) (x : Nat) : Bool := l.contains x

set_option maxHeartbeats 4000000 in
set_option maxRecDepth 20000 in
theorem law06_has (l : List Nat) (x : Nat) (F : Nat → Prop) (v : Value) (w : World) (h : IRow w F v l) :
    Calls Tryz.prog 21 #[v, .int .i64 (x : Int)] w fun e w' => e = .returned (.bool (inRow l x)) ∧ w = w' := by
  obtain ⟨a, b, off, cap, rfl, ha, _, h64, hc⟩ := h
  have HC := Lib.hid hc
  clear hc
  go_enter Tryz.func21, Tryz.ntmps21
  go_wp2_with fail
  go_loop [5] (fun u => ∃ k : Nat, k ≤ l.length ∧ u = .int .i64 k ∧ (l.take k).contains x = false) (fun u => l.length - (RowKit.intOf u).toNat)
  case atStart => exact ⟨0, Nat.zero_le _, rfl, by simp⟩
  case round =>
    obtain ⟨k, hk, rfl, hn⟩ := hrel
    have HN := Lib.hid hn
    clear hn
    by_cases hlt : k < l.length
    · obtain rfl : a = some ⟨b, off, none⟩ := ha.resolve_left (by omega)
      have d1 := HC.out k hlt
      have htk : (l.take (k + 1)).contains x = (x == l[k]) := by
        rw [List.take_succ_eq_append_getElem hlt]
        have := HN.out
        rw [List.contains_eq_mem] at this ⊢
        simp only [List.mem_append, decide_eq_false_iff_not] at this ⊢
        simp [this]
        by_cases h : x = l[k] <;> simp [h]
      have hmem : x = l[k] → inRow l x = true := fun e => by rw [e]; simp [inRow]
      have HTK := Lib.hid htk
      have HMEM := Lib.hid hmem
      have hlti : (k : Int) < (l.length : Int) := by omega
      clear htk hmem
      generalize l[k] = y at d1 HTK HMEM
      by_cases hxy : x = y
      · have hc := HMEM.out hxy
        subst hxy
        have HCC := Lib.hid hc
        clear hc HMEM HTK
        go_wp2_with fail
        go_ret
        exact ⟨by rw [HCC.out]; rfl, rfl⟩
      · have hi : ((y : Int) == (x : Int)) = false := beq_eq_false_iff_ne.2 (by omega)
        have htk := HTK.out
        rw [beq_eq_false_iff_ne.2 hxy] at htk
        have HT2 := Lib.hid htk
        clear htk HTK HMEM
        go_wp2_with fail
        go_round
        case rel => exact ⟨k + 1, by omega, by go_num, HT2.out⟩
        case measure => simp [RowKit.intOf]; omega
    · obtain rfl : k = l.length := by omega
      have hn := HN.out
      rw [List.take_length] at hn
      have HN2 := Lib.hid (show inRow l x = false from hn)
      clear hn HN
      go_wp2_with fail
      go_ret
      exact ⟨by rw [HN2.out]; rfl, rfl⟩

/-! ### what a rule leads to -/
theorem reach_rising (all : List (List Nat)) (j : Nat) : (Mu.reach all j).Pairwise (fun a b => a < b) := List.pairwise_lt_range.filter _

theorem reach_lt {g : Gr} {j x : Nat} (h : x ∈ Mu.reach (Mu.usesAll g) j) : x < g.length := by
  have := (List.mem_filter.1 h).1
  rw [List.mem_range, Mu.usesAll_length] at this
  exact this

theorem reach_self {g : Gr} {j : Nat} (hj : j < g.length) : inRow (Mu.reach (Mu.usesAll g) j) j = true := by
  have := (Mu.mem_reach (Mu.usesAll g) (Mu.good_uses g) j (by rw [Mu.usesAll_length]; exact hj) j).2 (.refl j)
  simpa [inRow] using this

theorem reach_uses {g : Gr} {j x y : Nat} (hj : j < g.length) (hx : x ∈ Mu.reach (Mu.usesAll g) j) (hxl : x < (Mu.usesAll g).length) (hy : y ∈ (Mu.usesAll g)[x]) : inRow (Mu.reach (Mu.usesAll g) j) y = true := by
  have hm := Mu.mem_reach (Mu.usesAll g) (Mu.good_uses g) j (by rw [Mu.usesAll_length]; exact hj)
  have := (hm y).2 (.step ((hm x).1 hx) (by rw [List.getD_eq_getElem?_getD, List.getElem?_eq_getElem hxl]; exact hy))
  simpa [inRow] using this

theorem reach_trans {g : Gr} {j x y : Nat} (hj : j < g.length) (hx : x ∈ Mu.reach (Mu.usesAll g) j) (hy : y ∈ Mu.reach (Mu.usesAll g) x) : inRow (Mu.reach (Mu.usesAll g) j) y = true := by
  have hm := Mu.mem_reach (Mu.usesAll g) (Mu.good_uses g) j (by rw [Mu.usesAll_length]; exact hj)
  have hm2 := Mu.mem_reach (Mu.usesAll g) (Mu.good_uses g) x (by rw [Mu.usesAll_length]; exact reach_lt hx)
  have := (hm y).2 (((hm x).1 hx).trans ((hm2 y).1 hy))
  simpa [inRow] using this

theorem reach_in {g : Gr} {x : Nat} {w w' : World} {e : Ending} (hck : Mu.check g = none) (hx : x < g.length) (h : ReachEnd g (x : Int) w e w') : Below w.heap.size w w' ∧ ∃ (a : Option Addr) (b off cap : Nat), e = .returned (.tuple #[.slice a (Mu.reach (Mu.usesAll g) x).length cap, .nilIface]) ∧
    ((Mu.reach (Mu.usesAll g) x).length = 0 ∨ a = some ⟨b, off, none⟩) ∧ (0 < (Mu.reach (Mu.usesAll g) x).length → w.heap.size ≤ b ∧ b < w'.heap.size) ∧ (Mu.reach (Mu.usesAll g) x).length ≤ 64 ∧ ∀ i (h : i < (Mu.reach (Mu.usesAll g) x).length), w'.cell? ⟨b, off + i, none⟩ = some (.int .i64 ((Mu.reach (Mu.usesAll g) x)[i] : Int)) := by
  obtain ⟨hb, ⟨er, v, h1, _⟩ | ⟨_, h1, _⟩ | ⟨j, v, h1, h2, h3, rfl, a, b, off, cap, rfl, h4⟩⟩ := h
  · rw [hck] at h1
    cases h1
  · omega
  · obtain rfl : j = x := by omega
    exact ⟨hb, a, b, off, cap, rfl, h4⟩

set_option maxHeartbeats 8000000 in
set_option maxRecDepth 20000 in
theorem law06_closed (g : Gr) (i : Int) (F : Nat → Prop) (a : Option Addr) (b off cap : Nat) (S : Nat → Value) (w : World) (h : RRs w F a b off g S) (hF : ∀ k, F k → k < w.heap.size) (hG : ErrT w) (hsz : 3000 * szg g ≤ 140737488200000) :
    Calls Tryz.prog 4 #[.agg #[.slice a g.length cap], .int .i64 i] w fun e w' => e = .returned (.bool true) ∧ Below w.heap.size w w' := by
  have hb1 : Below w.heap.size w (w.alloc (.cells #[.slice a g.length cap] 24)) := by (repeat' (first | exact Below.refl _ _ | assumption | refine Below.drew ?_ | refine Below.drewN' ?_ _ | refine Below.setCell ?_ (by first | (simp; done) | omega | (simp; omega)) _ | refine Below.alloc ?_ (by first | (simp; done) | omega | (simp; omega)) _ | refine Below.step ?_ (by assumption) (by first | (simp; done) | omega | (simp; omega))))
  have HSM := Lib.hid (law06_small _ (hG.keep hb1 hG.2))
  have H := Lib.hid h
  have HF := Lib.hid hF
  have HG := Lib.hid hG
  have HB1 := Lib.hid hb1
  clear h hF hG hb1
  go_enter Tryz.func4, Tryz.ntmps4
  go_wp2_with fail
  refine HSM.out.mono ?_
  rintro e w2 ⟨rfl, hb2⟩
  have hs2 := hb2.size
  simp at hs2
  have HB := Lib.hid (HB1.out.trans (hb2.mono (by simp)))
  have g0 : w2.cell? ⟨w.heap.size, 0, none⟩ = some (.slice a g.length cap) := by
    rw [hb2.cell (p := ⟨w.heap.size, 0, none⟩) (by show w.heap.size < _; simp)]
    simp
  have HU := Lib.hid (scope_Uses g F a b off cap S w2 (H.out.keep (Keeps.of_below HB.out HF.out)) (fun k hk => by have := HF.out k hk; omega) (HG.out.keep HB.out HG.out.2) hsz)
  have hw2 : w.heap.size < w2.heap.size := by omega
  clear hb2 HSM
  go_wp2_with fail
  refine HU.out.mono ?_
  rintro e w3 ⟨hb3, ⟨er, v, hck, rfl, hv⟩ | ⟨hck, v, rfl, hrw⟩⟩
  · obtain ⟨vT, vV, rfl⟩ : ∃ T V, v = .iface T V := by
      match er, hv with
      | .no c, hv => exact ⟨_, _, hv⟩
      | .at f, hv =>
        obtain ⟨p, _, h, _⟩ := hv
        exact ⟨_, _, h⟩
    have hs3 := hb3.size
    have HB3 := Lib.hid (HB.out.trans (hb3.mono (by omega)))
    have g3 : w3.cell? ⟨w.heap.size, 0, none⟩ = some (.slice a g.length cap) := (hb3.cell (p := ⟨w.heap.size, 0, none⟩) hw2).trans g0
    have HR := Lib.hid (scope_Reach g i F a b off cap S w3 (H.out.keep (Keeps.of_below HB3.out HF.out)) (fun k hk => by have := HF.out k hk; omega) (HG.out.keep HB3.out HG.out.2) hsz)
    clear hb3 hv g0
    go_wp2_with fail
    refine HR.out.mono ?_
    intro e w4 hre
    obtain ⟨hb4, xa, xl, xc, y, rfl, _⟩ := hre.two
    have HB4 := Lib.hid (HB3.out.trans (hb4.mono (by omega)))
    clear hre hb4
    go_wp2_with fail
    go_ret
    exact ⟨rfl, HB4.out⟩
  · have hs3 := hb3.size
    have HB3 := Lib.hid (HB.out.trans (hb3.mono (by omega)))
    have g3 : w3.cell? ⟨w.heap.size, 0, none⟩ = some (.slice a g.length cap) := (hb3.cell (p := ⟨w.heap.size, 0, none⟩) hw2).trans g0
    have HR := Lib.hid (scope_Reach g i F a b off cap S w3 (H.out.keep (Keeps.of_below HB3.out HF.out)) (fun k hk => by have := HF.out k hk; omega) (HG.out.keep HB3.out HG.out.2) hsz)
    have hl0 := (check_len hck).1
    have HCK := Lib.hid hck
    have hall := hrw.allR (by rw [Mu.usesAll_length]; exact hl0)
    obtain ⟨gr, gcap, rfl, hgF, hrows⟩ := hall
    have HALL := Lib.hid hrows
    have HGF := Lib.hid hgF
    have hul := Mu.usesAll_length g
    have HUL := Lib.hid hul
    clear hb3 g0 hrw hrows hgF hul
    go_wp2_with fail
    refine HR.out.mono ?_
    intro e w4 hre
    obtain ⟨hb4, xa, xl, xc, y, rfl, hx⟩ := hre.two
    have hs4 := hb4.size
    have HB4 := Lib.hid (HB3.out.trans (hb4.mono (by omega)))
    have HB34 := Lib.hid hb4
    rcases hx with ⟨j, _, hij, hjl, rfl, hrow⟩ | ⟨T, V, rfl⟩
    · subst hij
      have hrl : ∀ x ∈ Mu.reach (Mu.usesAll g) j, x < g.length := fun x hx => reach_lt hx
      have hrise := reach_rising (Mu.usesAll g) j
      have hself := reach_self hjl
      have hru : ∀ x, x ∈ Mu.reach (Mu.usesAll g) j → ∀ (hxl : x < (Mu.usesAll g).length), ∀ y ∈ (Mu.usesAll g)[x], inRow (Mu.reach (Mu.usesAll g) j) y = true := fun x hx hxl y hy => reach_uses hjl hx hxl hy
      have hrt : ∀ x, x ∈ Mu.reach (Mu.usesAll g) j → ∀ y ∈ Mu.reach (Mu.usesAll g) x, inRow (Mu.reach (Mu.usesAll g) j) y = true := fun x hx y hy => reach_trans hjl hx hy
      generalize Mu.reach (Mu.usesAll g) j = R at hrow hrl hrise hself hru hrt
      have HROW := Lib.hid hrow
      obtain ⟨a1, b1, o1, c1, e1, h1a, h1F, h64, h1c⟩ := hrow
      obtain ⟨rfl, rfl, rfl⟩ : xa = a1 ∧ xl = R.length ∧ xc = c1 := by simpa using e1
      have HRL := Lib.hid hrl
      have HRISE := Lib.hid hrise
      have HSELF := Lib.hid hself
      have HRU := Lib.hid hru
      have HRT := Lib.hid hrt
      have H1C := Lib.hid h1c
      have H1F := Lib.hid h1F
      have g4 : w4.cell? ⟨w.heap.size, 0, none⟩ = some (.slice a g.length cap) := (hb4.cell (p := ⟨w.heap.size, 0, none⟩) (by show w.heap.size < _; omega)).trans g3
      have hw4 : w.heap.size < w4.heap.size := by omega
      clear hb4 hre e1 hrl hrise hself hru hrt h1c h1F g3 hck
      rw [HUL.out]
      go_wp2_with fail
      refine (law06_has R j _ _ _ HROW.out).mono ?_
      rintro e w5 ⟨rfl, rfl⟩
      rw [HSELF.out]
      have hb1l := (H1F.out (by
        rcases Nat.eq_zero_or_pos R.length with h0 | h0
        · have := HSELF.out
          rw [List.eq_nil_of_length_eq_zero h0] at this
          simp [inRow] at this
        · exact h0)).2
      go_wp2_with fail
      go_loopw [11] (fun u wr => ∃ k : Nat, k ≤ R.length ∧ u = .int .i64 k ∧ Below w4.heap.size w4 wr) (fun u _ => R.length - (RowKit.intOf u).toNat)
      case atStart => exact ⟨0, Nat.zero_le _, rfl, Below.refl _ _⟩
      case round =>
        obtain ⟨k, hk, rfl, hbr⟩ := hrel
        have hsr := hbr.size
        have HBR := Lib.hid hbr
        clear hbr
        by_cases hlt : k < R.length
        · obtain rfl : xa = some ⟨b1, o1, none⟩ := h1a.resolve_left (by omega)
          have hxm : R[k] ∈ R := List.getElem_mem hlt
          have hxg := HRL.out _ hxm
          have d1 : wr.cell? ⟨b1, o1 + k, none⟩ = some (.int .i64 (R[k] : Int)) := (HBR.out.cell (p := ⟨b1, o1 + k, none⟩) hb1l).trans (H1C.out k hlt)
          obtain ⟨xv, hxv, hxr⟩ := HALL.out R[k] (by rw [HUL.out]; exact hxg)
          have hgl := HGF.out.2
          have d2 : wr.cell? ⟨gr, R[k], none⟩ = some xv := (HBR.out.cell (p := ⟨gr, R[k], none⟩) (by show gr < _; omega)).trans ((HB34.out.cell (p := ⟨gr, R[k], none⟩) hgl).trans hxv)
          have hxr4 := (hxr.keep (w' := wr) fun q hq => (HBR.out.block q (by have := hq.2; omega)).trans (HB34.out.block q hq.2)).mono (F' := fun q => q < w4.heap.size) (fun q hq => by have := hq.2; omega)
          have hru := HRU.out R[k] hxm (by rw [HUL.out]; exact hxg)
          have hrt := HRT.out R[k] hxm
          have hprev : ∀ k', k = k' + 1 → ∃ y : Nat, wr.cell? ⟨b1, o1 + k', none⟩ = some (.int .i64 (y : Int)) ∧ y < R[k] := fun k' hk' => by
            subst hk'
            refine ⟨R[k'], (HBR.out.cell (p := ⟨b1, o1 + k', none⟩) hb1l).trans (H1C.out k' (by omega)), ?_⟩
            exact (List.pairwise_iff_getElem.1 HRISE.out) k' (k' + 1) (by omega) hlt (by omega)
          have hxu : R[k] < (Mu.usesAll g).length := by rw [HUL.out]; exact hxg
          have hU64 : (Mu.usesAll g)[R[k]].length ≤ 64 := by
            obtain ⟨_, _, _, _, _, _, _, h, _⟩ := hxr
            exact h
          clear hxv hxr hxm
          generalize (Mu.usesAll g)[R[k]] = U at hxr4 hru hU64
          generalize R[k] = x at hxg d1 d2 hru hrt hprev
          have HXR := Lib.hid hxr4
          obtain ⟨ua, ub, uo, uc, rfl, hua, huF, _, huc⟩ := hxr4
          have HRUX := Lib.hid hru
          have HRTX := Lib.hid hrt
          have HUC := Lib.hid huc
          have HUF := Lib.hid huF
          have hlti : (k : Int) < (R.length : Int) := by omega
          have e1 : decide ((x : Int) < 0) = false := by simp
          have e2 : decide ((g.length : Int) ≤ (x : Int)) = false := by simp; omega
          have e3 : decide (g.length ≤ x) = false := by simp; omega
          have e4 : (x : Int) < (g.length : Int) := by omega
          clear hru hrt huc huF
          go_upto_region 12 with (fail)
          go_cut [89] (fun u wx => u = .bool false ∧ ∃ m, wx = wr.drewN m)
          case first =>
            rcases k with _ | k
            · clear hprev
              have d0 : wr.cell? ⟨b1, o1, none⟩ = some (.int .i64 (x : Int)) := by simpa using d1
              have k0 : (0 : Int) < (R.length : Int) := by omega
              go_quiet (fail)
              go_wp2_with fail
              go_meet
              case rel => exact ⟨rfl, _, rfl⟩
            · obtain ⟨y, d3, hyx⟩ := hprev k rfl
              have k0 : (k : Int) < (R.length : Int) := by omega
              have k1 : ((k + 1 : Nat) : Int) < (R.length : Int) := by omega
              have e5 : decide (x ≤ y) = false := by simp; omega
              have e6 : decide ((x : Int) ≤ (y : Int)) = false := by simp; omega
              have e8 : (0 : Int) < (k : Int) + 1 := by omega
              clear hprev
              go_quiet (fail)
              go_wp2_with fail
              go_meet
              case rel => exact ⟨rfl, _, rfl⟩
          case rest =>
            clear hprev
            obtain ⟨rfl, md, hwc⟩ := hcut
            have hbc : Below wr.heap.size wr wc := by rw [hwc]; exact (Below.refl _ _).drewN' md
            have hsc := hbc.size
            have hbc4 : Below w4.heap.size w4 wc := HBR.out.trans (hbc.mono hsr)
            have c1 : wc.cell? ⟨b1, o1 + k, none⟩ = some (.int .i64 (x : Int)) := (hbc.cell (p := ⟨b1, o1 + k, none⟩) (by show b1 < _; omega)).trans d1
            have c2 : wc.cell? ⟨gr, x, none⟩ = some (.slice ua U.length uc) := (hbc.cell (p := ⟨gr, x, none⟩) (by show gr < _; omega)).trans d2
            have c3 : wc.cell? ⟨w.heap.size, 0, none⟩ = some (.slice a g.length cap) := (hbc4.cell (p := ⟨w.heap.size, 0, none⟩) hw4).trans g4
            have HBC := Lib.hid hbc
            have HBC4 := Lib.hid hbc4
            have hxl0 : (x : Int) < (g.length : Int) := e4
            clear hwc hbc hbc4 d1 d2 e1 e2 e3
            go_wp2_with fail
            go_loop [12] (fun u => ∃ m : Nat, m ≤ U.length ∧ u = .int .i64 m) (fun u => U.length - (RowKit.intOf u).toNat)
            case atStart => exact ⟨0, Nat.zero_le _, rfl⟩
            case round =>
              obtain ⟨m, hm, rfl⟩ := hrel
              by_cases hmu : m < U.length
              · obtain rfl : ua = some ⟨ub, uo, none⟩ := hua.resolve_left (by omega)
                have hubl := HUF.out (by omega)
                have c4 : wc.cell? ⟨ub, uo + m, none⟩ = some (.int .i64 (U[m] : Int)) := (HBC.out.cell (p := ⟨ub, uo + m, none⟩) (by show ub < _; omega)).trans (HUC.out m hmu)
                have hin := HRUX.out U[m] (List.getElem_mem hmu)
                have hmui : (m : Int) < (U.length : Int) := by omega
                have HIN := Lib.hid hin
                clear hin
                generalize U[m] = y at c4 HIN
                go_wp2_with fail
                refine (law06_has R y _ _ _ (HROW.out.keep (w' := wc) (fun q hq => HBC4.out.block q hq.2))).mono ?_
                rintro e w9 ⟨rfl, rfl⟩
                rw [HIN.out]
                go_wp2_with fail
                go_round
                case rel => exact ⟨m + 1, by omega, by go_num⟩
                case measure => simp [RowKit.intOf]; omega
              · obtain rfl : m = U.length := by omega
                have hdr : ErrT wc.drew := HG.out.keep ((HB4.out.trans (HBC4.out.mono (by omega))).drew) HG.out.2
                have hwcs : w.heap.size < wc.heap.size := by omega
                have HRR := Lib.hid (scope_Reach g (x : Int) F a b off cap S wc.drew (H.out.keep (Keeps.of_below ((HB4.out.trans (HBC4.out.mono (by omega))).drew) HF.out)) (fun q hq => by have := HF.out q hq; show q < wc.heap.size; omega) hdr hsz)
                clear hdr
                go_wp2_with fail
                go_region_held3 (fun w' => w'.cell? ⟨w.heap.size, 0, none⟩ = some (.slice a g.length cap) ∧ w'.cell? ⟨b1, o1 + k, none⟩ = some (.int .i64 (x : Int)))
                  (first | go_keep | exact ⟨c5, c6⟩)
                  (first
                    | (go_at_call 20; refine HRR.out.mono ?_; intro e w9 hre9; obtain ⟨hb9, a9, b9, o9, p9, rfl, ha9, hf9, hl9, hc9⟩ := reach_in HCK.out hxg hre9; have hs9 : wc.heap.size ≤ w9.heap.size := hb9.size; have c5 := (hb9.cell (p := ⟨w.heap.size, 0, none⟩) hwcs).trans c3; have c6 := (hb9.cell (p := ⟨b1, o1 + k, none⟩) (by show b1 < wc.heap.size; omega)).trans c1; have HB9 := Lib.hid hb9; have HA9 := Lib.hid ha9; have HF9 := Lib.hid hf9; have HC9 := Lib.hid hc9; clear hre9 hb9 ha9 hf9 hc9))
                go_wp2_with fail
                have hb49 : Below w4.heap.size w4 w9 := (HBC4.out.drew).trans (HB9.out.mono (by show w4.heap.size ≤ wc.heap.size; omega))
                have HB49 := Lib.hid hb49
                have hrt := HRTX.out
                generalize Mu.reach (Mu.usesAll g) x = R2 at hl9 HA9 HF9 HC9 hrt
                have HRT2 := Lib.hid hrt
                clear hb49 hrt
                go_loop [16] (fun u => ∃ m : Nat, m ≤ R2.length ∧ u = .int .i64 m) (fun u => R2.length - (RowKit.intOf u).toNat)
                case atStart => exact ⟨0, Nat.zero_le _, rfl⟩
                case round =>
                  obtain ⟨m, hm, rfl⟩ := hrel
                  by_cases hmu : m < R2.length
                  · obtain rfl : a9 = some ⟨b9, o9, none⟩ := HA9.out.resolve_left (by omega)
                    have c4 := HC9.out m hmu
                    have hin := HRT2.out R2[m] (List.getElem_mem hmu)
                    have hmui : (m : Int) < (R2.length : Int) := by omega
                    have HIN := Lib.hid hin
                    clear hin
                    generalize R2[m] = y at c4 HIN
                    go_wp2_with fail
                    refine (law06_has R y _ _ _ (HROW.out.keep (w' := w9) (fun q hq => HB49.out.block q hq.2))).mono ?_
                    rintro e w10 ⟨rfl, rfl⟩
                    rw [HIN.out]
                    go_wp2_with fail
                    go_round
                    case rel => exact ⟨m + 1, by omega, by go_num⟩
                    case measure => simp [RowKit.intOf]; omega
                  · obtain rfl : m = R2.length := by omega
                    go_wp2_with fail
                    go_roundw
                    case rel => exact ⟨k + 1, by omega, by go_num, HB49.out⟩
                    case measure => simp [RowKit.intOf]; omega
        · obtain rfl : k = R.length := by omega
          go_wp2_with fail
          go_ret
          exact ⟨rfl, HB4.out.trans (HBR.out.mono (by omega))⟩
    · clear hre hb4
      go_wp2_with fail
      go_ret
      exact ⟨rfl, HB4.out⟩

end Go.Proofs.YtdmhjnnogcpccaaGreatDoor
