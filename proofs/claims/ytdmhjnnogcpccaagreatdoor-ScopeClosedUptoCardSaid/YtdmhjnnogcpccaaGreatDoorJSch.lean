/- scope.Reach. scope.Reach: the function. -/
import Derived.Test.YtdmhjnnogcpccaaGreatDoorJScf
import Derived.Laws.EntriesVeiled
section
namespace Go
open Go.Maps Go.WideShapes
open Go.WideElems (Fit rd rg pl rd_val elemAt)

theorem plainElem_bool_inv {H : Type} {P : Program} {e : TypeId} (he : P.underlying e = some .bool) {v : Value} {z : DataW H × List MemPlace} (h : plainElem P e v = some z) : ∃ x, v = .bool x ∧ z = (.lit (.bool x), []) := by
  unfold plainElem at h
  rw [he] at h
  cases v <;> simp at h
  exact ⟨_, rfl, h.symm⟩

theorem World.ownsMap.look_bool {H : Type} {P : Program} {k : TypeId} {w : World} {b n : Nat} {D : DataW H} {t e : TypeId} (h : w.ownsMap P k (plainElem P e) b n D) (K : Keyed P k) (ht : P.underlying t = some (.map k e)) (he : P.underlying e = some .bool) (hz : (zeroValue e).run P w = .ok (.bool false) w)
    {key : Value} {kl : Lit} (hkey : keyOf P k key = some kl) : ∃ x, (Instr.lookup t (.map (some b)) key false).run P w = .ok (.bool x) w ∧ D.atKey kl (.lit (.bool false)) = .lit (.bool x) := by
  obtain ⟨es, clock, hb, F, _, rfl⟩ := h
  rcases Maps.fit_look false K ht hz hb F hkey with ⟨hrun, _, hat⟩ | ⟨e0, y, _, _, hrun, hRv, hat, _⟩
  · exact ⟨false, hrun, by rw [hat]⟩
  · obtain ⟨x, hx, hy⟩ := plainElem_bool_inv he hRv
    refine ⟨x, by rw [← hx]; exact hrun, ?_⟩
    rw [hat, hy]

theorem wpList_lookup_own_bool {H : Type} {P : Program} (w : World) {ops : Array Oper} {rest : List Oper} {o : Oper} {a : Act} {Q : Exit → Act → World → Prop}
    (hg : o.guard = none) (m x : Operand) (t : TypeId) (hop : o.op = Op.lookup t m x false)
    (k e : TypeId) (K : Keyed P k) (ht : P.underlying t = some (.map k e)) (he : P.underlying e = some .bool) (hz : (zeroValue e).run P w = .ok (.bool false) w) (b n : Nat) (D : DataW H)
    (hm : a.eval m = .map (some b)) (hown : w.ownsMap P k (plainElem P e) b n D) (key : Value) (kl : Lit) (hx : a.eval x = key) (hkey : keyOf P k key = some kl) (c : Bool) (hc : D.atKey kl (.lit (.bool false)) = .lit (.bool c))
    (hK : wpList P ops Q rest (a.put o.dst (.bool c)) w) :
    wpList P ops Q (o :: rest) a w := by
  refine wpList_plain hg fun K' hK' => ?_
  obtain ⟨x', hrun, hat⟩ := hown.look_bool K ht he hz hkey
  obtain rfl : c = x' := by
    have := hc.symm.trans hat
    simpa using this
  unfold Oper.wp
  simp [execOp, hop, hm, hx, hrun, Result.andThen]
  exact hK' _ _ hK
end Go

namespace Go.Proofs.YtdmhjnnogcpccaaGreatDoor
open Go.RowKit Go.Maps
open Mu (Cl Bs Nd Ru Gr Tk)
set_option linter.unusedSimpArgs false
set_option linter.unusedVariables false

attribute [local irreducible] wpQuiet wpStill
attribute [local go_sem ↓] Go.wp_at_zero Go.wp_at_succ

/-- rows of places as they are read -/
def AllR (w : World) (F : Nat → Prop) (v : Value) (ll : List (List Nat)) : Prop := ∃ g cap, v = .slice (some ⟨g, 0, none⟩) ll.length cap ∧ F g ∧ ∀ i (h : i < ll.length), ∃ x, w.cell? ⟨g, i, none⟩ = some x ∧ IRow w F x ll[i]

theorem AllR.keep {w w' : World} {F : Nat → Prop} {v : Value} {ll : List (List Nat)} (h : AllR w F v ll) (hk : Keeps F w w') : AllR w' F v ll := by
  obtain ⟨g, cap, h1, h2, h3⟩ := h
  refine ⟨g, cap, h1, h2, fun i hi => ?_⟩
  obtain ⟨x, h4, h5⟩ := h3 i hi
  exact ⟨x, by rw [hk.cell h2]; exact h4, h5.keep hk⟩

theorem AllR.mono {w : World} {F F' : Nat → Prop} {v : Value} {ll : List (List Nat)} (h : AllR w F v ll) (hk : ∀ k, F k → F' k) : AllR w F' v ll := by
  obtain ⟨g, cap, h1, h2, h3⟩ := h
  refine ⟨g, cap, h1, hk _ h2, fun i hi => ?_⟩
  obtain ⟨x, h4, h5⟩ := h3 i hi
  exact ⟨x, h4, h5.mono hk⟩

theorem IRws.allR {B : Nat} {v : Value} {ll : List (List Nat)} {w : World} (h : IRws B v ll w) (h0 : 0 < ll.length) : AllR w (fun k => B ≤ k ∧ k < w.heap.size) v ll := by
  obtain ⟨g, cap, x, hv, hg, hgl, _⟩ := h.one 0 h0
  refine ⟨g, cap, hv, ⟨hg, hgl⟩, fun i hi => ?_⟩
  obtain ⟨g', cap', x', hv', _, _, hx, hr⟩ := h.one i hi
  have e : g' = g := by
    rw [hv] at hv'
    cases hv'
    rfl
  subst e
  exact ⟨x', hx, hr⟩

/-- what visit finds: the seen map's variable and the map, the rows' variable and the rows, its own variable -/
structure RcJ (all : List (List Nat)) (F : Nat → Prop) (A sb L V : Nat) (u : Value) (l : List Nat) (w : World) : Prop where
  var : w.heap[A]? = some (.cells #[.map (some sb)] 92)
  seen : SeenMap sb l w
  lst : w.heap[L]? = some (.cells #[u] 51)
  rows : AllR w F u all
  vis : w.heap[V]? = some (.cells #[.func (.func 45) #[] #[.pointer (some ⟨A, 0, none⟩), .pointer (some ⟨L, 0, none⟩), .pointer (some ⟨V, 0, none⟩)]] 93)

theorem seen_at {l : List Nat} {D : DataW Unit} (hD : ∀ i : Nat, Maps.has D (.int .i64 i) = l.contains i ∧ (l.contains i = true → D.atKey (.int .i64 i) (.lit (.bool false)) = .lit (.bool true))) (i : Nat) : D.atKey (.int .i64 (i : Int)) (.lit (.bool false)) = .lit (.bool (l.contains i)) := by
  have h := hD i
  cases hc : l.contains i with
  | true => exact h.2 hc
  | false =>
    rw [hc] at h
    exact atKey_of_not_has h.1 _

def VisitC (all : List (List Nat)) (F : Nat → Prop) (A sb L V : Nat) (u : Value) (k : Nat) : Prop := ∀ (i : Nat) (l : List Nat) (w : World), i < all.length → RcJ all F A sb L V u l w → l.Nodup → (∀ x ∈ l, x < all.length) → all.length < k + l.length → (∀ q, F q → q < w.heap.size) →
  Calls Tryz.prog 45 #[.int .i64 (i : Int), .pointer (some ⟨A, 0, none⟩), .pointer (some ⟨L, 0, none⟩), .pointer (some ⟨V, 0, none⟩)] w fun e w' => e = .returned (.tuple #[]) ∧ RcJ all F A sb L V u (Mu.visitK all k i l) w' ∧ Ch (· = sb) w w'

set_option maxHeartbeats 8000000 in
set_option maxRecDepth 20000 in
theorem visit_any (all : List (List Nat)) (hg : Mu.Good all) (hl64 : all.length ≤ 64) (F : Nat → Prop) (A sb L V : Nat) (hA : A ≠ sb) (hL : L ≠ sb) (hV : V ≠ sb) (hFs : ¬ F sb) (u : Value) (k : Nat) (hIH : VisitC all F A sb L V u k) : VisitC all F A sb L V u (k + 1) := by
  intro i l w hi hJ hn hlt hk hF
  have hAl := lt_of_some hJ.var
  have hLl := lt_of_some hJ.lst
  have hVl := lt_of_some hJ.vis
  have hsl := hJ.seen.lt
  have ac : w.cell? ⟨A, 0, none⟩ = some (.map (some sb)) := cell_at hJ.var 0
  obtain ⟨h0, E, hownE, hmapE, hkE, hE⟩ := hJ.seen
  have hat := seen_at hE i
  obtain ⟨gr, gcap, hu, hFg, hrows⟩ := hJ.rows
  obtain ⟨x, hx, hrow⟩ := hrows i hi
  obtain ⟨xa, xb, xoff, xcap, hxv, hxa, hxF, hx64, hxc⟩ := hrow
  subst hu hxv
  have hgl := hF gr hFg
  have hpost : ∀ w5, w.grownBy w5 (some sb) → w5.cell? ⟨L, 0, none⟩ = some (.slice (some ⟨gr, 0, none⟩) all.length gcap) ∧ w5.cell? ⟨gr, i, none⟩ = some (.slice xa all[i].length xcap) ∧ w5.heap.size = w.heap.size + (w5.heap.size - w.heap.size) := fun w5 hg5 => by
    refine ⟨cell_at ((hg5.block L hLl (by simpa using hL)).trans hJ.lst) 0, ?_, by have := hg5.size; omega⟩
    rw [World.cell?_of_block (a := ⟨gr, i, none⟩) (hg5.block gr hgl (fun e => hFs (by cases e; exact hFg)))]
    exact hx
  have HPOST := Lib.hid hpost
  clear hpost
  have hgd : all.getD i [] = all[i] := by rw [List.getD_eq_getElem?_getD, List.getElem?_eq_getElem hi]; rfl
  have hrg := hg i
  rw [hgd] at hrg
  have HRG := Lib.hid hrg
  clear hrg
  have HOWNE := Lib.hid hownE
  have HE := Lib.hid hE
  have HKE := Lib.hid hkE
  have HZ := Lib.hid h0
  have HJ := Lib.hid hJ
  have HF := Lib.hid hF
  have HN := Lib.hid hn
  have HLT := Lib.hid hlt
  have HIH := Lib.hid hIH
  have HG := Lib.hid hg
  cases hc : l.contains i
  · have hv : Mu.visitK all (k + 1) i l = (all.getD i []).foldl (fun s j => Mu.visitK all k j s) (l ++ [i]) := by
      rw [Mu.visitK, if_neg (by rw [hc]; simp)]
    rw [hgd] at hv
    clear hgd
    rw [hc] at hat
    have HAT := Lib.hid hat
    have HV := Lib.hid hv
    have HC := Lib.hid hc
    clear hJ hn hlt hF hIH hownE hE hkE h0 hat hv hc hg hrows
    go_enter Tryz.func45, Tryz.ntmps45
    go_wp2_with (first
      | (at_lookup; refine wpList_lookup_own_bool _ rfl _ _ 92 rfl 3 4 Tryz.keyInt Tryz.underlying92 Tryz.underlying4 (Tryz.zeroBool _) sb 64 E rfl HOWNE.out _ _ rfl (Maps.keyOf_int_mk Tryz.underlying3 (WalkArith.wf_i64 (by omega))) false HAT.out ?_)
      | (at_mapUpdate; refine wpList_mapUpdate_own _ rfl _ _ _ 92 rfl 3 4 Tryz.keyInt Tryz.underlying92 _ sb 64 E rfl HOWNE.out (by unfold maxLen; omega) _ _ _ rfl rfl (Maps.keyOf_int_mk Tryz.underlying3 (WalkArith.wf_i64 (by omega))) _ [] (plainElem_bool Tryz.underlying4 true) ?_; intro w5 hown5 hgr5; have HOWN5 := Lib.hid hown5; have HGR5 := Lib.hid hgr5; obtain ⟨l5, g5, z5⟩ := HPOST.out w5 hgr5; clear hown5 hgr5 z5))
    have hJ5 : RcJ all F A sb L V (.slice (some ⟨gr, 0, none⟩) all.length gcap) (l ++ [i]) w5 := by
      have hg5 := HGR5.out
      have hJ := HJ.out
      exact ⟨(hg5.block A hAl (by simpa using hA)).trans hJ.var, SeenMap.put HZ.out hmapE HKE.out HE.out (by omega) HOWN5.out, (hg5.block L hLl (by simpa using hL)).trans hJ.lst, hJ.rows.keep (fun q hq => hg5.block q (HF.out q hq) (fun e => hFs (by cases e; exact hq))), (hg5.block V hVl (by simpa using hV)).trans hJ.vis⟩
    have HJ5 := Lib.hid hJ5
    clear hJ5
    have hxF' : 0 < all[i].length → xb < w.heap.size ∧ F xb := fun h => ⟨HF.out _ (hxF h), hxF h⟩
    have hxc5 : ∀ j (h : j < all[i].length) w', Ch (fun q => q = sb) w5 w' → w'.cell? ⟨xb, xoff + j, none⟩ = some (.int .i64 (all[i][j] : Int)) := fun j h w' hC => by
      obtain ⟨hxl, hxf⟩ := hxF' (by omega)
      have hne : xb ≠ sb := fun e => hFs (e ▸ hxf)
      have hs5 := HGR5.out.size
      rw [World.cell?_of_block (a := ⟨xb, xoff + j, none⟩) (w := w5) (hC.block xb (by omega) hne), World.cell?_of_block (a := ⟨xb, xoff + j, none⟩) (w := w) (HGR5.out.block xb hxl (by simpa using hne))]
      exact hxc j h
    have HX5 := Lib.hid hxc5
    have hi2 : i ∉ l := fun hm => by
      have := HC.out
      rw [List.contains_eq_mem, decide_eq_false_iff_not] at this
      exact this hm
    have hn1 : (l ++ [i]).Nodup := by
      rw [List.nodup_append]
      refine ⟨HN.out, by simp, fun a ha b hb => ?_⟩
      have : b = i := by simpa using hb
      rintro rfl
      exact hi2 (this ▸ ha)
    have hl1 : ∀ x ∈ l ++ [i], x < all.length := fun x hx => by
      rcases List.mem_append.1 hx with h | h
      · exact HLT.out x h
      · have : x = i := by simpa using h
        omega
    have hlk : all.length < k + (l ++ [i]).length := by simp; omega
    have HN1 := Lib.hid hn1
    have HL1 := Lib.hid hl1
    have hs5 := HGR5.out.size
    have hC05 : Ch (fun q => q = sb) w w5 := Ch.grown HGR5.out rfl
    have HC05 := Lib.hid hC05
    clear hxc hxF hxF' hxc5 hn1 hl1 hi2 hC05 hx
    generalize l ++ [i] = l1 at HJ5 HV HN1 HL1 hlk
    generalize all[i] = row at HV HX5 hxa hx64 HRG g5 HPOST
    go_wp2_with fail
    go_loopw [17] (fun o wr => ∃ (j : Nat) (s : List Nat), j ≤ row.length ∧ o = .int .i64 j ∧ s = (row.take j).foldl (fun s j => Mu.visitK all k j s) l1 ∧ RcJ all F A sb L V (.slice (some ⟨gr, 0, none⟩) all.length gcap) s wr ∧ Ch (fun q => q = sb) w5 wr) (fun o _ => row.length - (RowKit.intOf o).toNat)
    case atStart => exact ⟨0, _, Nat.zero_le _, rfl, by simp, HJ5.out, Ch.refl _ _⟩
    case round =>
      obtain ⟨j, s, hj, rfl, hs, hJr, hCr⟩ := hrel
      have hsz := hCr.size
      have vr : wr.cell? ⟨V, 0, none⟩ = some (.func (.func 45) #[] #[.pointer (some ⟨A, 0, none⟩), .pointer (some ⟨L, 0, none⟩), .pointer (some ⟨V, 0, none⟩)]) := cell_at hJr.vis 0
      have HS := Lib.hid hs
      have HJR := Lib.hid hJr
      have HCR := Lib.hid hCr
      clear hs hJr hCr
      by_cases hlt : j < row.length
      · rcases hxa with h0 | rfl
        · omega
        have xr := HX5.out j hlt wr HCR.out
        have hfa := Mu.fold_all all HG.out k (row.take j) l1 (fun q hq => HRG.out q (List.mem_of_mem_take hq)) HN1.out HL1.out hlk
        rw [← HS.out] at hfa
        have hcall := HIH.out row[j] s wr (HRG.out _ (List.getElem_mem hlt)) HJR.out hfa.nodup hfa.lt (by have := hfa.len; omega) (fun q hq => by have := HF.out q hq; omega)
        have htk : (row.take (j + 1)).foldl (fun s j => Mu.visitK all k j s) l1 = Mu.visitK all k row[j] s := by
          rw [List.take_succ_eq_append_getElem hlt, List.foldl_append, ← HS.out]
          rfl
        have HCALL := Lib.hid hcall
        have HTK := Lib.hid htk
        have hlti : (j : Int) < (row.length : Int) := by omega
        clear hfa hcall htk
        generalize row[j] = r at xr HCALL HTK
        go_wp2_with fail
        refine HCALL.out.mono ?_
        rintro e w7 ⟨rfl, hJ7, hC7⟩
        have HJ7 := Lib.hid hJ7
        have HC7 := Lib.hid (HCR.out.trans hC7)
        clear hJ7 hC7
        go_wp2_with fail
        go_roundw
        case rel => exact ⟨j + 1, _, by omega, by go_num, HTK.out.symm, HJ7.out, HC7.out⟩
        case measure => simp [RowKit.intOf]; omega
      · obtain rfl : j = row.length := by omega
        have hs := HS.out
        rw [List.take_length, ← HV.out] at hs
        have HS2 := Lib.hid hs
        clear hs HS
        go_wp2_with fail
        go_end0
        exact ⟨rfl, by rw [← HS2.out]; exact HJR.out, HC05.out.trans HCR.out⟩
  · have hv : Mu.visitK all (k + 1) i l = l := by
      rw [Mu.visitK, if_pos hc]
    rw [hc] at hat
    have HAT := Lib.hid hat
    have HV := Lib.hid hv
    clear hJ hn hlt hF hIH hownE hE hkE h0 hat hv hc hg hrows hgd
    go_enter Tryz.func45, Tryz.ntmps45
    go_wp2_with (at_lookup; refine wpList_lookup_own_bool _ rfl _ _ 92 rfl 3 4 Tryz.keyInt Tryz.underlying92 Tryz.underlying4 (Tryz.zeroBool _) sb 64 E rfl HOWNE.out _ _ rfl (Maps.keyOf_int_mk Tryz.underlying3 (WalkArith.wf_i64 (by omega))) true HAT.out ?_)
    refine bodyPost_ret (v := .tuple #[]) (by simp [results, Tryz.results45, go_sem]) rfl ⟨rfl, by rw [HV.out]; exact HJ.out, Ch.refl _ _⟩

end Go.Proofs.YtdmhjnnogcpccaaGreatDoor
end

section
namespace Go.Proofs.YtdmhjnnogcpccaaGreatDoor
open Go.RowKit Go.Maps
open Mu (Cl Bs Nd Ru Gr Tk)
set_option linter.unusedSimpArgs false
set_option linter.unusedVariables false

attribute [local irreducible] wpQuiet wpStill
attribute [local go_sem ↓] Go.wp_at_zero Go.wp_at_succ

theorem visit_c (all : List (List Nat)) (hg : Mu.Good all) (hl64 : all.length ≤ 64) (F : Nat → Prop) (A sb L V : Nat) (hA : A ≠ sb) (hL : L ≠ sb) (hV : V ≠ sb) (hFs : ¬ F sb) (u : Value) : ∀ k, VisitC all F A sb L V u k
  | 0 => fun i l w hi hJ hn hlt hk hF => absurd (Mu.nodup_len _ _ hn hlt) (by omega)
  | k + 1 => visit_any all hg hl64 F A sb L V hA hL hV hFs u k (visit_c all hg hl64 F A sb L V hA hL hV hFs u k)

def ReachEnd (g : Gr) (i : Int) (w : World) (e : Ending) (w' : World) : Prop := Below w.heap.size w w' ∧
  ((∃ er v, Mu.check g = some er ∧ e = .returned (.tuple #[.slice none 0 0, v]) ∧ ErV w.heap.size v (some er) w') ∨
   (Mu.check g = none ∧ (i < 0 ∨ (g.length : Int) ≤ i) ∧ e = .returned (.tuple #[.slice none 0 0, errnoV 1])) ∨
   (∃ (j : Nat) (v : Value), Mu.check g = none ∧ i = j ∧ j < g.length ∧ e = .returned (.tuple #[v, .nilIface]) ∧ IRow w' (fun k => w.heap.size ≤ k ∧ k < w'.heap.size) v (Mu.reach (Mu.usesAll g) j)))

set_option maxHeartbeats 8000000 in
set_option maxRecDepth 20000 in
theorem scope_Reach (g : Gr) (i : Int) (F : Nat → Prop) (a : Option Addr) (b off cap : Nat) (S : Nat → Value) (w : World) (h : RRs w F a b off g S) (hF : ∀ k, F k → k < w.heap.size) (hG : ErrT w) (hsz : 3000 * szg g ≤ 140737488200000) :
    Calls Tryz.prog 20 #[.agg #[.slice a g.length cap], .int .i64 i] w (ReachEnd g i w) := by
  have hmm := @run_makeMap Tryz.prog
  have hlim := h.hlim
  unfold maxRus at hlim
  have hb1 : Below w.heap.size w (w.alloc (.cells #[.slice a g.length cap] 24)) := by (repeat' (first | exact Below.refl _ _ | assumption | refine Below.drew ?_ | refine Below.drewN' ?_ _ | refine Below.setCell ?_ (by first | (simp; done) | omega | (simp; omega)) _ | refine Below.alloc ?_ (by first | (simp; done) | omega | (simp; omega)) _ | refine Below.step ?_ (by assumption) (by first | (simp; done) | omega | (simp; omega))))
  have h1 := h.keep (Keeps.of_below hb1 hF)
  have HR := Lib.hid (scope_Uses g F a b off cap S _ h1 (fun k hk => by have := hF k hk; simp; omega) (hG.keep hb1 hG.2) hsz)
  clear h h1 hF hG hb1
  have hml := Mu.usesAll_length g
  have HML := Lib.hid hml
  clear hml
  go_enter Tryz.func20, Tryz.ntmps20
  go_wp2_with fail
  refine HR.out.mono ?_
  rintro e w2 ⟨hb2, ⟨er, v, hck, rfl, hv⟩ | ⟨hck, v, rfl, hrw⟩⟩
  · have hs2 := hb2.size
    simp at hs2
    have hv2 := hv.mono (B' := w.heap.size) (by simp)
    obtain ⟨vT, vV, rfl⟩ : ∃ T V, v = .iface T V := by
      match er, hv2 with
      | .no c, hv2 => exact ⟨_, _, hv2⟩
      | .at f, hv2 =>
        obtain ⟨p, _, h, _⟩ := hv2
        exact ⟨_, _, h⟩
    have HB2 := Lib.hid (Below.trans (by (repeat' (first | exact Below.refl _ _ | assumption | refine Below.drew ?_ | refine Below.drewN' ?_ _ | refine Below.setCell ?_ (by first | (simp; done) | omega | (simp; omega)) _ | refine Below.alloc ?_ (by first | (simp; done) | omega | (simp; omega)) _ | refine Below.step ?_ (by assumption) (by first | (simp; done) | omega | (simp; omega)))) : Below w.heap.size w (w.alloc (.cells #[.slice a g.length cap] 24))) (hb2.mono (by simp)))
    have HV := Lib.hid hv2
    have HCK := Lib.hid hck
    clear hb2 hv hv2 hck
    go_wp2_with fail
    go_ret2
    exact ⟨HB2.out.alloc (by omega) _, .inl ⟨er, _, HCK.out, rfl, HV.out.keep ((Below.refl _ _).alloc (Nat.le_refl _) _)⟩⟩
  · have hs2 := hb2.size
    simp at hs2
    have hl := check_len hck
    obtain ⟨a2, cap2, rfl⟩ := hrw.len
    have HB2 := Lib.hid (Below.trans (by (repeat' (first | exact Below.refl _ _ | assumption | refine Below.drew ?_ | refine Below.drewN' ?_ _ | refine Below.setCell ?_ (by first | (simp; done) | omega | (simp; omega)) _ | refine Below.alloc ?_ (by first | (simp; done) | omega | (simp; omega)) _ | refine Below.step ?_ (by assumption) (by first | (simp; done) | omega | (simp; omega)))) : Below w.heap.size w (w.alloc (.cells #[.slice a g.length cap] 24))) (hb2.mono (by simp)))
    have HCK := Lib.hid hck
    rw [HML.out] at hrw ⊢
    have HRW := Lib.hid hrw
    clear hb2 hck hrw
    by_cases h0 : i < 0
    · go_wp2_with fail
      go_ret2
      exact ⟨HB2.out.alloc (by omega) _, .inr (.inl ⟨HCK.out, .inl h0, rfl⟩)⟩
    · by_cases h1 : (g.length : Int) ≤ i
      · go_wp2_with fail
        go_ret2
        exact ⟨HB2.out.alloc (by omega) _, .inr (.inl ⟨HCK.out, .inr h1, rfl⟩)⟩
      · obtain ⟨j, rfl⟩ : ∃ j : Nat, i = j := ⟨i.toNat, by omega⟩
        have hj : j < g.length := by omega
        have hW : ∃ W, W = ((((w2.alloc (.cells #[.slice a2 g.length cap2] 51)).alloc (.map #[] 0)).alloc (.cells #[.map (some (w2.heap.size + 1))] 92)).alloc (.cells #[.func (.func 45) #[] #[.pointer (some ⟨w2.heap.size + 1 + 1, 0, none⟩), .pointer (some ⟨w2.heap.size, 0, none⟩), .pointer (some ⟨w2.heap.size + 1 + 1 + 1, 0, none⟩)]] 93)) := ⟨_, rfl⟩
        obtain ⟨W, hW⟩ := hW
        have hbW : Below w2.heap.size w2 W := by rw [hW]; (repeat' (first | exact Below.refl _ _ | assumption | refine Below.drew ?_ | refine Below.drewN' ?_ _ | refine Below.setCell ?_ (by first | (simp; done) | omega | (simp; omega)) _ | refine Below.alloc ?_ (by first | (simp; done) | omega | (simp; omega)) _ | refine Below.step ?_ (by assumption) (by first | (simp; done) | omega | (simp; omega))))
        have hWs : W.heap.size = w2.heap.size + 1 + 1 + 1 + 1 := by rw [hW]; simp
        have hJ : RcJ (Mu.usesAll g) (fun k => w.heap.size + 1 ≤ k ∧ k < w2.heap.size) (w2.heap.size + 1 + 1) (w2.heap.size + 1) w2.heap.size (w2.heap.size + 1 + 1 + 1) (.slice a2 g.length cap2) [] W := by
          have hr0 := (HRW.out.allR (by rw [HML.out]; omega)).keep (w' := W) (fun q hq => hbW.block q hq.2)
          have hW3 : Below (w2.heap.size + 1 + 1 + 1) (((w2.alloc (.cells #[.slice a2 g.length cap2] 51)).alloc (.map #[] 0)).alloc (.cells #[.map (some (w2.heap.size + 1))] 92)) W := by rw [hW]; exact (Below.refl _ _).alloc (by simp) _
          have hW2 : Below (w2.heap.size + 1 + 1) ((w2.alloc (.cells #[.slice a2 g.length cap2] 51)).alloc (.map #[] 0)) W := by rw [hW]; exact ((Below.refl _ _).alloc (by simp) _).alloc (by simp) _
          have hW1 : Below (w2.heap.size + 1) (w2.alloc (.cells #[.slice a2 g.length cap2] 51)) W := by rw [hW]; exact (((Below.refl _ _).alloc (by simp) _).alloc (by simp) _).alloc (by simp) _
          have hsm := SeenMap.made (w2.alloc (.cells #[.slice a2 g.length cap2] 51))
          have e : (w2.alloc (.cells #[.slice a2 g.length cap2] 51)).heap.size = w2.heap.size + 1 := by simp
          rw [e] at hsm
          exact ⟨(hW3.block _ (by omega)).trans (new_at _ _ _ (by simp)), hsm.keep (hW2.block _ (by omega)), (hW1.block _ (by omega)).trans (new_at _ _ _ rfl), hr0.mono fun k hk => ⟨by have := hk.1; simp at this; omega, hk.2⟩, by rw [hW]; exact new_at _ _ _ (by simp)⟩
        have hg := Mu.good_uses g
        have hvc := visit_c (Mu.usesAll g) hg (by rw [HML.out]; omega) (fun k => w.heap.size + 1 ≤ k ∧ k < w2.heap.size) (w2.heap.size + 1 + 1) (w2.heap.size + 1) w2.heap.size (w2.heap.size + 1 + 1 + 1) (by omega) (by omega) (by omega) (fun h => by have := h.2; omega) (.slice a2 g.length cap2) ((Mu.usesAll g).length + 1) j [] W (by rw [HML.out]; exact hj) hJ (by simp) (by simp) (by simp) (fun q hq => by have := hq.2; omega)
        obtain ⟨v1, v2, v3⟩ := Mu.visit_all (Mu.usesAll g) hg ((Mu.usesAll g).length + 1) j [] (by rw [HML.out]; exact hj) (by simp) (by simp) (by simp)
        have hvl : ∀ x ∈ Mu.visitK (Mu.usesAll g) ((Mu.usesAll g).length + 1) j [], x < g.length := fun x hx => by have := v1.lt x hx; rw [HML.out] at this; exact this
        have hre : rowOf g.length (Mu.visitK (Mu.usesAll g) ((Mu.usesAll g).length + 1) j []) = Mu.reach (Mu.usesAll g) j := by
          unfold Mu.reach rowOf
          rw [HML.out]
        have hrl : (Mu.reach (Mu.usesAll g) j).length ≤ g.length := by
          have := List.length_filter_le (fun q => (Mu.visitK (Mu.usesAll g) ((Mu.usesAll g).length + 1) j []).contains q) (List.range (Mu.usesAll g).length)
          unfold Mu.reach
          rw [HML.out] at this ⊢
          simpa using this
        rw [hW] at hvc
        have HVC := Lib.hid hvc
        have HVL := Lib.hid hvl
        have HRE := Lib.hid hre
        have HRL := Lib.hid hrl
        have HBW := Lib.hid (HB2.out.trans (hbW.mono (by omega)))
        rw [hW] at HBW
        clear hW hbW hWs hJ hg hvc v1 v2 v3 hvl hre hrl W
        generalize Mu.visitK (Mu.usesAll g) ((Mu.usesAll g).length + 1) j [] = vk at HVC HVL HRE
        go_wp2_with fail
        refine HVC.out.mono ?_
        rintro e w7 ⟨rfl, hJ7, hC7⟩
        have hs7 := hC7.size
        simp at hs7
        have hb7 : Below w.heap.size w w7 := HBW.out.trans (hC7.below (fun q hq => by omega) (by simp; omega))
        have HB7 := Lib.hid hb7
        have v5 : w7.cell? ⟨w2.heap.size + 1 + 1, 0, none⟩ = some (.map (some (w2.heap.size + 1))) := cell_at hJ7.var 0
        have hsn := hJ7.seen
        have HSN := Lib.hid hsn
        clear hb7 hC7 hJ7 hsn HVC
        go_wp2_with fail
        refine (keys_c _ _).mono ?_
        rintro e w8 ⟨rfl, rfl⟩
        have hso := sorted_c w7.heap.size (w2.heap.size + 1) g.length _ HVL.out (w7.alloc (.cells #[.map (some (w2.heap.size + 1))] 92)) (by simp) (by simp) (HSN.out.keep (Below.heap_alloc _ _ _ HSN.out.lt))
        have HSO := Lib.hid hso
        clear hso
        go_wp2_with fail
        refine HSO.out.mono ?_
        rintro e w9 ⟨x, rfl, hrow, hb9⟩
        rw [HRE.out] at hrow
        have hs9 := hb9.size
        simp at hs9
        have HROW := Lib.hid (IRow.of_own (by have := HRL.out; omega) hrow)
        have HB9 := Lib.hid (HB7.out.trans (Below.trans ((Below.refl _ _).alloc (by omega) _) (hb9.mono (by simp; omega))))
        clear hrow hb9
        go_wp2_with fail
        go_ret2
        exact ⟨HB9.out, .inr (.inr ⟨j, x, HCK.out, rfl, hj, rfl, HROW.out.mono fun k hk => ⟨by have := hk.1; simp at this; omega, hk.2⟩⟩)⟩

end Go.Proofs.YtdmhjnnogcpccaaGreatDoor
end
