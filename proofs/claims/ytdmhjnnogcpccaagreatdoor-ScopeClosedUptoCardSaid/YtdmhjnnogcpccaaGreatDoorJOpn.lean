/- What a grammar and a tree that came in are: out of the reading of the arguments. -/
import Derived.Test.YtdmhjnnogcpccaaGreatDoorRows
import Derived.Test.YtdmhjnnogcpccaaGreatDoorJWan
import Derived.Test.YtdmhjnnogcpccaaGreatDoorJPre
import Derived.OpenShut
import Derived.Deep.Slices
namespace Go.Proofs.YtdmhjnnogcpccaaGreatDoor
open Go.RowKit
open Mu (Cl Bs Nd Ru Gr Tk)
set_option linter.unusedSimpArgs false
set_option linter.unusedVariables false

/-! ### how much a reading holds -/
theorem bulk_one {H : Type} (d : DataW H) : 1 ≤ Rows.uptoBulk d := by
  cases d with
  | lit l => cases l <;> simp [Rows.uptoBulk]
  | nil => simp [Rows.uptoBulk]
  | ptr d => simp [Rows.uptoBulk]
  | slice elems spare => simp [Rows.uptoBulk]
  | agg parts => simp [Rows.uptoBulk]
  | iface t d => simp [Rows.uptoBulk]
  | map entries => simp [Rows.uptoBulk]
  | held h => simp [Rows.uptoBulk]

theorem bulk_part {H : Type} {d : DataW H} : ∀ {l : List (DataW H)}, d ∈ l → Rows.uptoBulk d ≤ Rows.uptoBulkAll l
  | x :: r, h => by
    simp only [Rows.uptoBulkAll]
    rcases List.mem_cons.1 h with rfl | h
    · omega
    · have := bulk_part h
      omega

theorem bulk_length {H : Type} : ∀ (l : List (DataW H)), l.length ≤ Rows.uptoBulkAll l
  | [] => by simp
  | x :: r => by
    have := bulk_one x
    have := bulk_length r
    simp only [Rows.uptoBulkAll, List.length_cons]
    omega

theorem bulk_szs {α H : Type} (sz : α → Nat) : ∀ (elems : List (DataW H × List MemPlace)) (f : Nat → α), (∀ i (h : i < elems.length), sz (f i) ≤ Rows.uptoBulk elems[i].1) → ((List.range elems.length).map fun i => sz (f i)).sum ≤ Rows.uptoBulkAll (elems.map (·.1))
  | [], f, _ => by simp
  | e :: r, f, h => by
    have h0 := h 0 (by simp)
    have hr := bulk_szs sz r (fun i => f (i + 1)) (fun i hi => by have := h (i + 1) (by simp; omega); simpa using this)
    simp only [List.length_cons, List.range_succ_eq_map, List.map_cons, List.map_map, List.sum_cons, Rows.uptoBulkAll]
    simp at h0
    have e2 : (List.map ((fun i => sz (f i)) ∘ Nat.succ) (List.range r.length)).sum = ((List.range r.length).map fun i => sz (f (i + 1))).sum := rfl
    rw [e2]
    omega

theorem szs_sum : ∀ l : List Nd, Mu.szs l = (l.map Mu.sz).sum
  | [] => by simp [Mu.szs]
  | n :: l => by simp [Mu.szs, szs_sum l]
theorem szg_sum : ∀ g : Gr, szg g = (g.map fun r => Mu.sz r.body + 1).sum
  | [] => by simp [szg]
  | r :: g => by simp [szg, szg_sum g]

theorem addr_add (b off j : Nat) : (⟨b, off, none⟩ : Addr).add j = ⟨b, off + j, none⟩ := by unfold Addr.add; split <;> simp_all

theorem Tryz.cells30 : Tryz.prog.cellsOf 30 = 8 := by kernel_rfl
theorem Tryz.cells60 : Tryz.prog.cellsOf 60 = 10 := by kernel_rfl
theorem Tryz.cells27 : Tryz.prog.cellsOf 27 = 4 := by kernel_rfl
theorem Tryz.cells3 : Tryz.prog.cellsOf 3 = 1 := by kernel_rfl
theorem Tryz.cells9 : Tryz.prog.cellsOf 9 = 1 := by kernel_rfl
theorem Tryz.cells25 : Tryz.prog.cellsOf 25 = 1 := by kernel_rfl
theorem Tryz.cells28 : Tryz.prog.cellsOf 28 = 1 := by kernel_rfl
theorem Tryz.cells22 : Tryz.prog.cellsOf 22 = 1 := by kernel_rfl
theorem Tryz.cells24 : Tryz.prog.cellsOf 24 = 1 := by kernel_rfl

section
variable {H : Type} {enc : TypeId × Value → H} {W : World} {spare : Nat → Bool} {held : Bool}

set_option maxRecDepth 100000 in
theorem read_u64 {fuel : Nat} {cs : List Value} {x : DataW H × List MemPlace} (h : DataW.trod enc Tryz.prog W 0 spare held fuel 25 cs = some x) : ∃ b : BitVec 64, cs = [.int .u64 (b.toNat : Int)] := by
  obtain ⟨n, rfl, _, hw⟩ := DataW.trod_int Tryz.underlying25 h
  have h2 : 0 ≤ n ∧ n ≤ 18446744073709551615 := by simpa [Lit.wf, IntKind.min, IntKind.max, IntKind.signed, IntKind.bits] using hw
  refine ⟨BitVec.ofNat 64 n.toNat, ?_⟩
  have : ((BitVec.ofNat 64 n.toNat).toNat : Int) = n := by
    rw [BitVec.toNat_ofNat, Nat.mod_eq_of_lt (by omega)]
    omega
  rw [this]

set_option maxRecDepth 100000 in
theorem read_class {fuel : Nat} {cs : List Value} {x : DataW H × List MemPlace} (h : DataW.trod enc Tryz.prog W 0 spare held fuel 27 cs = some x) : ∃ c : Cl, cs = [.int .u64 (c.a.toNat : Int), .int .u64 (c.b.toNat : Int), .int .u64 (c.c.toNat : Int), .int .u64 (c.d.toNat : Int)] := by
  obtain ⟨xs, m, _, _, hl, hx, hi⟩ := DataW.trod_array Tryz.underlying27 h
  rw [Tryz.cells27] at hl
  match cs, hl with
  | [c0, c1, c2, c3], _ =>
    match xs, hx with
    | [x0, x1, x2, x3], _ =>
      have h0 := hi 0 (by omega)
      have h1 := hi 1 (by omega)
      have h2 := hi 2 (by omega)
      have h3 := hi 3 (by omega)
      simp [Tryz.cells25] at h0 h1 h2 h3
      obtain ⟨a, ha⟩ := read_u64 h0
      obtain ⟨b, hb⟩ := read_u64 h1
      obtain ⟨c, hc⟩ := read_u64 h2
      obtain ⟨d, hd⟩ := read_u64 h3
      refine ⟨⟨a, b, c, d⟩, ?_⟩
      simp at ha hb hc hd
      simp [ha, hb, hc, hd]

/-- the elements of a slice as they lie in memory -/
theorem read_elems {α : Type} [Inhabited α] (m : Nat) (hm : 0 < m) {t : TypeId} (ht : Tryz.prog.cellsOf t = m) (R : Value → α → DataW H → Prop) {k len : Nat} {a : Addr} {elems : List (DataW H × List MemPlace)} (hlen : elems.length = len)
    (hel : ∀ i, i < len → (W.cells? 0 (a.add (i * m)) m).bind (DataW.trod enc Tryz.prog W 0 spare held k t) = elems[i]?)
    (hR : ∀ i (h : i < elems.length) cs, DataW.trod enc Tryz.prog W 0 spare held k t cs = some elems[i] → cs.length = m → ∃ n, R (.agg cs.toArray) n elems[i].1) :
    ∃ (b off : Nat) (f : Nat → α) (C : Nat → Value), (len = 0 ∨ a = ⟨b, off, none⟩) ∧ (0 < len → b < W.heap.size) ∧ ∀ i (h : i < elems.length), R (C i) (f i) elems[i].1 ∧ ∀ j, j < m → W.cell? ⟨b, off + i * m + j, none⟩ = (C i).cells[j]? := by
  have hone : ∀ i (h : i < elems.length), ∃ cs, W.cells? 0 (a.add (i * m)) m = some cs ∧ ∃ n, R (.agg cs.toArray) n elems[i].1 := fun i h => by
    have h1 := hel i (by omega)
    rw [List.getElem?_eq_getElem h] at h1
    obtain ⟨cs, h2, h3⟩ := Option.bind_eq_some_iff.1 h1
    obtain ⟨_, h4, _⟩ := World.cells?_some h2
    exact ⟨cs, h2, hR i h cs h3 h4⟩
  rcases Nat.eq_zero_or_pos len with h0 | h0
  · exact ⟨0, 0, fun _ => default, fun _ => .nilIface, .inl h0, fun h => by omega, fun i h => by omega⟩
  · obtain ⟨b, off, spot⟩ := a
    obtain rfl : spot = none := by
      obtain ⟨cs, h1, _⟩ := hone 0 (by omega)
      obtain ⟨_, h2, h3⟩ := World.cells?_some h1
      have h4 := h3 0 hm
      rw [List.getElem?_eq_getElem (by omega)] at h4
      have := World.cell?_spot h4
      simpa [Addr.add] using this
    have hch : ∀ i, i < elems.length → ∃ p : α × Value, ∃ (h : i < elems.length), R p.2 p.1 elems[i].1 ∧ ∀ j, j < m → W.cell? ⟨b, off + i * m + j, none⟩ = p.2.cells[j]? := fun i h => by
      obtain ⟨cs, h1, n, hn⟩ := hone i h
      obtain ⟨_, h2, h3⟩ := World.cells?_some h1
      refine ⟨(n, .agg cs.toArray), h, hn, fun j hj => ?_⟩
      have h4 := h3 j hj
      rw [addr_add, addr_add] at h4
      rw [h4]
      simp [Value.cells]
    have hlt : b < W.heap.size := by
      obtain ⟨p, hi, _, hc⟩ := hch 0 (by omega)
      obtain ⟨cs, h1, _⟩ := hone 0 (by omega)
      obtain ⟨_, h2, h3⟩ := World.cells?_some h1
      have h4 := h3 0 hm
      rw [addr_add, addr_add, List.getElem?_eq_getElem (by omega)] at h4
      rcases Nat.lt_or_ge b W.heap.size with h | h
      · exact h
      · simp [World.cell?, Array.getElem?_eq_none h] at h4
    refine ⟨b, off, fun i => if h : i < elems.length then (hch i h).choose.1 else default, fun i => if h : i < elems.length then (hch i h).choose.2 else .nilIface, .inr rfl, fun _ => hlt, fun i h => ?_⟩
    obtain ⟨_, h1, h2⟩ := (hch i h).choose_spec
    simp only [dif_pos h]
    exact ⟨h1, h2⟩

set_option maxRecDepth 100000 in
theorem read_node : ∀ (fuel : Nat) (cs : List Value) (x : DataW H × List MemPlace), DataW.trod enc Tryz.prog W 0 spare held fuel 30 cs = some x → Rows.uptoBulk x.1 ≤ 1048576 →
    ∃ n : Nd, RN W (fun k => k < W.heap.size) (.agg cs.toArray) n ∧ Mu.sz n ≤ Rows.uptoBulk x.1 := by
  intro fuel
  induction fuel using Nat.strongRecOn with
  | _ fuel ih =>
    intro cs x h hb
    obtain ⟨xs, m, hf, rfl, hl, hx, hi⟩ := DataW.trod_struct Tryz.underlying30 h
    rw [Tryz.cells30] at hl
    match cs, hl with
    | [c0, c1, c2, c3, c4, c5, c6, c7], _ =>
      match xs, hx with
      | [x0, x1, x2, x3, x4], _ =>
        have h0 := hi 0 _ rfl
        have h1 := hi 1 _ rfl
        have h2 := hi 2 _ rfl
        have h3 := hi 3 _ rfl
        have h4 := hi 4 _ rfl
        simp [Tryz.cells3, Tryz.cells9, Tryz.cells27, Tryz.cells28] at h0 h1 h2 h3 h4
        obtain ⟨k, hk, _, _⟩ := DataW.trod_int Tryz.underlying3 h0
        obtain ⟨s, hs, hs1, _⟩ := DataW.trod_string Tryz.underlying9 h1
        obtain ⟨c, hc⟩ := read_class h2
        obtain ⟨p, hp, _, _⟩ := DataW.trod_int Tryz.underlying3 h4
        simp at hk hs hc hp
        obtain ⟨rfl⟩ := hk
        obtain ⟨rfl⟩ := hs
        obtain ⟨rfl, rfl, rfl, rfl⟩ := hc
        obtain ⟨rfl⟩ := hp
        simp only [Rows.uptoBulk, Rows.uptoBulkAll, List.map_cons, List.map_nil] at hb ⊢
        have hsl : s.data.toList.length ≤ 1048576 := by
          have : Rows.uptoBulk x1.1 = s.data.toList.length + 1 := by rw [hs1]; simp [Rows.uptoBulk]
          omega
        have hba : s = ba s.data.toList := by simp [ba]
        rcases DataW.trod_slice Tryz.underlying28 h3 with ⟨hcs, hx3⟩ | ⟨a, len, cap, elems, rest, q, hq, hcs, hx3, _, _, _, hlen, hel, _, _⟩
        · simp at hcs
          obtain rfl := hcs
          refine ⟨.mk k s.data.toList c [] p, ?_, ?_⟩
          · rw [hba]
            exact RN.mk k s.data.toList c p none 0 0 0 0 [] (fun _ => .nilIface) rfl (.inl rfl) (fun h => by omega) (by unfold maxSubs; omega) (by omega) (fun i hi => by omega) (fun i hi => by simp at hi)
          · simp [Mu.sz, Mu.szs]
        · simp at hcs
          obtain rfl := hcs
          have hx3b : Rows.uptoBulk x3.1 = Rows.uptoBulkAll (elems.map (·.1)) + Rows.uptoBulkAll (rest.map (·.1)) + 1 := by rw [hx3]; simp [Rows.uptoBulk]
          rw [Tryz.cells30] at hel
          obtain ⟨b, off, f, C, ha, hF, hC⟩ := read_elems (α := Nd) 8 (by omega) Tryz.cells30 (fun v n d => RN W (fun k => k < W.heap.size) v n ∧ Mu.sz n ≤ Rows.uptoBulk d) hlen hel (fun i hi cs h _ => by
            have hm : elems[i].1 ∈ elems.map (·.1) := List.mem_map.2 ⟨_, List.getElem_mem hi, rfl⟩
            have := bulk_part hm
            exact ih q (by omega) cs _ h (by omega))
          have hsum := bulk_szs Mu.sz elems f (fun i hi => (hC i hi).1.2)
          have hll := bulk_length (elems.map (·.1))
          simp at hll
          refine ⟨.mk k s.data.toList c ((List.range len).map f) p, ?_, ?_⟩
          · rw [hba]
            refine RN.mk k s.data.toList c p (some a) b off len cap ((List.range len).map f) C (by simp) (ha.imp id fun h => by rw [h]) hF (by unfold maxSubs; omega) (by omega) (fun i hi j hj => (hC i (by omega)).2 j hj) (fun i hi => ?_)
            have : i < elems.length := by simp at hi; omega
            simpa using (hC i this).1.1
          · simp only [Mu.sz]
            rw [szs_sum, List.map_map, ← hlen]
            have : (List.map (Mu.sz ∘ f) (List.range elems.length)).sum = ((List.range elems.length).map fun i => Mu.sz (f i)).sum := rfl
            rw [this]
            omega

set_option maxRecDepth 100000 in
theorem read_rule (fuel : Nat) (cs : List Value) (x : DataW H × List MemPlace) (h : DataW.trod enc Tryz.prog W 0 spare held fuel 60 cs = some x) (hb : Rows.uptoBulk x.1 ≤ 1048576) :
    ∃ (p : Ru × Value), .agg cs.toArray = ruOf p.1 p.2 ∧ p.1.name.length ≤ 1048576 ∧ RN W (fun k => k < W.heap.size) (ndv p.1.body.kind p.1.body.text p.1.body.cls p.2 p.1.body.place) p.1.body ∧ Mu.sz p.1.body + 1 ≤ Rows.uptoBulk x.1 := by
  obtain ⟨xs, m, hf, rfl, hl, hx, hi⟩ := DataW.trod_struct Tryz.underlying60 h
  rw [Tryz.cells60] at hl
  match cs, hl with
  | [c0, c1, c2, c3, c4, c5, c6, c7, c8, c9], _ =>
    match xs, hx with
    | [x0, x1, x2], _ =>
      have h0 := hi 0 _ rfl
      have h1 := hi 1 _ rfl
      have h2 := hi 2 _ rfl
      simp [Tryz.cells3, Tryz.cells9, Tryz.cells30] at h0 h1 h2
      obtain ⟨s, hs, hs1, _⟩ := DataW.trod_string Tryz.underlying9 h0
      obtain ⟨q, hq, _, _⟩ := DataW.trod_int Tryz.underlying3 h2
      simp at hs hq
      obtain ⟨rfl⟩ := hs
      obtain ⟨rfl⟩ := hq
      simp only [Rows.uptoBulk, Rows.uptoBulkAll, List.map_cons, List.map_nil] at hb ⊢
      have hsl : s.data.toList.length ≤ 1048576 := by
        have : Rows.uptoBulk x0.1 = s.data.toList.length + 1 := by rw [hs1]; simp [Rows.uptoBulk]
        omega
      have hba : s = ba s.data.toList := by simp [ba]
      obtain ⟨n, hn, hsz⟩ := read_node m _ _ h1 (by omega)
      obtain ⟨a, b, off, cap, C, hv, _, _⟩ := hn.open
      have hn2 := hn
      rw [hv] at hn2
      simp only [ndv, Value.agg.injEq, List.toArray_inj, Array.mk.injEq, List.cons.injEq] at hv
      simp at hv
      obtain ⟨rfl, rfl, rfl, rfl, rfl, rfl, rfl, rfl⟩ := hv
      refine ⟨(⟨s.data.toList, n, q⟩, .slice a n.subs.length cap), rfl, hsl, hn2, by show Mu.sz n + 1 ≤ _; omega⟩

set_option maxRecDepth 100000 in
theorem read_rules (fuel : Nat) (cs : List Value) (x : DataW H × List MemPlace) (h : DataW.trod enc Tryz.prog W 0 spare held fuel 22 cs = some x) (hb : Rows.uptoBulk x.1 ≤ 1048576) :
    ∃ (a : Option Addr) (b off cap : Nat) (g : Gr) (S : Nat → Value), cs = [.slice a g.length cap] ∧ RRs W (fun k => k < W.heap.size) a b off g S ∧ szg g ≤ Rows.uptoBulk x.1 ∧ g.length ≤ 1048576 := by
  rcases DataW.trod_slice Tryz.underlying22 h with ⟨rfl, rfl⟩ | ⟨a, len, cap, elems, rest, q, hq, rfl, rfl, _, _, _, hlen, hel, _, _⟩
  · exact ⟨none, 0, 0, 0, [], fun _ => .nilIface, rfl, ⟨.inl rfl, fun h => by simp at h, by simp [maxRus], fun i h => by simp at h, fun i h => by simp at h, fun i h => by simp at h⟩, by simp [szg], by simp⟩
  · have hxb : Rows.uptoBulk (DataW.slice (elems.map (·.1)) (rest.map (·.1))) = Rows.uptoBulkAll (elems.map (·.1)) + Rows.uptoBulkAll (rest.map (·.1)) + 1 := by simp [Rows.uptoBulk]
    simp only [] at hb ⊢
    rw [hxb] at hb ⊢
    rw [Tryz.cells60] at hel
    obtain ⟨b, off, f, C, ha, hF, hC⟩ := read_elems (α := Ru × Value) 10 (by omega) Tryz.cells60 (fun v p d => v = ruOf p.1 p.2 ∧ p.1.name.length ≤ 1048576 ∧ RN W (fun k => k < W.heap.size) (ndv p.1.body.kind p.1.body.text p.1.body.cls p.2 p.1.body.place) p.1.body ∧ Mu.sz p.1.body + 1 ≤ Rows.uptoBulk d) hlen hel (fun i hi cs h _ => by
      have hm : elems[i].1 ∈ elems.map (·.1) := List.mem_map.2 ⟨_, List.getElem_mem hi, rfl⟩
      have := bulk_part hm
      exact read_rule q cs _ h (by omega))
    have hsum := bulk_szs (fun p : Ru × Value => Mu.sz p.1.body + 1) elems f (fun i hi => (hC i hi).1.2.2.2)
    have hll := bulk_length (elems.map (·.1))
    simp at hll
    have hgl : ((List.range len).map fun i => (f i).1).length = len := by simp
    refine ⟨some a, b, off, cap, (List.range len).map fun i => (f i).1, fun i => (f i).2, by rw [hgl], ⟨by rw [hgl]; exact ha.imp id fun h => by rw [h], by rw [hgl]; exact hF, by rw [hgl]; unfold maxRus; omega, fun i hi => ?_, fun i hi j hj => ?_, fun i hi => ?_⟩, ?_, by rw [hgl]; omega⟩
    · have hi2 : i < elems.length := by rw [hgl] at hi; omega
      have := (hC i hi2).1.2.1
      simp
      omega
    · have hi2 : i < elems.length := by rw [hgl] at hi; omega
      rw [(hC i hi2).2 j hj, (hC i hi2).1.1]
      simp
    · have hi2 : i < elems.length := by rw [hgl] at hi; omega
      simpa using (hC i hi2).1.2.2.1
    · rw [szg_sum, List.map_map, ← hlen]
      have : (List.map ((fun r : Ru => Mu.sz r.body + 1) ∘ fun i => (f i).1) (List.range elems.length)).sum = ((List.range elems.length).map fun i => Mu.sz (f i).1.body + 1).sum := rfl
      rw [this]
      omega

end
end Go.Proofs.YtdmhjnnogcpccaaGreatDoor
