/- strings.Builder, alone or as the one field of a page: what its methods do to it, and what they leave of the rest of memory. -/
import Derived.Test.YtdmhjnnogcpccaaGreatDoorJBas
import Derived.Lib.Builder
import Derived.Lib.FrozenHead
import Derived.Lib.FrozenHead2
import Derived.Lib.OthersKept
import Derived.Lib.UnsafeStr
namespace Go.Proofs.YtdmhjnnogcpccaaGreatDoor
open Go.RowKit
open Mu (Cl Bs Nd Ru Gr Tk)
set_option linter.unusedSimpArgs false
set_option linter.unusedVariables false

/-- a type laid out as a Builder: itself, or a struct of one -/
structure BT (T : TypeId) : Prop where
  ne : T ≠ 5
  lies : liesAt Tryz.prog Tryz.prog.depth T (2 / Tryz.prog.cellsOf T) 0 155 1 = true

theorem bt_builder : BT 155 := ⟨by decide, by kernel_rfl⟩
theorem bt_page : BT 157 := ⟨by decide, by kernel_rfl⟩

theorem sizeBuilder : (Tryz.prog.info? 155).map (fun i => i.size) = some 2 := by kernel_rfl
theorem cellsByte : Tryz.prog.cellsOf 5 = 1 := by kernel_rfl
theorem infoByte : (Tryz.prog.info? 5).map (fun i => (i.zero, i.size, i.bytes)) = some (some (.int .u8 0), 1, 1) := by kernel_rfl

/-- block b is a Builder (or a page) that holds these bytes; its buffer was made behind it -/
def Bld (T b : Nat) (l : Bs) (w : World) : Prop := Lib.IsBuilderF T 5 b b (Lib.byteCells l) w

/-- what a writer on block b leaves of the rest -/
structure Wr (b : Nat) (w w' : World) : Prop where
  below : Below b w w'
  others : Lib.OthersKept 5 (some b) w w'

theorem Wr.refl (b : Nat) (w : World) : Wr b w w := ⟨Below.refl _ _, Lib.OthersKept.refl _ _ _⟩
theorem Wr.trans {b : Nat} {w w1 w2 : World} (h : Wr b w w1) (k : Wr b w1 w2) : Wr b w w2 := ⟨h.below.trans k.below, h.others.trans k.others⟩
theorem Wr.size {b : Nat} {w w1 : World} (h : Wr b w w1) : w.heap.size ≤ w1.heap.size := h.below.size

/-- a call that only makes new blocks leaves a builder's rest alone -/
theorem Wr.of_below {b : Nat} {w w1 : World} (h : Below w.heap.size w w1) (hb : b ≤ w.heap.size) : Wr b w w1 :=
  ⟨h.mono hb, fun k o hk _ _ => (h.block k (lt_of_block hk)).trans hk⟩

theorem Wr.keep {b : Nat} {w w1 : World} (h : Wr b w w1) {k : Nat} {o : Obj} (hk : w.heap[k]? = some o) (hb : k ≠ b) (ho : ∀ c fz, o ≠ .cells c 5 fz) : w1.heap[k]? = some o :=
  h.others k o hk (by simpa using hb) ho

theorem Bld.lt {T b : Nat} {l : Bs} {w : World} (h : Bld T b l w) : b < w.heap.size := by
  rcases h with h | h
  · exact h.lt
  · exact h.lt

theorem Bld.fresh (T : TypeId) (w : World) : Bld T w.heap.size [] (w.alloc (.cells #[.pointer none, .slice none 0 0] T)) :=
  Lib.IsBuilderF.of (Lib.fresh_isBuilder T 5 w)

/-- a builder stays while new blocks are made -/
theorem Bld.keep {T b : Nat} {l : Bs} {w w1 : World} (h : Bld T b l w) (hb : Below w.heap.size w w1) : Bld T b l w1 := by
  have step : ∀ p, Lib.BuilderAtF T 5 b b p (Lib.byteCells l) w → Lib.BuilderAtF T 5 b b p (Lib.byteCells l) w1 := by
    intro p hp
    obtain ⟨h0, v, h1, h2, h3⟩ := hp
    refine ⟨h0, v, by rw [hb.block _ (lt_of_block h1)]; exact h1, ?_, h3⟩
    exact h2.kept (row := none) ⟨hb.os, hb.tape, hb.output, hb.size, fun k hk _ => hb.block k hk⟩ (by rcases h2.2 with ⟨rfl, _⟩ | ⟨g, cap, cur, fz, rfl, _⟩ <;> simp [Value.ownBlock])
  rcases h with h | h
  · exact .inl (step _ h)
  · exact .inr (step _ h)

set_option maxHeartbeats 1000000 in
set_option maxRecDepth 100000 in
theorem copyCheck_used (b : Nat) (w : World) (h0 : w.cell? ⟨b, 0, none⟩ = some (.pointer (some ⟨b, 0, none⟩))) :
    Calls Tryz.prog 118 #[.pointer (some ⟨b, 0, none⟩)] w fun e w' => e = .returned (.tuple #[]) ∧ w' = w := by
  obtain ⟨j, hj, _⟩ := Option.map_eq_some_iff.1 sizeBuilder
  go_enter Tryz.func118, Tryz.ntmps118
  go_wp2
  rw [Lib.run_neq_ptr_same w _ Tryz.underlying153 hj]
  go_wp2
  go_end0
  exact ⟨rfl, rfl⟩

set_option maxHeartbeats 1000000 in
set_option maxRecDepth 100000 in
theorem copyCheck_fresh (T : TypeId) (hT : BT T) (b : Nat) (w : World) (h0 : w.cell? ⟨b, 0, none⟩ = some (.pointer none)) (hsh : w.shape? b = some (T, 2)) (hfz : w.frozen? ⟨b, 0, none⟩ = false) :
    Calls Tryz.prog 118 #[.pointer (some ⟨b, 0, none⟩)] w fun e w' => e = .returned (.tuple #[]) ∧ w' = w.setCell ⟨b, 0, none⟩ (.pointer (some ⟨b, 0, none⟩)) := by
  obtain ⟨j, hj, hjs⟩ := Option.map_eq_some_iff.1 sizeBuilder
  go_enter Tryz.func118, Tryz.ntmps118
  go_wp2
  rw [Lib.run_to_unsafe w ⟨b, 0, none⟩ Tryz.underlying153 Tryz.underlying128 hj (by rw [hjs]; decide) hsh (Nat.zero_lt_succ 1)]
  simp only [Result.andThen]
  rw [Oper.upon_value]
  go_wp2
  rw [run_callFunc_extern Tryz.func156 (by kernel_rfl) (by kernel_rfl) (by kernel_rfl) (e := Extern.AbiNoEscape.same) (by kernel_rfl)]
  rw [Lib.run_noEscape]
  simp only [Result.andThen]
  rw [Oper.upon_value]
  go_wp2
  rw [Lib.run_from_unsafe w ⟨b, 0, none⟩ Tryz.underlying128 Tryz.underlying153 hj hsh hT.lies]
  simp only [Result.andThen]
  rw [Oper.upon_value]
  go_wp2
  go_end0
  exact ⟨rfl, rfl⟩

/-- behind copyCheck the builder holds its own address -/
theorem copyCheck (T : TypeId) (hT : BT T) (b : Nat) (l : Bs) (w : World) (h : Bld T b l w) :
    Calls Tryz.prog 118 #[.pointer (some ⟨b, 0, none⟩)] w fun e w' => e = .returned (.tuple #[]) ∧ Lib.BuilderAtF T 5 b b (.pointer (some ⟨b, 0, none⟩)) (Lib.byteCells l) w' ∧ Wr b w w' := by
  rcases h with h | h
  · refine (copyCheck_fresh T hT b w h.cell0 h.shape h.frozen0).mono ?_
    rintro e w' ⟨rfl, rfl⟩
    exact ⟨rfl, h.used _, (Below.refl b w).setCell (p := ⟨b, 0, none⟩) h.1 _, (Lib.OthersKept.refl _ _ w).setCell ⟨b, 0, none⟩ rfl _⟩
  · refine (copyCheck_used b w h.cell0).mono ?_
    rintro e w' ⟨rfl, rfl⟩
    exact ⟨rfl, h, Wr.refl _ _⟩

set_option maxHeartbeats 2000000 in
set_option maxRecDepth 100000 in
theorem writeByte (T : TypeId) (hT : BT T) (b : Nat) (l : Bs) (c : UInt8) (w : World) (h : Bld T b l w) (hlen : l.length + 1 ≤ 140737488355328) :
    Calls Tryz.prog 90 #[.pointer (some ⟨b, 0, none⟩), .int .u8 c.toNat] w fun e w' => e = .returned .nilIface ∧ Bld T b (l ++ [c]) w' ∧ Wr b w w' := by
  obtain ⟨i0, hi, hz0, hz1, hz2⟩ := info_parts infoByte
  have hbw := h.lt
  go_enter Tryz.func90, Tryz.ntmps90
  go_wp2_with (go_at_call 118; refine (copyCheck T hT b l _ h).mono ?_)
  rintro e w1 ⟨rfl, h1, hw1⟩
  obtain ⟨hB, v, hbk, hown, hne⟩ := h1
  rw [Lib.byteCells_length] at hown
  have c0 : w1.cell? ⟨b, 0, none⟩ = some (.pointer (some ⟨b, 0, none⟩)) := by rw [Lib.cell_of_heap hbk]; rfl
  have c1 : w1.cell? ⟨b, 1, none⟩ = some v := by rw [Lib.cell_of_heap hbk]; rfl
  have HBK := Lib.hid hbk
  have HOWN := Lib.hid hown
  have HNE := Lib.hid hne
  have hsz := hw1.size
  have hlt : b < w1.heap.size := lt_of_block hbk
  clear hbk hown hne
  go_wp2_with (at_builtin; refine wpList_append_ownF _ rfl _ _ 121 rfl b 5 i0 (.int .u8 0) 1 1 Tryz.underlying121 hi hz0 hz1 hz2 rfl (by decide) _ _ _ rfl (HOWN.out.alloc _) ⟨w1.heap.size, 0, none⟩ 1 1 [.int .u8 c.toNat] rfl rfl ?c1 ?c2 ?c3 ?c4 ?c5 ?_)
  case c1 =>
    intro j u hj
    match j, hj with
    | 0, hj => simp at hj; subst hj; simp [Addr.add]
  case c2 => intro u hu; simp at hu; subst hu; rfl
  case c3 => unfold maxLen; omega
  case c4 => omega
  case c5 => simp; omega
  intro v' w2 hown' hgrow _
  have hb2 : w2.heap[b]? = some (.cells #[.pointer (some ⟨b, 0, none⟩), v] T (0, 0)) := by
    rw [hgrow.block b (by simp; omega) (fun e => HNE.out e.symm), Lib.alloc_old w1 _ b hlt]
    exact HBK.out
  have d0 : w2.cell? ⟨b, 0, none⟩ = some (.pointer (some ⟨b, 0, none⟩)) := by rw [Lib.cell_of_heap hb2]; rfl
  have d1 : w2.cell? ⟨b, 1, none⟩ = some v := by rw [Lib.cell_of_heap hb2]; rfl
  have f1 : w2.frozen? ⟨b, 1, none⟩ = false := Lib.frozen_of_heap hb2 1
  obtain ⟨g, cap, rfl⟩ : ∃ g cap, v' = .slice (some ⟨g, 0, none⟩) (l.length + 1) cap := by
    rcases hown'.2 with ⟨_, h0⟩ | ⟨g, cap, cur, fz, hv, _⟩
    · omega
    · exact ⟨g, cap, hv⟩
  have HG := Lib.hid hgrow
  have HO := Lib.hid hown'
  have HB2 := Lib.hid hb2
  clear hgrow hown' hb2
  go_wp2
  go_ret
  refine ⟨rfl, .inr ?_, ?_, ?_⟩
  · refine Lib.BuilderAtF.put (T := T) (e := 5) (Nat.le_refl b) HB2.out (bs' := Lib.byteCells (l ++ [c])) ?_ hT.ne
    have h9 := HO.out
    simp only [Lib.byteCells, List.map_append, List.length_append, List.length_map, List.map_cons, List.map_nil, List.length_cons, List.length_nil] at h9 ⊢
    simpa using h9
  · refine (hw1.below.trans ?_)
    exact (((Below.refl b w1).alloc (by omega) _).grown HG.out (by simp; omega) (fun k hk => (HOWN.out.lt k hk).1)).setCell (p := ⟨b, 1, none⟩) (Nat.le_refl b) _
  · exact (((hw1.others.alloc _).grown HG.out (Lib.ownsRowF_kind (HOWN.out.alloc _))).setCell ⟨b, 1, none⟩ rfl _)

set_option maxHeartbeats 2000000 in
set_option maxRecDepth 100000 in
theorem writeString (T : TypeId) (hT : BT T) (b : Nat) (l : Bs) (s : ByteArray) (w : World) (h : Bld T b l w) (hlen : l.length + s.size ≤ 140737488355328) :
    Calls Tryz.prog 88 #[.pointer (some ⟨b, 0, none⟩), .string s] w fun e w' => e = .returned (.tuple #[.int .i64 s.size, .nilIface]) ∧ Bld T b (l ++ s.data.toList) w' ∧ Wr b w w' := by
  obtain ⟨i0, hi, hz0, hz1, hz2⟩ := info_parts infoByte
  have hbw := h.lt
  go_enter Tryz.func88, Tryz.ntmps88
  go_wp2_with (go_at_call 118; refine (copyCheck T hT b l _ h).mono ?_)
  rintro e w1 ⟨rfl, h1, hw1⟩
  obtain ⟨hB, v, hbk, hown, hne⟩ := h1
  rw [Lib.byteCells_length] at hown
  have c0 : w1.cell? ⟨b, 0, none⟩ = some (.pointer (some ⟨b, 0, none⟩)) := by rw [Lib.cell_of_heap hbk]; rfl
  have c1 : w1.cell? ⟨b, 1, none⟩ = some v := by rw [Lib.cell_of_heap hbk]; rfl
  have HBK := Lib.hid hbk
  have HOWN := Lib.hid hown
  have HNE := Lib.hid hne
  have hsz := hw1.size
  have hlt : b < w1.heap.size := lt_of_block hbk
  clear hbk hown hne
  go_wp2_with (at_builtin; refine Lib.wpList_append_own_stringF _ rfl _ _ 121 9 rfl b 5 i0 Tryz.underlying121 Tryz.underlying9 hi hz0 hz1 hz2 _ _ _ rfl HOWN.out s rfl ?c3 ?c4 ?c5 ?_)
  case c3 => unfold maxLen; omega
  case c4 => omega
  case c5 => omega
  intro v' w2 hown' hgrow _
  have hb2 : w2.heap[b]? = some (.cells #[.pointer (some ⟨b, 0, none⟩), v] T (0, 0)) := by
    rw [hgrow.block b (by omega) (fun e => HNE.out e.symm)]
    exact HBK.out
  have d0 : w2.cell? ⟨b, 0, none⟩ = some (.pointer (some ⟨b, 0, none⟩)) := by rw [Lib.cell_of_heap hb2]; rfl
  have d1 : w2.cell? ⟨b, 1, none⟩ = some v := by rw [Lib.cell_of_heap hb2]; rfl
  have f1 : w2.frozen? ⟨b, 1, none⟩ = false := Lib.frozen_of_heap hb2 1
  obtain ⟨p, n, cap, rfl⟩ : ∃ p n cap, v' = .slice p n cap := by
    rcases hown'.2 with ⟨hv, _⟩ | ⟨g, cap, cur, fz, hv, _⟩
    · exact ⟨_, _, _, hv⟩
    · exact ⟨_, _, _, hv⟩
  have HG := Lib.hid hgrow
  have HO := Lib.hid hown'
  have HB2 := Lib.hid hb2
  clear hgrow hown' hb2
  go_wp2
  go_ret2
  refine ⟨rfl, .inr ?_, ?_, ?_⟩
  · refine Lib.BuilderAtF.put (T := T) (e := 5) (Nat.le_refl b) HB2.out (bs' := Lib.byteCells (l ++ s.data.toList)) ?_ hT.ne
    have h9 := HO.out
    have h10 : Lib.byteCells (l ++ s.data.toList) = Lib.byteCells l ++ Lib.strCells s := by simp [Lib.byteCells, Lib.strCells]
    have h11 : (Lib.byteCells (l ++ s.data.toList)).length = l.length + s.size := by
      simp [Lib.byteCells]
    rw [h11, h10]
    exact h9
  · refine (hw1.below.trans ?_)
    exact ((Below.refl b w1).grown HG.out (by omega) (fun k hk => (HOWN.out.lt k hk).1)).setCell (p := ⟨b, 1, none⟩) (Nat.le_refl b) _
  · exact (((hw1.others).grown HG.out (Lib.ownsRowF_kind HOWN.out)).setCell ⟨b, 1, none⟩ rfl _)

set_option maxHeartbeats 1000000 in
set_option maxRecDepth 100000 in
theorem builderLen (T : TypeId) (b : Nat) (l : Bs) (w : World) (h : Bld T b l w) :
    Calls Tryz.prog 123 #[.pointer (some ⟨b, 0, none⟩)] w fun e w' => e = .returned (.int .i64 l.length) ∧ w = w' := by
  obtain ⟨p, hB, v, hbk, hown, hne⟩ : ∃ p, Lib.BuilderAtF T 5 b b p (Lib.byteCells l) w := by
    rcases h with h | h
    · exact ⟨_, h⟩
    · exact ⟨_, h⟩
  have c1 : w.cell? ⟨b, 1, none⟩ = some v := by rw [Lib.cell_of_heap hbk]; rfl
  rw [Lib.byteCells_length] at hown
  rcases hown.2 with ⟨rfl, h0⟩ | ⟨g, cap, cur, fz, rfl, _⟩
  · clear hown hbk hne
    go_enter Tryz.func123, Tryz.ntmps123
    go_wp2
    go_ret
    refine ⟨?_, rfl⟩
    rw [h0]
    rfl
  · clear hown hbk hne
    go_enter Tryz.func123, Tryz.ntmps123
    go_wp2
    go_ret
    exact ⟨rfl, rfl⟩

set_option maxHeartbeats 1000000 in
set_option maxRecDepth 100000 in
/-- the string of a builder that holds at least one byte -/
theorem builderString (T : TypeId) (hT : BT T) (b : Nat) (l : Bs) (h0 : l ≠ []) (w : World) (h : Bld T b l w) :
    Calls Tryz.prog 92 #[.pointer (some ⟨b, 0, none⟩)] w fun e w' => e = .returned (.string ⟨l.toArray⟩) ∧ Bld T b l w' ∧ Wr b w w' := by
  obtain ⟨p, hp, hAt⟩ : ∃ p, (p = .pointer none ∨ p = .pointer (some ⟨b, 0, none⟩)) ∧ Lib.BuilderAtF T 5 b b p (Lib.byteCells l) w := by
    rcases h with h | h
    · exact ⟨_, .inl rfl, h⟩
    · exact ⟨_, .inr rfl, h⟩
  obtain ⟨hB, v, hbk, hown, hne⟩ := hAt
  have hl0 : l.length ≠ 0 := by simpa using h0
  rw [Lib.byteCells_length] at hown
  obtain ⟨g, cap, cur, fz, rfl, hbg, hg, hfz, hnc, hcm, hcs, htake⟩ : ∃ g cap cur fz, v = .slice (some ⟨g, 0, none⟩) l.length cap ∧ b ≤ g ∧ w.heap[g]? = some (.cells cur 5 fz) ∧ fz.2 ≤ l.length * 1 ∧ l.length ≤ cap ∧ cap ≤ maxLen ∧ cur.size = cap * 1 ∧ cur.toList.take (l.length * 1) = Lib.byteCells l := by
    rcases hown.2 with ⟨_, hz⟩ | ⟨g, cap, cur, fz, hv, r⟩
    · exact absurd hz hl0
    · exact ⟨g, cap, cur, fz, hv, r⟩
  have c1 : w.drew.cell? ⟨b, 1, none⟩ = some (.slice (some ⟨g, 0, none⟩) l.length cap) := by
    have : w.drew.heap[b]? = some (.cells #[p, .slice (some ⟨g, 0, none⟩) l.length cap] T (0, 0)) := hbk
    rw [Lib.cell_of_heap this]; rfl
  have hSD : (Builtin.unsafeSliceData_ #[121] 198 #[.slice (some ⟨g, 0, none⟩) l.length cap]).run Tryz.prog w.drew = .ok (.pointer (some ⟨g, 0, none⟩)) w.drew :=
    Lib.run_unsafeSliceData_row _ _ _ _ _ _ (by omega)
  have hUS : (Builtin.unsafeString_ #[198, 3] 9 #[.pointer (some ⟨g, 0, none⟩), .int .i64 l.length]).run Tryz.prog w.drew = .ok (.string ⟨l.toArray⟩) (w.drew.freeze ⟨g, 0, none⟩ l.length) := by
    refine Lib.run_unsafeString_row w.drew 198 3 9 5 Tryz.underlying198 cellsByte g cur.size (by have hg' : w.drew.heap[g]? = some (.cells cur 5 fz) := hg; simp [World.shape?, hg']) l h0 (by omega) (by unfold maxLen at hcm; omega) ?_
    intro j x hx
    have := hown.cells (g := g) rfl j (.int .u8 x.toNat) (by simp [Lib.byteCells, hx])
    exact this
  have hkeep : Lib.IsBuilderF T 5 b b (Lib.byteCells l) (w.drew.freeze ⟨g, 0, none⟩ l.length) := by
    have hA : Lib.BuilderAtF T 5 b b p (Lib.byteCells l) w.drew := ⟨hB, _, hbk, by rw [Lib.byteCells_length]; exact hown, hne⟩
    have hF := hA.froze (g := g) (cap := cap) (by rw [Lib.byteCells_length]; exact c1)
    rw [Lib.byteCells_length] at hF
    rcases hp with rfl | rfl
    · exact .inl hF
    · exact .inr hF
  go_enter Tryz.func92, Tryz.ntmps92
  go_wp2
  go_region
  all_goals (go_wp2; go_ret; exact ⟨rfl, hkeep, Lib.below_freeze (Below.drew (Below.refl b w)) (p := ⟨g, 0, none⟩) hbg _, ((Lib.OthersKept.refl _ _ w).drew).freeze ⟨g, 0, none⟩ _ ⟨cur, fz, hg⟩⟩)

end Go.Proofs.YtdmhjnnogcpccaaGreatDoor
