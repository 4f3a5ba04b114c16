/- Small facts that the walks of this claim share: words of 64 bits as the model's integers, worlds that only grow. The package class: what its functions hand back, for every class, byte and place. -/
import Derived.Test.YtdmhjnnogcpccaaGreatDoorProg
import Derived.Test.YtdmhjnnogcpccaaGreatDoorJMir
import Derived.WalkKit
import Derived.KernelRfl
import Derived.WalkSpells
import Derived.WalkLawsBesides
import Derived.ChangeAlike
import Derived.IntWalk
import Derived.Deep.QuietTactic
import Derived.BigQuiet
import Derived.Lib.Hide
import Derived.ChangeKeysEq
import Derived.WalkMore
section
namespace Go.Proofs.YtdmhjnnogcpccaaGreatDoor
open Go.RowKit
open Mu (Cl Bs Nd Ru Gr Tk)

/-- a class as the model's value -/
abbrev clv (c : Cl) : Value := .agg #[.int .u64 (c.a.toNat : Int), .int .u64 (c.b.toNat : Int), .int .u64 (c.c.toNat : Int), .int .u64 (c.d.toNat : Int)]

theorem wrap_u64 (n : Nat) (h : n < 2 ^ 64) : IntKind.u64.wrap (n : Int) = (n : Int) := by
  have : ((n : Int) % 2 ^ 64) = n := Int.emod_eq_of_lt (by omega) (by exact_mod_cast h)
  simpa [IntKind.wrap, IntKind.bits, IntKind.signed] using this

theorem bits_and (x y : BitVec 64) : bits .and .u64 (x.toNat : Int) (y.toNat : Int) = ((x &&& y).toNat : Int) := by
  have hx : BitVec.ofInt 64 (x.toNat : Int) = x := by simp
  have hy : BitVec.ofInt 64 (y.toNat : Int) = y := by simp
  show IntKind.u64.wrap ((BitVec.ofInt 64 (x.toNat : Int) &&& BitVec.ofInt 64 (y.toNat : Int)).toNat : Int) = _
  rw [hx, hy]
  exact wrap_u64 _ (x &&& y).isLt

theorem bits_or (x y : BitVec 64) : bits .or .u64 (x.toNat : Int) (y.toNat : Int) = ((x ||| y).toNat : Int) := by
  have hx : BitVec.ofInt 64 (x.toNat : Int) = x := by simp
  have hy : BitVec.ofInt 64 (y.toNat : Int) = y := by simp
  show IntKind.u64.wrap ((BitVec.ofInt 64 (x.toNat : Int) ||| BitVec.ofInt 64 (y.toNat : Int)).toNat : Int) = _
  rw [hx, hy]
  exact wrap_u64 _ (x ||| y).isLt

theorem bits_not (x : BitVec 64) : bits .xor .u64 IntKind.u64.max (x.toNat : Int) = ((~~~ x).toNat : Int) := by
  have hx : BitVec.ofInt 64 (x.toNat : Int) = x := by simp
  have hm : BitVec.ofInt 64 IntKind.u64.max = BitVec.allOnes 64 := by decide
  show IntKind.u64.wrap ((BitVec.ofInt 64 IntKind.u64.max ^^^ BitVec.ofInt 64 (x.toNat : Int)).toNat : Int) = _
  rw [hx, hm, BitVec.allOnes_xor]
  exact wrap_u64 _ (~~~ x).isLt

theorem bits_bit (x : BitVec 64) (k : Nat) : (bits .and .u64 ((x.toNat : Int) / 2 ^ k) 1 != 0) = x.getLsbD k := by
  have h1 : ((x.toNat : Int) / 2 ^ k) = ((x >>> k).toNat : Int) := by
    simp [BitVec.toNat_ushiftRight, Nat.shiftRight_eq_div_pow]
  have h2 : (1 : Int) = ((1#64).toNat : Int) := by decide
  rw [h1, h2, bits_and]
  have h3 : x.getLsbD k = (x >>> k).getLsbD 0 := by simp
  rw [h3]
  generalize x >>> k = y
  have h4 : (y &&& 1#64).toNat = y.toNat % 2 := by simp [BitVec.toNat_and, Nat.and_one_is_mod]
  rw [h4, BitVec.getLsbD, Nat.testBit_zero, bne, Bool.eq_iff_iff]
  simp
  omega

/-- what a call that makes memory leaves of the world: each old cell, and each old mark -/
theorem bcell {W w1 : World} (hb : Below W.heap.size W w1) : (∀ b o, b < W.heap.size → w1.cell? ⟨b, o, none⟩ = W.cell? ⟨b, o, none⟩) ∧ (∀ b o, b < W.heap.size → w1.frozen? ⟨b, o, none⟩ = W.frozen? ⟨b, o, none⟩) :=
  ⟨fun b o h => hb.cell (p := ⟨b, o, none⟩) h, fun b o h => hb.frozen (p := ⟨b, o, none⟩) h⟩

theorem _root_.Go.RowKit.Below.step {B : Nat} {w W w1 : World} (h : Below B w W) (hb : Below W.heap.size W w1) (hB : B ≤ W.heap.size) : Below B w w1 := h.trans (hb.mono hB)

theorem cell_at {w : World} {b : Nat} {cs : Array Value} {t : TypeId} {fr : Nat × Nat} (h : w.heap[b]? = some (.cells cs t fr)) (o : Nat) : w.cell? ⟨b, o, none⟩ = cs[o]? := by
  simp [World.cell?, h]

theorem unfrozen_at {w : World} {b : Nat} {cs : Array Value} {t : TypeId} (h : w.heap[b]? = some (.cells cs t)) (o : Nat) : w.frozen? ⟨b, o, none⟩ = false := by
  simp [World.frozen?, h]

theorem lt_of_block {w : World} {b : Nat} {o : Obj} (h : w.heap[b]? = some o) : b < w.heap.size := by
  rcases Nat.lt_or_ge b w.heap.size with h1 | h1
  · exact h1
  · simp [Array.getElem?_eq_none h1] at h

theorem last_block (w : World) (o : Obj) : (w.alloc o).heap[w.heap.size]? = some o := by
  show (w.heap.push o)[w.heap.size]? = _
  simp

/-- what was there stays, but for one block -/
theorem grown_alloc {w w' : World} {o : Obj} {row : Option Nat} (h : (w.alloc o).grownBy w' row) : w.grownBy w' row :=
  ⟨h.os, h.tape, h.output, Nat.le_trans (by simp) h.size, fun k hk hr => (h.block k (by simp; omega) hr).trans (Below.heap_alloc w o k hk)⟩

theorem grown_below {w w' : World} {row : Option Nat} {B : Nat} (h : w.grownBy w' row) (hB : B ≤ w.heap.size) (hr : ∀ k, row = some k → B ≤ k) : Below B w w' :=
  (Below.refl B w).grown h hB hr

/-- 'append(out, x)' of one element that the statement has just laid into a block of its own: what the walk goes on with. -/
theorem app1 {P : Program} {w : World} {ops : Array Oper} {rest : List Oper} {o : Oper} {a : Act} {Q : Exit → Act → World → Prop} (hgd : o.guard = none) (s x : Operand) (t : TypeId)
    (ho : o.op = .call { callee := .builtin .append, args := #[s, x], argTypes := #[t, t] })
    (base : Nat) (e : TypeId) (z : Value) (size bytes : Nat) (ht : P.underlying t = some (.slice e)) (hi : (P.info? e).map (fun i => (i.zero, i.size, i.bytes)) = some (some z, size, bytes))
    (hzs : z.cells.size = size) (hsz : 0 < size) (v : Value) (n : Nat) (xs : List Value) (hs : a.eval s = v) (hown : w.ownsRow base e size v n xs)
    (news : List Value) (c : Nat) (hx : a.eval x = .slice (some ⟨w.heap.size, 0, none⟩) 1 c) (hl : news.length = size) (h1 : ∀ u ∈ news, u.oneCell' = true)
    (h63 : n + 1 ≤ maxLen) (hbytes : (n + 1) * bytes ≤ 140737488355328) (hbase : base ≤ w.heap.size)
    (h : ∀ v' w', w'.ownsRow base e size v' (n + 1) (xs ++ news) → w.grownBy w' v.ownBlock → wpList P ops Q rest (a.put o.dst v') w') :
    wpList P ops Q (o :: rest) a (w.alloc (.cells news.toArray e)) := by
  obtain ⟨i, h2, h3, h4, h5⟩ := info_parts hi
  refine wpList_append_own _ hgd s x t ho base e i z size bytes ht h2 h3 h4 h5 hzs hsz v n xs hs (hown.alloc _) ⟨w.heap.size, 0, none⟩ 1 c news hx (by rw [hl]; omega) ?_ h1 h63 hbytes (by simp; omega) ?_
  · intro j u hu
    have hb : (w.alloc (.cells news.toArray e)).heap[w.heap.size]? = some (.cells news.toArray e) := last_block w _
    have hc : (⟨w.heap.size, 0, none⟩ : Addr).add j = ⟨w.heap.size, j, none⟩ := by
      unfold Addr.add
      split
      · subst_vars; rfl
      · simp
    rw [hc, cell_at hb]
    simpa using hu
  · intro v' w' hv hg hn
    exact h v' w' hv (grown_alloc hg)

/-- what a call owns stays while new blocks are made -/
theorem owns_below {w w' : World} {B : Nat} {e : TypeId} {k : Nat} {v : Value} {n : Nat} {xs : List Value} (h : w.ownsRow B e k v n xs) (hb : Below w.heap.size w w') : w'.ownsRow B e k v n xs := by
  obtain ⟨h1, h2⟩ := h
  refine ⟨h1, ?_⟩
  rcases h2 with h2 | ⟨g, cap, cur, hv, hg, hh, r⟩
  · exact .inl h2
  · exact .inr ⟨g, cap, cur, hv, hg, by rw [hb.block _ (lt_of_block hh)]; exact hh, r⟩

/-- the block of a row that the call owns lies from its base on -/
theorem owns_base {w : World} {B : Nat} {e : TypeId} {k : Nat} {v : Value} {n : Nat} {xs : List Value} (h : w.ownsRow B e k v n xs) : ∀ j, v.ownBlock = some j → B ≤ j := by
  rcases h.2 with ⟨rfl, _⟩ | ⟨g, cap, cur, rfl, hg, _⟩
  · intro j hj
    simp [Value.ownBlock] at hj
  · intro j hj
    simp only [Value.ownBlock, Option.some.injEq] at hj
    omega

theorem owns_mono {w : World} {B B' : Nat} {e : TypeId} {k : Nat} {v : Value} {n : Nat} {xs : List Value} (h : w.ownsRow B e k v n xs) (hB : B' ≤ B) : w.ownsRow B' e k v n xs := by
  obtain ⟨h1, h2⟩ := h
  refine ⟨h1, ?_⟩
  rcases h2 with h2 | ⟨g, cap, cur, hv, hg, r⟩
  · exact .inl h2
  · exact .inr ⟨g, cap, cur, hv, by omega, r⟩

theorem _root_.Go.RowKit.Below.drewN' {B : Nat} {a w : World} (h : Below B a w) (n : Nat) : Below B a (w.drewN n) := ⟨h.os, h.tape, h.output, h.size, h.block⟩

end Go.Proofs.YtdmhjnnogcpccaaGreatDoor
end

section
namespace Go.Proofs.YtdmhjnnogcpccaaGreatDoor
open Go.RowKit
open Mu (Cl Bs Nd Ru Gr Tk)
set_option linter.unusedSimpArgs false
set_option linter.unusedVariables false

set_option maxHeartbeats 1000000 in
theorem class_either (x y : Cl) (w : World) :
    Calls Tryz.prog 179 #[clv x, clv y] w fun e w' => e = .returned (clv (Mu.either x y)) ∧ Below w.heap.size w w' := by
  obtain ⟨a0, a1, a2, a3⟩ := x
  obtain ⟨b0, b1, b2, b3⟩ := y
  go_enter Tryz.func179, Tryz.ntmps179
  go_wp2
  refine wp_loop_rounds 5 ?_
  rw [rounds_succ]
  go_wp2
  go_region
  go_wp2
  rw [rounds_succ]
  go_wp2
  go_region
  go_wp2
  rw [rounds_succ]
  go_wp2
  go_region
  go_wp2
  rw [rounds_succ]
  go_wp2
  go_region
  go_wp2
  rw [rounds_succ]
  go_wp2
  simp only [bits_or]
  refine bodyPost_ret (v := (.agg #[.int .u64 ((a0 ||| b0).toNat : Int), .int .u64 ((a1 ||| b1).toNat : Int), .int .u64 ((a2 ||| b2).toNat : Int), .int .u64 ((a3 ||| b3).toNat : Int)])) (by simp [results, Tryz.results179, go_sem]) rfl ⟨rfl, ?_⟩
  (repeat' (first | exact Below.refl _ _ | assumption | refine Below.drew ?_ | refine Below.drewN' ?_ _ | refine Below.setCell ?_ (by first | (simp; done) | omega | (simp; omega)) _ | refine Below.alloc ?_ (by first | (simp; done) | omega | (simp; omega)) _ | refine Below.step ?_ (by assumption) (by first | (simp; done) | omega | (simp; omega))))

set_option maxHeartbeats 1000000 in
theorem class_not (x : Cl) (w : World) :
    Calls Tryz.prog 180 #[clv x] w fun e w' => e = .returned (clv (Mu.clNot x)) ∧ Below w.heap.size w w' := by
  obtain ⟨a0, a1, a2, a3⟩ := x
  go_enter Tryz.func180, Tryz.ntmps180
  go_wp2
  refine wp_loop_rounds 5 ?_
  rw [rounds_succ]
  go_wp2
  rw [rounds_succ]
  go_wp2
  rw [rounds_succ]
  go_wp2
  rw [rounds_succ]
  go_wp2
  rw [rounds_succ]
  go_wp2
  simp only [bits_not]
  refine bodyPost_ret (v := (.agg #[.int .u64 ((~~~ a0).toNat : Int), .int .u64 ((~~~ a1).toNat : Int), .int .u64 ((~~~ a2).toNat : Int), .int .u64 ((~~~ a3).toNat : Int)])) (by simp [results, Tryz.results180, go_sem]) rfl ⟨rfl, ?_⟩
  (repeat' (first | exact Below.refl _ _ | assumption | refine Below.drew ?_ | refine Below.drewN' ?_ _ | refine Below.setCell ?_ (by first | (simp; done) | omega | (simp; omega)) _ | refine Below.alloc ?_ (by first | (simp; done) | omega | (simp; omega)) _ | refine Below.step ?_ (by assumption) (by first | (simp; done) | omega | (simp; omega))))

theorem has_word (c : Cl) (n : Nat) (h : n < 256) : [Value.int IntKind.u64 (c.a.toNat : Int), Value.int IntKind.u64 (c.b.toNat : Int), Value.int IntKind.u64 (c.c.toNat : Int), Value.int IntKind.u64 (c.d.toNat : Int)][n / 64]? = some (.int .u64 ((c.word (n / 64)).toNat : Int)) := by
  have h4 : n / 64 < 4 := by omega
  generalize n / 64 = k at h4
  match k, h4 with
  | 0, _ => rfl
  | 1, _ => rfl
  | 2, _ => rfl
  | 3, _ => rfl

set_option maxHeartbeats 1000000 in
theorem class_has (c : Cl) (n : Nat) (hb : n < 256) (w : World) :
    Calls Tryz.prog 194 #[clv c, .int .u8 n] w fun e w' => e = .returned (.bool (Mu.has c n)) ∧ Below w.heap.size w w' := by
  have hw := has_word c n hb
  have h0 : 0 ≤ (n : Int) / 64 := by omega
  have h1 : (n : Int) / 64 < 4 := by omega
  go_enter Tryz.func194, Tryz.ntmps194
  go_wp2
  go_ret
  refine ⟨?_, ?_⟩
  · show Ending.returned (Value.bool (bits .and .u64 (((c.word (n / 64)).toNat : Int) / 2 ^ (n % 64)) 1 != 0)) = _
    rw [bits_bit]
    rfl
  · (repeat' (first | exact Below.refl _ _ | assumption | refine Below.drew ?_ | refine Below.drewN' ?_ _ | refine Below.setCell ?_ (by first | (simp; done) | omega | (simp; omega)) _ | refine Below.alloc ?_ (by first | (simp; done) | omega | (simp; omega)) _ | refine Below.step ?_ (by assumption) (by first | (simp; done) | omega | (simp; omega))))

/-- what a span has behind its first words -/
def spanV (lo hi : Int) (k : Nat) (i : Nat) : Value := if i < k then .int .u64 ((Mu.spanW lo hi i).toNat : Int) else .int .u64 0

theorem shl_word (x : BitVec 64) (f : Nat) : IntKind.u64.wrap ((x.toNat : Int) * 2 ^ f) = ((x <<< f).toNat : Int) := by
  rw [BitVec.toNat_shiftLeft, Nat.shiftLeft_eq]
  have h : ((x.toNat : Int) * 2 ^ f) = ((x.toNat * 2 ^ f : Nat) : Int) := by simp
  rw [h]
  simp [IntKind.wrap, IntKind.bits, IntKind.signed]

theorem span_word (lo hi : Int) (i : Int) (f t : Int) (hf : f = max (lo - 64 * i) 0) (ht : t = min (hi - 64 * i) 63) (hle : f ≤ t) :
    Value.int IntKind.u64 (IntKind.u64.wrap (18446744073709551615 / 2 ^ (63 - t + f).toNat * 2 ^ f.toNat)) = Value.int IntKind.u64 ((Mu.spanW lo hi i).toNat : Int) := by
  have h1 : (18446744073709551615 / 2 ^ (63 - t + f).toNat : Int) = ((BitVec.allOnes 64 >>> (63 - t + f).toNat).toNat : Int) := by
    rw [BitVec.toNat_ushiftRight, Nat.shiftRight_eq_div_pow]
    simp
  rw [h1, shl_word]
  unfold Mu.spanW
  simp only [← hf, ← ht]
  rw [if_pos hle]

theorem span_none (lo hi : Int) (i : Int) (f t : Int) (hf : f = max (lo - 64 * i) 0) (ht : t = min (hi - 64 * i) 63) (hle : t < f) :
    Value.int IntKind.u64 0 = Value.int IntKind.u64 ((Mu.spanW lo hi i).toNat : Int) := by
  unfold Mu.spanW
  simp only [← hf, ← ht]
  rw [if_neg (by omega)]
  rfl

set_option maxHeartbeats 1000000 in
theorem class_span (lo hi : Int) (w : World) (h0 : 0 ≤ lo) (h1 : lo ≤ 255) (h2 : 0 ≤ hi) (h3 : hi ≤ 255) :
    Calls Tryz.prog 193 #[.int .i64 lo, .int .i64 hi] w fun e w' => e = .returned (clv (Mu.span lo hi)) ∧ Below w.heap.size w w' := by
  go_enter Tryz.func193, Tryz.ntmps193
  go_wp2
  go_loopw [8] (fun i wr => ∃ k : Nat, k ≤ 4 ∧ i = .int .i64 k ∧ wr = w.alloc (.cells #[spanV lo hi k 0, spanV lo hi k 1, spanV lo hi k 2, spanV lo hi k 3] 27)) (fun i _ => 4 - (intOf i).toNat)
  case atStart => exact ⟨0, by omega, rfl, rfl⟩
  case round =>
    obtain ⟨k, hk, rfl, rfl⟩ := hrel
    have hk5 : k = 0 ∨ k = 1 ∨ k = 2 ∨ k = 3 ∨ k = 4 := by omega
    rcases hk5 with rfl | rfl | rfl | rfl | rfl
    · go_wp2
      · refine ⟨⟨1, by omega, rfl, ?_⟩, by simp [intOf]⟩
        rw [span_word lo hi 0 lo _ (by omega) (by rw [Int.min_def]; split <;> split <;> omega) (by assumption)]
        simp [spanV]
      · refine ⟨⟨1, by omega, rfl, ?_⟩, by simp [intOf]⟩
        have := span_none lo hi 0 lo (if 63 < hi then 63 else hi) (by omega) (by rw [Int.min_def]; split <;> split <;> omega) (by assumption)
        simp [spanV]
        rw [← this]
    · go_wp2
      · refine ⟨⟨2, by omega, rfl, ?_⟩, by simp [intOf]⟩
        rw [span_word lo hi 1 _ _ (by rw [Int.max_def]; split <;> split <;> omega) (by rw [Int.min_def]; split <;> split <;> omega) (by assumption)]
        simp [spanV]
      · refine ⟨⟨2, by omega, rfl, ?_⟩, by simp [intOf]⟩
        have := span_none lo hi 1 (if lo - 64 < 0 then 0 else lo - 64) (if 63 < hi - 64 then 63 else hi - 64) (by rw [Int.max_def]; split <;> split <;> omega) (by rw [Int.min_def]; split <;> split <;> omega) (by assumption)
        simp [spanV]
        rw [← this]
    · go_wp2
      · refine ⟨⟨3, by omega, rfl, ?_⟩, by simp [intOf]⟩
        rw [span_word lo hi 2 _ _ (by rw [Int.max_def]; split <;> split <;> omega) (by rw [Int.min_def]; split <;> split <;> omega) (by assumption)]
        simp [spanV]
      · refine ⟨⟨3, by omega, rfl, ?_⟩, by simp [intOf]⟩
        have := span_none lo hi 2 (if lo - 128 < 0 then 0 else lo - 128) (if 63 < hi - 128 then 63 else hi - 128) (by rw [Int.max_def]; split <;> split <;> omega) (by rw [Int.min_def]; split <;> split <;> omega) (by assumption)
        simp [spanV]
        rw [← this]
    · go_wp2
      · refine ⟨⟨4, by omega, rfl, ?_⟩, by simp [intOf]⟩
        rw [span_word lo hi 3 _ _ (by rw [Int.max_def]; split <;> split <;> omega) (by rw [Int.min_def]; split <;> omega) (by assumption)]
        simp [spanV]
      · refine ⟨⟨4, by omega, rfl, ?_⟩, by simp [intOf]⟩
        have := span_none lo hi 3 (if lo - 192 < 0 then 0 else lo - 192) (hi - 192) (by rw [Int.max_def]; split <;> split <;> omega) (by rw [Int.min_def]; split <;> omega) (by assumption)
        simp [spanV]
        rw [← this]
    · simp only [show spanV lo hi 4 0 = .int .u64 ((Mu.spanW lo hi 0).toNat : Int) from rfl, show spanV lo hi 4 1 = .int .u64 ((Mu.spanW lo hi 1).toNat : Int) from rfl, show spanV lo hi 4 2 = .int .u64 ((Mu.spanW lo hi 2).toNat : Int) from rfl, show spanV lo hi 4 3 = .int .u64 ((Mu.spanW lo hi 3).toNat : Int) from rfl]
      go_wp2
      refine bodyPost_ret (v := (.agg #[.int .u64 ((Mu.spanW lo hi 0).toNat : Int), .int .u64 ((Mu.spanW lo hi 1).toNat : Int), .int .u64 ((Mu.spanW lo hi 2).toNat : Int), .int .u64 ((Mu.spanW lo hi 3).toNat : Int)])) (by simp [results, Tryz.results193, go_sem]) rfl ⟨rfl, ?_⟩
      (repeat' (first | exact Below.refl _ _ | assumption | refine Below.drew ?_ | refine Below.drewN' ?_ _ | refine Below.setCell ?_ (by first | (simp; done) | omega | (simp; omega)) _ | refine Below.alloc ?_ (by first | (simp; done) | omega | (simp; omega)) _ | refine Below.step ?_ (by assumption) (by first | (simp; done) | omega | (simp; omega))))

theorem next_stop (c : Cl) (inn : Bool) (k : Nat) (h : k < 256) (hh : Mu.has c k = inn) : Mu.next c k inn = k := by
  obtain ⟨d, hd⟩ : ∃ d, 256 - k = d + 1 := ⟨255 - k, by omega⟩
  simp [Mu.next, hd, Mu.nextK, hh]

theorem next_go (c : Cl) (inn : Bool) (k : Nat) (h : k < 256) (hh : Mu.has c k ≠ inn) : Mu.next c k inn = Mu.next c (k + 1) inn := by
  obtain ⟨d, hd⟩ : ∃ d, 256 - k = d + 1 := ⟨255 - k, by omega⟩
  have h2 : 256 - (k + 1) = d := by omega
  simp [Mu.next, hd, h2, Mu.nextK, hh]

theorem next_end (c : Cl) (inn : Bool) : Mu.next c 256 inn = 256 := rfl

attribute [local irreducible] Mu.next Mu.nextK Mu.has

set_option maxHeartbeats 1000000 in
set_option maxRecDepth 20000 in
theorem class_next (c : Cl) (f : Nat) (hf : f ≤ 256) (inn : Bool) (w : World) :
    Calls Tryz.prog 183 #[clv c, .int .i64 f, .bool inn] w fun e w' => e = .returned (.int .i64 (Mu.next c f inn)) ∧ Below w.heap.size w w' := by
  go_enter Tryz.func183, Tryz.ntmps183
  go_wp2
  go_loopw [1] (fun i wr => ∃ k : Nat, k ≤ 256 ∧ i = .int .i64 k ∧ Mu.next c f inn = Mu.next c k inn ∧ Below w.heap.size w wr ∧ wr.heap[w.heap.size]? = some (.cells (clv c).cells 27)) (fun i _ => 256 - (intOf i).toNat)
  case atStart => exact ⟨f, hf, rfl, rfl, (by (repeat' (first | exact Below.refl _ _ | assumption | refine Below.drew ?_ | refine Below.drewN' ?_ _ | refine Below.setCell ?_ (by first | (simp; done) | omega | (simp; omega)) _ | refine Below.alloc ?_ (by first | (simp; done) | omega | (simp; omega)) _ | refine Below.step ?_ (by assumption) (by first | (simp; done) | omega | (simp; omega))))), last_block _ _⟩
  case round =>
    obtain ⟨k, hk, rfl, hn, hb, hc⟩ := hrel
    have HN := Lib.hid hn
    clear hn
    have c0 : wr.cell? ⟨w.heap.size, 0, none⟩ = some (.int .u64 (c.a.toNat : Int)) := cell_at hc 0
    have c1 : wr.cell? ⟨w.heap.size, 1, none⟩ = some (.int .u64 (c.b.toNat : Int)) := cell_at hc 1
    have c2 : wr.cell? ⟨w.heap.size, 2, none⟩ = some (.int .u64 (c.c.toNat : Int)) := cell_at hc 2
    have c3 : wr.cell? ⟨w.heap.size, 3, none⟩ = some (.int .u64 (c.d.toNat : Int)) := cell_at hc 3
    have HC := Lib.hid hc
    clear hc
    by_cases hlt : k < 256
    · cases hh : Mu.has c k == inn with
      | true =>
        have hs := next_stop c inn k hlt (by simpa using hh)
        have HS := Lib.hid hs
        have HH := Lib.hid hh
        clear hs hh
        go_wp2_with fail
        refine (class_has c k hlt wr).mono ?_
        rintro e w1 ⟨rfl, hb1⟩
        have hh := HH.out
        go_wp2_with fail
        go_ret
        exact ⟨by rw [HN.out, HS.out]; rfl, hb.step hb1 hb.size⟩
      | false =>
        have hs := next_go c inn k hlt (by simpa using hh)
        have HS := Lib.hid hs
        have HH := Lib.hid hh
        clear hs hh
        go_wp2_with fail
        refine (class_has c k hlt wr).mono ?_
        rintro e w1 ⟨rfl, hb1⟩
        have hh := HH.out
        go_wp2_with fail
        go_roundw
        case rel => exact ⟨k + 1, by omega, by go_num, by rw [HN.out, HS.out], hb.step hb1 hb.size, by rw [hb1.block _ (lt_of_block HC.out)]; exact HC.out⟩
        case measure => simp [intOf]; omega
    · have hk2 : k = 256 := by omega
      subst hk2
      go_wp2_with fail
      go_ret
      exact ⟨by rw [HN.out, next_end]; rfl, hb⟩
theorem nextK_facts (c : Cl) (inn : Bool) : ∀ (d k : Nat), k + d = 256 → k ≤ Mu.nextK c inn d k ∧ Mu.nextK c inn d k ≤ 256 ∧ (Mu.nextK c inn d k < 256 → Mu.has c (Mu.nextK c inn d k) = inn)
  | 0, k, h => by
    have : k = 256 := by omega
    subst this
    simp [Mu.nextK]
  | d + 1, k, h => by
    have ih := nextK_facts c inn d (k + 1) (by omega)
    simp only [Mu.nextK]
    split
    · rename_i hh
      exact ⟨by omega, by omega, fun _ => by simpa using hh⟩
    · exact ⟨by omega, ih.2.1, ih.2.2⟩

theorem next_ge (c : Cl) (inn : Bool) (k : Nat) (h : k ≤ 256) : k ≤ Mu.next c k inn := by
  have := nextK_facts c inn (256 - k) k (by omega)
  unfold Mu.next
  exact this.1

theorem next_le (c : Cl) (inn : Bool) (k : Nat) (h : k ≤ 256) : Mu.next c k inn ≤ 256 := by
  have := nextK_facts c inn (256 - k) k (by omega)
  unfold Mu.next
  exact this.2.1

theorem next_has (c : Cl) (inn : Bool) (k : Nat) (h : k ≤ 256) (h2 : Mu.next c k inn < 256) : Mu.has c (Mu.next c k inn) = inn := by
  have := nextK_facts c inn (256 - k) k (by omega)
  unfold Mu.next at h2 ⊢
  exact this.2.2 h2

theorem next_gt (c : Cl) (k : Nat) (h : k < 256) (hh : Mu.has c k = true) : k < Mu.next c k false := by
  rw [next_go c false k h (by simp [hh])]
  exact next_ge c false (k + 1) (by omega)

theorem runsK_step (c : Cl) (k lo : Nat) (h : lo < 256) (hk : 256 - lo ≤ k) (hh : Mu.has c lo = true) :
    Mu.runsK c k lo = (lo, Mu.next c lo false - 1) :: Mu.runsK c 256 (Mu.next c (Mu.next c lo false) true) := by
  have fuel : ∀ (d lo k k' : Nat), 256 - lo ≤ d → 256 - lo ≤ k → 256 - lo ≤ k' → (lo < 256 → Mu.has c lo = true) → Mu.runsK c k lo = Mu.runsK c k' lo := by
    intro d
    induction d with
    | zero =>
      intro lo k k' h0 h1 h2 _
      have : ¬ lo < 256 := by omega
      cases k <;> cases k' <;> simp [Mu.runsK, this]
    | succ d ih =>
      intro lo k k' h0 h1 h2 h3
      by_cases hlt : lo < 256
      · obtain ⟨k, rfl⟩ : ∃ m, k = m + 1 := ⟨k - 1, by omega⟩
        obtain ⟨k', rfl⟩ : ∃ m, k' = m + 1 := ⟨k' - 1, by omega⟩
        have g1 := next_gt c lo hlt (h3 hlt)
        have g2 := next_le c false lo (by omega)
        have g3 := next_ge c true (Mu.next c lo false) g2
        simp only [Mu.runsK, if_pos hlt]
        rw [ih (Mu.next c (Mu.next c lo false) true) k k' (by omega) (by omega) (by omega) (next_has c true _ g2)]
      · cases k <;> cases k' <;> simp [Mu.runsK, hlt]
  obtain ⟨k, rfl⟩ : ∃ m, k = m + 1 := ⟨k - 1, by omega⟩
  have g1 := next_gt c lo h hh
  have g2 := next_le c false lo (by omega)
  have g3 := next_ge c true (Mu.next c lo false) g2
  rw [Mu.runsK, if_pos h]
  rw [fuel 256 (Mu.next c (Mu.next c lo false) true) k 256 (by omega) (by omega) (by omega) (next_has c true _ g2)]

theorem runsK_end (c : Cl) (k lo : Nat) (h : ¬ lo < 256) : Mu.runsK c k lo = [] := by
  cases k with
  | zero => rfl
  | succ k => simp only [Mu.runsK, if_neg h]

/-- a row of runs as the model's cells -/
def runCells (l : List (Nat × Nat)) : List Value := l.flatMap fun r => [.int .i64 r.1, .int .i64 r.2]

theorem runCells_snoc (l : List (Nat × Nat)) (a b : Nat) : runCells (l ++ [(a, b)]) = runCells l ++ [.int .i64 a, .int .i64 b] := by
  simp [runCells]

theorem runs_len (c : Cl) : ∀ (k lo : Nat), (Mu.runsK c k lo).length ≤ k
  | 0, _ => by simp [Mu.runsK]
  | k + 1, lo => by
    simp only [Mu.runsK]
    split
    · have := runs_len c k (Mu.next c (Mu.next c lo false) true)
      simp; omega
    · simp

attribute [local irreducible] Mu.runsK

theorem Tryz.infoPair : (Tryz.prog.info? 203).map (fun i => (i.zero, i.size, i.bytes)) = some (some (.agg #[.int .i64 0, .int .i64 0]), 2, 16) := by kernel_rfl

theorem zero_iff (c : Cl) : (c = Cl.zero) ↔ (c.a.toNat = 0 ∧ c.b.toNat = 0 ∧ c.c.toNat = 0 ∧ c.d.toNat = 0) := by
  obtain ⟨a, b, c, d⟩ := c
  constructor
  · intro h
    simp only [Cl.zero, Cl.mk.injEq] at h
    obtain ⟨rfl, rfl, rfl, rfl⟩ := h
    simp
  · rintro ⟨h1, h2, h3, h4⟩
    simp only [Cl.zero, Cl.mk.injEq]
    exact ⟨BitVec.eq_of_toNat_eq (by simpa using h1), BitVec.eq_of_toNat_eq (by simpa using h2), BitVec.eq_of_toNat_eq (by simpa using h3), BitVec.eq_of_toNat_eq (by simpa using h4)⟩

set_option maxRecDepth 20000 in
theorem eqlIn_class (x y : Cl) (w : World) (n : Nat) : (Op.equalIn (n + 1 + 1) 27 (clv x) (clv y)).run Tryz.prog w = .ok (decide (x = y)) w := by
  obtain ⟨i, hi⟩ : ∃ i, Tryz.prog.info? 25 = some i := by
    cases h : Tryz.prog.info? 25 with
    | some i => exact ⟨i, rfl⟩
    | none =>
      have : (Tryz.prog.info? 25).isSome = true := by kernel_rfl
      rw [h] at this
      exact absurd this (by simp)
  have hc : Tryz.prog.cellsOf 25 = 1 := by kernel_rfl
  have ha : Tryz.prog.underlying 27 = some (.array 4 25) := Tryz.underlying27
  have hu : Tryz.prog.underlying 25 = some (.int .u64) := Tryz.underlying25
  obtain ⟨a, b, c, d⟩ := x
  obtain ⟨a', b', c', d'⟩ := y
  rw [run_equalIn_array w (n + 1) _ _ ha hi, hc]
  have hr : List.range 4 = [0, 1, 2, 3] := by decide
  rw [hr]
  have hp : ∀ (l : List Value) (k : Nat) (v : Value), l[k]? = some v → (part 25 l.toArray k).run Tryz.prog w = .ok v w := by
    intro l k v hv
    simp [part, isAgg, run_underlying hu, hv]
  have he : ∀ p q : BitVec 64, (Op.equalIn (n + 1) 25 (.int .u64 (p.toNat : Int)) (.int .u64 (q.toNat : Int))).run Tryz.prog w = .ok (decide (p = q)) w := by
    intro p q
    rw [run_equalIn_int w n 25 .u64 .u64 _ _ hu]
    congr 1
    rw [Bool.eq_iff_iff]
    simp
    constructor
    · intro h
      exact BitVec.eq_of_toNat_eq (by exact_mod_cast h)
    · rintro rfl
      rfl
  have p0 := hp [.int .u64 (a.toNat : Int), .int .u64 (b.toNat : Int), .int .u64 (c.toNat : Int), .int .u64 (d.toNat : Int)] 0 _ rfl
  have p1 := hp [.int .u64 (a.toNat : Int), .int .u64 (b.toNat : Int), .int .u64 (c.toNat : Int), .int .u64 (d.toNat : Int)] 1 _ rfl
  have p2 := hp [.int .u64 (a.toNat : Int), .int .u64 (b.toNat : Int), .int .u64 (c.toNat : Int), .int .u64 (d.toNat : Int)] 2 _ rfl
  have p3 := hp [.int .u64 (a.toNat : Int), .int .u64 (b.toNat : Int), .int .u64 (c.toNat : Int), .int .u64 (d.toNat : Int)] 3 _ rfl
  have q0 := hp [.int .u64 (a'.toNat : Int), .int .u64 (b'.toNat : Int), .int .u64 (c'.toNat : Int), .int .u64 (d'.toNat : Int)] 0 _ rfl
  have q1 := hp [.int .u64 (a'.toNat : Int), .int .u64 (b'.toNat : Int), .int .u64 (c'.toNat : Int), .int .u64 (d'.toNat : Int)] 1 _ rfl
  have q2 := hp [.int .u64 (a'.toNat : Int), .int .u64 (b'.toNat : Int), .int .u64 (c'.toNat : Int), .int .u64 (d'.toNat : Int)] 2 _ rfl
  have q3 := hp [.int .u64 (a'.toNat : Int), .int .u64 (b'.toNat : Int), .int .u64 (c'.toNat : Int), .int .u64 (d'.toNat : Int)] 3 _ rfl
  clear hp
  simp only [Op.eqItems, Sem.run_bind, Sem.run_ite, Sem.run_pure, Nat.mul_one, p0, p1, p2, p3, q0, q1, q2, q3, he, Result.andThen_ok, Cl.mk.injEq]
  by_cases h0 : a = a' <;> by_cases h1 : b = b' <;> by_cases h2 : c = c' <;> by_cases h3 : d = d' <;> simp [h0, h1, h2, h3]

theorem eql_class (x y : Cl) (w : World) : (Op.equal 27 (clv x) (clv y)).run Tryz.prog w = .ok (decide (x = y)) w := eqlIn_class x y w 9998

/-- the comparison of two classes, as the walk spells it -/
theorem eq_class (a b c d a' b' c' d' : BitVec 64) (w : World) : (Op.equalIn 10000 27 (.agg #[.int .u64 (a.toNat : Int), .int .u64 (b.toNat : Int), .int .u64 (c.toNat : Int), .int .u64 (d.toNat : Int)]) (.agg #[.int .u64 (a'.toNat : Int), .int .u64 (b'.toNat : Int), .int .u64 (c'.toNat : Int), .int .u64 (d'.toNat : Int)])).run Tryz.prog w = .ok (decide ((⟨a, b, c, d⟩ : Cl) = ⟨a', b', c', d'⟩)) w := eqlIn_class ⟨a, b, c, d⟩ ⟨a', b', c', d'⟩ w 9998

/-- a class held against the empty one -/
theorem eq_zero (c : Cl) (w : World) : (Op.equalIn 10000 27 (.agg #[.int .u64 (c.a.toNat : Int), .int .u64 (c.b.toNat : Int), .int .u64 (c.c.toNat : Int), .int .u64 (c.d.toNat : Int)]) (.agg #[.int .u64 0, .int .u64 0, .int .u64 0, .int .u64 0])).run Tryz.prog w = .ok (decide (c = Cl.zero)) w := eqlIn_class c Cl.zero w 9998

/-- what a call hands back that makes a row of runs -/
def RunsPost (c : Cl) (w : World) (e : Ending) (w' : World) : Prop :=
  ∃ v, e = .returned v ∧ w'.ownsRow w.heap.size 203 2 v (Mu.runs c).length (runCells (Mu.runs c)) ∧ Below w.heap.size w w'

theorem runs_zero (c : Cl) (h : c = Cl.zero) : Mu.runs c = [] := by simp [Mu.runs, h]

theorem runs_some (c : Cl) (h : c ≠ Cl.zero) : Mu.runs c = Mu.runsK c 256 (Mu.next c 0 true) := by simp [Mu.runs, h]

set_option maxHeartbeats 1000000 in
set_option maxRecDepth 20000 in
theorem class_runs (c : Cl) (w : World) : Calls Tryz.prog 158 #[clv c] w (RunsPost c w) := by
  have h1 := eq_zero c
  by_cases hz : c = Cl.zero
  · have hd : decide (c = Cl.zero) = true := by simp [hz]
    rw [hd] at h1
    have HZ := Lib.hid hz
    clear hz hd
    go_enter Tryz.func158, Tryz.ntmps158
    go_wp2_with fail
    go_ret
    refine ⟨_, rfl, ?_, by (repeat' (first | exact Below.refl _ _ | assumption | refine Below.drew ?_ | refine Below.drewN' ?_ _ | refine Below.setCell ?_ (by first | (simp; done) | omega | (simp; omega)) _ | refine Below.alloc ?_ (by first | (simp; done) | omega | (simp; omega)) _ | refine Below.step ?_ (by assumption) (by first | (simp; done) | omega | (simp; omega))))⟩
    rw [runs_zero c HZ.out]
    exact World.ownsRow_nil _ _ _ _
  · have hd : decide (c = Cl.zero) = false := by simp [hz]
    rw [hd] at h1
    have HZ := Lib.hid hz
    clear hz hd
    go_enter Tryz.func158, Tryz.ntmps158
    go_wp2_with fail
    refine (class_next c 0 (by omega) true _).mono ?_
    rintro e w1 ⟨rfl, hb1⟩
    have hc1 : w1.heap[w.heap.size]? = some (.cells (clv c).cells 27) := by rw [hb1.block _ (by simp)]; exact last_block _ _
    have hB1 : Below w.heap.size w w1 := by (repeat' (first | exact Below.refl _ _ | assumption | refine Below.drew ?_ | refine Below.drewN' ?_ _ | refine Below.setCell ?_ (by first | (simp; done) | omega | (simp; omega)) _ | refine Below.alloc ?_ (by first | (simp; done) | omega | (simp; omega)) _ | refine Below.step ?_ (by assumption) (by first | (simp; done) | omega | (simp; omega))))
    have hs1 := lt_of_block hc1
    clear hb1
    have HC1 := Lib.hid hc1
    clear hc1
    go_wp2_with fail
    go_loopw [3, 4] (fun v i wr => ∃ (acc : List (Nat × Nat)) (lo : Nat), lo ≤ 256 ∧ i = .int .i64 lo ∧ acc ++ Mu.runsK c 256 lo = Mu.runs c ∧ (lo < 256 → Mu.has c lo = true) ∧ wr.ownsRow (w.heap.size + 1) 203 2 v acc.length (runCells acc) ∧ Below w.heap.size w wr ∧ wr.heap[w.heap.size]? = some (.cells (clv c).cells 27)) (fun _ i _ => 256 - (intOf i).toNat)
    case atStart =>
      exact ⟨[], Mu.next c 0 true, next_le _ _ _ (by omega), rfl, by rw [runs_some c HZ.out]; rfl, fun h => next_has c true 0 (by omega) h, World.ownsRow_nil _ _ _ _, hB1, HC1.out⟩
    case round =>
      obtain ⟨acc, lo, hlo, rfl, hacc, hhas, hown, hB, hc⟩ := hrel
      have HA := Lib.hid hacc
      have HH := Lib.hid hhas
      have HC := Lib.hid hc
      have HO := Lib.hid hown
      have c0 : wr.cell? ⟨w.heap.size, 0, none⟩ = some (.int .u64 (c.a.toNat : Int)) := cell_at hc 0
      have c1 : wr.cell? ⟨w.heap.size, 1, none⟩ = some (.int .u64 (c.b.toNat : Int)) := cell_at hc 1
      have c2 : wr.cell? ⟨w.heap.size, 2, none⟩ = some (.int .u64 (c.c.toNat : Int)) := cell_at hc 2
      have c3 : wr.cell? ⟨w.heap.size, 3, none⟩ = some (.int .u64 (c.d.toNat : Int)) := cell_at hc 3
      clear hacc hhas hown hc h1
      by_cases hlt : lo < 256
      · go_wp2_with fail
        refine (class_next c lo hlo false wr).mono ?_
        rintro e w2 ⟨rfl, hb2⟩
        have g1 := next_gt c lo hlt (HH.out hlt)
        have g2 := next_le c false lo (by omega)
        have g3 := next_ge c true (Mu.next c lo false) g2
        have g4 := next_le c true (Mu.next c lo false) g2
        have g5 := next_has c true (Mu.next c lo false) g2
        have g6 := runsK_step c 256 lo hlt (by omega) (HH.out hlt)
        have hlen : acc.length ≤ 256 := by
          have h1 := congrArg List.length HA.out
          have h2 := runs_len c 256 (Mu.next c 0 true)
          rw [runs_some c HZ.out, List.length_append] at h1
          omega
        generalize hhi : Mu.next c lo false = hi at *
        generalize hl2 : Mu.next c hi true = lo2 at *
        have G5 := Lib.hid g5
        have G6 := Lib.hid g6
        have HHI := Lib.hid hhi
        have HL2 := Lib.hid hl2
        clear g5 g6 hhi hl2
        have hcb : w2.heap[w.heap.size]? = some (.cells (clv c).cells 27) := by rw [hb2.block _ (lt_of_block HC.out)]; exact HC.out
        have HCB := Lib.hid hcb
        have hB2 : Below w.heap.size w w2 := hB.step hb2 hB.size
        have ho2 := owns_below HO.out hb2
        have HO2 := Lib.hid ho2
        have hlt2 := lt_of_block hcb
        clear hb2 hcb ho2 c0 c1 c2 c3
        go_wp2_with (at_builtin; refine app1 rfl _ _ 201 rfl (w.heap.size + 1) 203 (.agg #[.int .i64 0, .int .i64 0]) 2 16 Tryz.underlying201 Tryz.infoPair rfl (by decide) u3 acc.length (runCells acc) rfl HO2.out [.int .i64 lo, .int .i64 (hi - 1)] 1 rfl rfl ?c1 ?c2 ?c3 ?c4 ?c5)
        case c1 => simp [Value.oneCell']
        case c2 => unfold maxLen; omega
        case c3 => omega
        case c4 => omega
        intro v2 w3 hown3 hgr
        have hB3 : Below w.heap.size w w3 := hB2.trans (grown_below hgr (by omega) (fun k hk => by have := owns_base HO2.out k hk; omega))
        have hc3 : w3.heap[w.heap.size]? = some (.cells (clv c).cells 27) := by
          rw [hgr.block _ hlt2 (fun hk => by have := owns_base HO2.out _ hk.symm; omega)]; exact HCB.out
        have HC3 := Lib.hid hc3
        have HO3 := Lib.hid hown3
        have hlt3 := lt_of_block hc3
        have c0 : w3.cell? ⟨w.heap.size, 0, none⟩ = some (.int .u64 (c.a.toNat : Int)) := cell_at hc3 0
        have c1 : w3.cell? ⟨w.heap.size, 1, none⟩ = some (.int .u64 (c.b.toNat : Int)) := cell_at hc3 1
        have c2 : w3.cell? ⟨w.heap.size, 2, none⟩ = some (.int .u64 (c.c.toNat : Int)) := cell_at hc3 2
        have c3 : w3.cell? ⟨w.heap.size, 3, none⟩ = some (.int .u64 (c.d.toNat : Int)) := cell_at hc3 3
        clear hgr hc3 hown3
        go_wp2_with fail
        refine (class_next c hi g2 true w3).mono ?_
        rintro e w4 ⟨rfl, hb4⟩
        rw [HL2.out]
        go_wp2_with fail
        refine ⟨⟨acc ++ [(lo, hi - 1)], lo2, g4, rfl, ?_, G5.out, ?_, hB3.step hb4 hB3.size, ?_⟩, by simp [intOf]; omega⟩
        · have h6 := HA.out
          rw [G6.out] at h6
          simpa using h6
        · have h7 := owns_below HO3.out hb4
          have h8 : ((hi : Int) - 1) = ((hi - 1 : Nat) : Int) := by omega
          rw [runCells_snoc, ← h8]
          simpa using h7
        · rw [hb4.block _ hlt3]; exact HC3.out
      · go_wp2_with fail
        go_ret
        refine ⟨_, rfl, ?_, hB⟩
        have h6 := HA.out
        rw [runsK_end c 256 lo hlt, List.append_nil] at h6
        rw [← h6]
        exact owns_mono HO.out (by omega)

end Go.Proofs.YtdmhjnnogcpccaaGreatDoor
end
