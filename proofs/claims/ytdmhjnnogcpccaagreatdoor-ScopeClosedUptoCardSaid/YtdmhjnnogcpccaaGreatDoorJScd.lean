/- scope: the map of what was seen; its keys, sorted. -/
import Derived.Test.YtdmhjnnogcpccaaGreatDoorJBas
import Derived.Test.YtdmhjnnogcpccaaGreatDoorJShk
import Derived.Maps.Own
import Derived.Maps.OwnOps
import Derived.Maps.OwnSet
import Derived.Maps.Views
import Derived.Maps.Range
namespace Go.Proofs.YtdmhjnnogcpccaaGreatDoor
open Go.RowKit Go.Maps Go.Sort Go.Shelf
set_option linter.unusedSimpArgs false
set_option linter.unusedVariables false

theorem Tryz.keyInt : Keyed Tryz.prog 3 := int_keyed Tryz.underlying3
theorem Tryz.zeroBool (w : World) : (zeroValue 4).run Tryz.prog w = .ok (.bool false) w := by kernel_rfl

/-- block b is the map of the places of a list -/
def SeenMap (b : Nat) (l : List Nat) (w : World) : Prop := (∀ x ∈ l, x < 64) ∧ ∃ D : DataW Unit, w.ownsMap Tryz.prog 3 (plainElem Tryz.prog 4) b 64 D ∧ IsMap D ∧
  (∀ kl, Maps.has D kl = true → ∃ i : Nat, i < 64 ∧ kl = .int .i64 i) ∧ ∀ i : Nat, Maps.has D (.int .i64 i) = l.contains i ∧ (l.contains i = true → D.atKey (.int .i64 i) (.lit (.bool false)) = .lit (.bool true))

theorem SeenMap.lt {b : Nat} {l : List Nat} {w : World} (h : SeenMap b l w) : b < w.heap.size := by
  obtain ⟨_, D, h, _⟩ := h
  exact h.lt

theorem SeenMap.keep {b : Nat} {l : List Nat} {w w' : World} (h : SeenMap b l w) (e : w'.heap[b]? = w.heap[b]?) : SeenMap b l w' := by
  obtain ⟨h0, D, h1, h2⟩ := h
  refine ⟨h0, D, ?_, h2⟩
  unfold World.ownsMap at *
  rw [e]
  exact h1

theorem SeenMap.made (w : World) : SeenMap w.heap.size [] (w.alloc (.map #[] 0)) :=
  ⟨by simp, .map [], (World.ownsMap_made w Tryz.prog 3 (plainElem Tryz.prog 4)).mono (by omega), isMap_empty, fun kl h => by simp [Maps.has] at h, fun i => ⟨by simp [Maps.has], by simp⟩⟩

theorem nodup_le {α : Type} : ∀ (m : Nat) (l : List α) (f : α → Nat), l.Pairwise (fun a b => f a ≠ f b) → (∀ a ∈ l, f a < m) → l.length ≤ m
  | 0, l, f, _, h => by
    cases l with
    | nil => simp
    | cons x l => exact absurd (h x (by simp)) (by omega)
  | m + 1, l, f, hp, h => by
    have h1 : (l.filter (fun a => f a ≠ m)).length ≤ m := nodup_le m _ f (hp.filter _) (fun a ha => by
      have h2 := List.mem_filter.1 ha
      have h3 := h a h2.1
      have h4 : f a ≠ m := by simpa using h2.2
      omega)
    have h2 : l.length = (l.filter (fun a => f a ≠ m)).length + (l.filter (fun a => f a = m)).length := by
      clear h1 hp h
      induction l with
      | nil => rfl
      | cons x l ih =>
        by_cases hx : f x = m
        · simp [hx] at *; omega
        · simp [hx] at *; omega
    have h3 : (l.filter (fun a => f a = m)).length ≤ 1 := by
      clear h1 h2 h
      induction l with
      | nil => simp
      | cons x l ih =>
        have h5 := List.pairwise_cons.1 hp
        by_cases hx : f x = m
        · have h6 : l.filter (fun a => f a = m) = [] := List.filter_eq_nil_iff.2 (fun y hy => by
            simp only [decide_eq_true_eq]
            intro e
            exact h5.1 y hy (by rw [hx, e]))
          simp [h6, hx]
        · simpa [hx] using ih h5.2
    omega

theorem own_tight {b n : Nat} {D : DataW Unit} {w : World} (h : w.ownsMap Tryz.prog 3 (plainElem Tryz.prog 4) b n D) (hk : ∀ kl, Maps.has D kl = true → ∃ i : Nat, i < 64 ∧ kl = .int .i64 i) : w.ownsMap Tryz.prog 3 (plainElem Tryz.prog 4) b 64 D := by
  obtain ⟨es', hD, hpw, hke⟩ := h.entries Tryz.keyInt
  have hl : es'.length ≤ 64 := by
    refine nodup_le 64 es' (fun p => (Go.intOf p.1).toNat) ?_ ?_
    · refine hpw.imp_of_mem fun {p q} hp hq hne e => hne ?_
      obtain ⟨i, hi, ei⟩ := hk p.1 (by rw [hD, has_eq, List.any_eq_true]; exact ⟨p, hp, WideAt.sameKey_self (hke p hp)⟩)
      obtain ⟨j, hj, ej⟩ := hk q.1 (by rw [hD, has_eq, List.any_eq_true]; exact ⟨q, hq, WideAt.sameKey_self (hke q hq)⟩)
      rw [ei, ej] at e ⊢
      simp [Go.intOf] at e
      rw [e]
    · intro p hp
      obtain ⟨i, hi, ei⟩ := hk p.1 (by rw [hD, has_eq, List.any_eq_true]; exact ⟨p, hp, WideAt.sameKey_self (hke p hp)⟩)
      rw [ei]
      simpa [Go.intOf] using hi
  obtain ⟨es, clock, hb, Ft, hs, hDD⟩ := h
  refine ⟨es, clock, hb, Ft, ?_, hDD⟩
  have : es.size = es'.length := by
    rw [hD] at hDD
    have := congrArg (fun d : DataW Unit => Maps.size d) hDD
    simp [Maps.size, length_sorted] at this
    omega
  omega

theorem SeenMap.put {b i n : Nat} {l : List Nat} {w' : World} {D : DataW Unit} (h0 : ∀ x ∈ l, x < 64) (hmap : IsMap D) (hk : ∀ kl, Maps.has D kl = true → ∃ i : Nat, i < 64 ∧ kl = .int .i64 i)
    (hD : ∀ i : Nat, Maps.has D (.int .i64 i) = l.contains i ∧ (l.contains i = true → D.atKey (.int .i64 i) (.lit (.bool false)) = .lit (.bool true)))
    (hi : i < 64) (h : w'.ownsMap Tryz.prog 3 (plainElem Tryz.prog 4) b n (D.put (.int .i64 i) (.lit (.bool true)))) : SeenMap b (l ++ [i]) w' := by
  have hkey : WideAt.IsKeyLit (.int .i64 (i : Int)) := by simp [WideAt.IsKeyLit]
  have hk2 : ∀ kl, Maps.has (D.put (.int .i64 (i : Int)) (.lit (.bool true))) kl = true → ∃ i : Nat, i < 64 ∧ kl = .int .i64 i := by
    intro kl hkl
    by_cases e : kl = .int .i64 (i : Int)
    · exact ⟨i, hi, e⟩
    · rw [has_put_other e] at hkl
      exact hk kl hkl
  refine ⟨fun x hx => ?_, _, own_tight h hk2, hmap.put _ _, hk2, fun j => ?_⟩
  · rcases List.mem_append.1 hx with hx | hx
    · exact h0 x hx
    · have : x = i := by simpa using hx
      omega
  · by_cases e : j = i
    · subst e
      exact ⟨by rw [has_put_same hmap hkey]; simp, fun _ => atKey_put_same hmap hkey _ _⟩
    · have hne : (Lit.int .i64 (j : Int)) ≠ .int .i64 (i : Int) := fun h => e (by cases h; omega)
      have hc : (l ++ [i]).contains j = l.contains j := by simp [e]
      rw [hc]
      exact ⟨by rw [has_put_other hne]; exact (hD j).1, fun hj => by rw [atKey_put_other hne]; exact (hD j).2 hj⟩

/-- the places of a list, in a row -/
def rowOf (N : Nat) (l : List Nat) : List Nat := (List.range N).filter fun i => l.contains i

theorem keys_c (mb : Option Nat) (w : World) : Calls Tryz.prog 47 #[.map mb] w fun e w' => e = .returned (.func (.func 75) #[] #[.pointer (some ⟨w.heap.size, 0, none⟩)]) ∧ w' = w.alloc (.cells #[.map mb] 92) :=
  (callsIn_wide (n := 5)).1 (AnyZI.keys_in Tryz.keysA Fence.wide 5 trivial rfl mb w)

theorem Tryz.sortsA (m : Nat) : AnyZI.SortsIn Tryz.prog Tryz.sortedA_ren Fence.wide m :=
  ⟨fun blk off cap ss W hH hblk hsz => callsIn_wide.2 (AnyM.slices_Sort_int Tryz.sortA blk off cap ss W hH hblk hsz),
   fun p cap W => callsIn_wide.2 (AnyM.slices_Sort_int_none Tryz.sortA p cap W)⟩

theorem rowOf_sorted (N : Nat) (l : List Nat) : ((rowOf N l).map Int.ofNat).Pairwise (fun a b => a < b) := by
  refine List.pairwise_map.2 ?_
  refine List.Pairwise.imp (fun {a b} h => ?_) ((List.pairwise_lt_range (n := N)).filter _)
  simpa using h

theorem sorted_c (k b N : Nat) (l : List Nat) (hN : ∀ x ∈ l, x < N) (w : World) (hk : w.cell? ⟨k, 0, none⟩ = some (.map (some b))) (hkl : k < w.heap.size) (h : SeenMap b l w) :
    Calls Tryz.prog 46 #[.func (.func 75) #[] #[.pointer (some ⟨k, 0, none⟩)]] w fun e w' => ∃ v, e = .returned v ∧
      w'.ownsRow w.heap.size 3 1 v (rowOf N l).length ((rowOf N l).map fun (i : Nat) => Value.int .i64 (i : Int)) ∧ Below w.heap.size w w' := by
  obtain ⟨h0, D, hown, hmap, hkD, hD⟩ := h
  have hsz : Maps.size D ≤ 64 := hown.size_le
  have hseq : SeqGives Fence.wide (5 - 1 - 1 - 1) Tryz.prog 75 #[.pointer (some ⟨k, 0, none⟩)] encZ (fun ss => ss.Perm (intKeys D)) (Maps.size D) w :=
    AnyZI.keys_gives (ρ := Tryz.keysA_ren) { Tryz.keysA with } Fence.wide _ trivial rfl (by omega) k b 64 D _ hkl hk hown
  have cS := AnyZI.sorted_in Tryz.sortedA Fence.wide 5 trivial trivial trivial trivial rfl (by omega) (Tryz.sortsA _) (enters_of Tryz.func74 (by kernel_rfl) rfl) 75 #[.pointer (some ⟨k, 0, none⟩)] trivial (enters_of Tryz.func75 (by kernel_rfl) rfl) _ _ (by unfold maxLen; omega) (by omega) _ hseq
  refine ((callsIn_wide (n := 5)).1 cS).mono ?_
  rintro e w' ⟨v, ss, rfl, hS, hrow, hnil, hb⟩
  have hperm : ss.Perm ((rowOf N l).map Int.ofNat) := by
    obtain ⟨es, hes, hpw, hke⟩ := hown.entries Tryz.keyInt
    subst hes
    refine hS.trans (perm_intKeys hpw (fun p hp => ?_) ?_ ?_).symm
    · obtain ⟨i, hi, ei⟩ := hkD p.1 (by rw [has_eq, List.any_eq_true]; exact ⟨p, hp, WideAt.sameKey_self (hke p hp)⟩)
      exact ⟨_, ei⟩
    · exact (rowOf_sorted N l).imp (fun h => Int.ne_of_lt h)
    · intro x
      rw [List.mem_map]
      constructor
      · rintro ⟨i, hi, rfl⟩
        have := List.mem_filter.1 hi
        show Maps.has (DataW.map es) (Lit.int .i64 (i : Int)) = true
        rw [(hD i).1]
        exact this.2
      · intro hx
        obtain ⟨i, hi, ei⟩ := hkD _ hx
        cases ei
        refine ⟨i, List.mem_filter.2 ⟨?_, ?_⟩, rfl⟩
        · rw [(hD i).1] at hx
          simpa using hN i (by simpa using hx)
        · rw [(hD i).1] at hx
          exact hx
  have hms : ss.mergeSort leI = (rowOf N l).map Int.ofNat := by
    rw [mergeSort_of_perm_i hperm]
    refine List.mergeSort_of_pairwise ((rowOf_sorted N l).imp fun h => ?_)
    simp only [leI, decide_eq_true_eq]
    omega
  have hlen : ss.length = (rowOf N l).length := by rw [hperm.length_eq]; simp
  refine ⟨v, rfl, ?_, hb⟩
  have e1 : (ss.mergeSort fun x y => decide (x ≤ y)) = (rowOf N l).map Int.ofNat := hms
  rw [e1, hlen, List.map_map] at hrow
  exact hrow

end Go.Proofs.YtdmhjnnogcpccaaGreatDoor
