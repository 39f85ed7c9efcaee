/- 'slices.Sorted(maps.Keys(m))' at a core's maps. -/
import Derived.Test.YtkkmkkgjpmlhaaaShelf
import Derived.Test.YtkkmkkgjpmlhaaaSet
import Derived.Test.YtkkmkkgjpmlhaaaModel
namespace Go.Proofs.Ytkkmkkgjpmlhaaa
open Go.RowKit Go.MapKept Go.Maps Go.Sort Go.Shelf

/-- A slice of ints in blocks from 'base' on that reads as a list. -/
def Zs (w : World) (base : Nat) (v : Value) (l : List Int) : Prop :=
  ∃ A cap, v = .slice A l.length cap ∧ l.length ≤ cap ∧ (0 < l.length → ∃ b, A = some ⟨b, 0, none⟩ ∧ base ≤ b ∧ ∀ j u, l[j]? = some u → w.cell? ⟨b, j, none⟩ = some (.int .i64 u))

theorem Zs.of_own {w : World} {base n : Nat} {e : TypeId} {v : Value} {l : List Int} (h : w.ownsRow base e 1 v n (l.map encZ)) : Zs w base v l := by
  obtain ⟨hl, h | ⟨g, cap, cur, rfl, hg, hb, hn, _, _, ht⟩⟩ := h
  · obtain ⟨rfl, rfl⟩ := h
    have : l = [] := by simpa using hl
    subst this
    exact ⟨none, 0, rfl, Nat.le_refl _, fun h => absurd h (by simp)⟩
  · have hl' : l.length = n := by simpa using hl
    subst hl'
    refine ⟨some ⟨g, 0, none⟩, cap, rfl, hn, fun _ => ⟨g, rfl, hg, fun j u hu => ?_⟩⟩
    simp only [World.cell?, hb, Option.isSome_none, Bool.false_eq_true, if_false]
    have e1 : (cur.toList.take (l.length * 1))[j]? = some (Value.int .i64 u) := by rw [ht]; simp [hu]
    have hj : j < l.length := (List.getElem?_eq_some_iff.1 hu).1
    rw [List.getElem?_take, if_pos (by omega)] at e1
    simpa using e1
theorem Zs.keep {F : Nat → Prop} {w w1 : World} {base : Nat} {v : Value} {l : List Int} (h : Zs w base v l) (ho : Off F w w1) (hf : ∀ b, b < w.heap.size → base ≤ b → ¬ F b) : Zs w1 base v l := by
  obtain ⟨A, cap, rfl, h1, h2⟩ := h
  refine ⟨A, cap, rfl, h1, fun hl => ?_⟩
  obtain ⟨b, rfl, hb, hc⟩ := h2 hl
  exact ⟨b, rfl, hb, fun j u hu => ho.cell_some (hc j u hu) (hf b (World.block_lt_of_cell? w _ (hc j u hu)) hb)⟩
theorem Zs.below {w w1 : World} {base : Nat} {v : Value} {l : List Int} (h : Zs w base v l) (hb : Below w.heap.size w w1) : Zs w1 base v l := h.keep (Off.of_below (F := fun _ => False) hb) (fun _ _ _ f => f)

/-- How a value of a map reads here: as itself. -/
def asHeld (v : Value) : Option (DataW Value × List MemPlace) := some (.held v, [])

theorem IMap.owns {w : World} {b : Nat} {m : List (Int × Value)} (h : IMap w b m) (hsz : m.length ≤ maxLen) (hwf : ∀ p ∈ m, (Lit.int .i64 p.1).wf = true) :
    ∃ D : DataW Value, w.ownsMap Try.prog 3 asHeld b m.length D ∧ (intKeys D).Perm (m.map (·.1)) ∧ Maps.size D = m.length := by
  obtain ⟨es, clock, hb, hs, hm⟩ := h
  have hlen : es.toList.length = m.length := by simpa using congrArg List.length hm
  have hrd : ∀ x ∈ es.toList, ∃ k : Int, x.key = .int .i64 k ∧ (Lit.int .i64 k).wf = true := fun x hx => by
    have : (x.key, x.val) ∈ m.map (fun p => (Value.int .i64 p.1, p.2)) := by rw [← hm]; exact List.mem_map.2 ⟨x, hx, rfl⟩
    obtain ⟨p, hp, e⟩ := List.mem_map.1 this
    simp only [Prod.mk.injEq] at e
    exact ⟨p.1, e.1.symm, hwf p hp⟩
  have hes : es.size = es.toList.length := by simp
  have hfit : Go.WideElems.Fit Try.prog 3 asHeld es clock := ⟨by omega, hs, fun x hx => by
    obtain ⟨k, hk, hw⟩ := hrd x hx
    exact ⟨_, Go.WideElems.rd_mk (by rw [hk]; exact keyOf_int_mk Try.underlying3 hw) rfl⟩⟩
  refine ⟨_, ⟨es, clock, hb, hfit, by omega, rfl⟩, ?_, ?_⟩
  · show (((es.toList.map (Go.WideElems.rg Try.prog 3 asHeld)).foldr DataW.insert []).map fun p => Go.intOf p.1).Perm _
    refine ((Go.WideShapes.sorted_perm _).map _).trans ?_
    have e : (es.toList.map (Go.WideElems.rg Try.prog 3 (asHeld))).map (fun p => Go.intOf p.1) = m.map (·.1) := by
      rw [List.map_map]
      have e2 : m.map (·.1) = (m.map (fun p => (Value.int .i64 p.1, p.2))).map (fun q => match q.1 with | .int _ k => k | _ => 0) := by
        rw [List.map_map]; apply List.map_congr_left; intro p _; rfl
      rw [e2, ← hm, List.map_map]
      apply List.map_congr_left
      intro x hx
      obtain ⟨k, hk, hw⟩ := hrd x hx
      simp only [Function.comp]
      rw [Go.WideElems.rg_of (Go.WideElems.rd_mk (by rw [hk]; exact keyOf_int_mk Try.underlying3 hw) rfl), hk]
      rfl
    rw [e]
  · show ((es.toList.map (Go.WideElems.rg Try.prog 3 asHeld)).foldr DataW.insert []).length = _
    rw [length_sorted]
    simpa using hlen

/-- slices.Sort's two contracts at this dump. -/
theorem sortsIn (m : Nat) : AnyZI.SortsIn Try.prog Try.sorted_ren Fence.wide m :=
  ⟨fun blk off cap ss W hH hblk hsz => callsIn_wide.2 (AnyM.slices_Sort_int Try.sort blk off cap ss W hH hblk hsz),
   fun p cap W => callsIn_wide.2 (AnyM.slices_Sort_int_none Try.sort p cap W)⟩

def SortedPost {α : Type} (w : World) (m : List (Int × α)) (e : Ending) (w' : World) : Prop :=
  ∃ v, e = .returned v ∧ Zs w' w.heap.size v (CoreM.keys m) ∧ Below w.heap.size w w'

theorem keysM_any (mb : Option Nat) (W : World) : Calls Try.prog 60 #[.map mb] W fun e w' => e = .returned (.func (.func 78) #[] #[.pointer (some ⟨W.heap.size, 0, none⟩)]) ∧ w' = W.alloc (.cells #[.map mb] 95) :=
  (callsIn_wide (n := 5)).1 (AnyZI.keys_in Try.keysM Fence.wide 5 trivial rfl mb W)

set_option maxHeartbeats 1000000 in
theorem sortedM_any (b : Nat) (m : List (Int × Value)) (w : World) (h : IMap w b m) (hsz : m.length ≤ 17592186044416) (hwf : ∀ p ∈ m, (Lit.int .i64 p.1).wf = true) :
    Calls Try.prog 59 #[.func (.func 78) #[] #[.pointer (some ⟨w.heap.size, 0, none⟩)]] (w.alloc (.cells #[.map (some b)] 95)) (SortedPost w m) := by
  obtain ⟨D, hown, hperm, hsize⟩ := h.owns (by unfold maxLen; omega) hwf
  have hlt := h.lt
  refine (callsIn_wide (n := 5)).1 ?_
  have hseq : SeqGives Fence.wide 2 Try.prog 78 #[.pointer (some ⟨w.heap.size, 0, none⟩)] encZ (fun ss => ss.Perm (intKeys D)) (Maps.size D) (w.alloc (.cells #[.map (some b)] 95)) :=
    AnyZI.keys_gives (ρ := Try.keysM_ren) { Try.keysM with } Fence.wide _ trivial rfl (by omega) w.heap.size b _ D _ (by simp) (by simp) (by
      obtain ⟨es, clock, hb, Ft, hs, hD⟩ := hown
      exact ⟨es, clock, (Below.heap_alloc _ _ b hlt).trans hb, Ft, hs, hD⟩)
  have cS := AnyZI.sorted_in Try.sorted Fence.wide 5 trivial trivial trivial trivial rfl (by omega) (sortsIn _) (enters_of Try.func77 (by kernel_rfl) rfl) 78 #[.pointer (some ⟨w.heap.size, 0, none⟩)] trivial (enters_of Try.func78 (by kernel_rfl) rfl) _ _ (by rw [hsize]; unfold maxLen; omega) (by rw [hsize]; omega) _ hseq
  change CallsIn _ _ Try.prog 59 _ _ _ at cS
  refine cS.mono ?_
  rintro e w' ⟨v, ss, rfl, hS, hrow, hnil, hb⟩
  refine ⟨v, rfl, ?_, ((Below.refl _ w).alloc (Nat.le_refl _) _).trans (hb.mono (by simp))⟩
  rw [show ss.mergeSort (fun x y => decide (x ≤ y)) = CoreM.keys m from (mergeSort_of_perm_i (hS.trans hperm)).trans (sortZ_eq _).symm] at hrow
  have := Zs.of_own hrow
  obtain ⟨A, cap, h1, h2, h3⟩ := this
  exact ⟨A, cap, h1, h2, fun hl => by obtain ⟨b, e, hb, hc⟩ := h3 hl; exact ⟨b, e, by simp at hb; omega, hc⟩⟩

theorem keysT_any (mb : Option Nat) (W : World) : Calls Try.prog 97 #[.map mb] W fun e w' => e = .returned (.func (.func 110) #[] #[.pointer (some ⟨W.heap.size, 0, none⟩)]) ∧ w' = W.alloc (.cells #[.map mb] 98) :=
  (callsIn_wide (n := 5)).1 (AnyZI.keys_in Try.keysT Fence.wide 5 trivial rfl mb W)

set_option maxHeartbeats 1000000 in
theorem sortedT_any (b : Nat) (m : List (Int × Value)) (w : World) (h : IMap w b m) (hsz : m.length ≤ 17592186044416) (hwf : ∀ p ∈ m, (Lit.int .i64 p.1).wf = true) :
    Calls Try.prog 59 #[.func (.func 110) #[] #[.pointer (some ⟨w.heap.size, 0, none⟩)]] (w.alloc (.cells #[.map (some b)] 98)) (SortedPost w m) := by
  obtain ⟨D, hown, hperm, hsize⟩ := h.owns (by unfold maxLen; omega) hwf
  have hlt := h.lt
  refine (callsIn_wide (n := 5)).1 ?_
  have hseq : SeqGives Fence.wide 2 Try.prog 110 #[.pointer (some ⟨w.heap.size, 0, none⟩)] encZ (fun ss => ss.Perm (intKeys D)) (Maps.size D) (w.alloc (.cells #[.map (some b)] 98)) :=
    AnyZI.keys_gives (ρ := Try.keysT_ren) { Try.keysT with } Fence.wide _ trivial rfl (by omega) w.heap.size b _ D _ (by simp) (by simp) (by
      obtain ⟨es, clock, hb, Ft, hs, hD⟩ := hown
      exact ⟨es, clock, (Below.heap_alloc _ _ b hlt).trans hb, Ft, hs, hD⟩)
  have cS := AnyZI.sorted_in Try.sorted Fence.wide 5 trivial trivial trivial trivial rfl (by omega) (sortsIn _) (enters_of Try.func77 (by kernel_rfl) rfl) 110 #[.pointer (some ⟨w.heap.size, 0, none⟩)] trivial (enters_of Try.func110 (by kernel_rfl) rfl) _ _ (by rw [hsize]; unfold maxLen; omega) (by rw [hsize]; omega) _ hseq
  change CallsIn _ _ Try.prog 59 _ _ _ at cS
  refine cS.mono ?_
  rintro e w' ⟨v, ss, rfl, hS, hrow, hnil, hb⟩
  refine ⟨v, rfl, ?_, ((Below.refl _ w).alloc (Nat.le_refl _) _).trans (hb.mono (by simp))⟩
  rw [show ss.mergeSort (fun x y => decide (x ≤ y)) = CoreM.keys m from (mergeSort_of_perm_i (hS.trans hperm)).trans (sortZ_eq _).symm] at hrow
  have := Zs.of_own hrow
  obtain ⟨A, cap, h1, h2, h3⟩ := this
  exact ⟨A, cap, h1, h2, fun hl => by obtain ⟨b, e, hb, hc⟩ := h3 hl; exact ⟨b, e, by simp at hb; omega, hc⟩⟩

set_option maxHeartbeats 1000000 in
/-- .. at the nil map. -/
theorem sortedT_nil (w : World) :
    Calls Try.prog 59 #[.func (.func 110) #[] #[.pointer (some ⟨w.heap.size, 0, none⟩)]] (w.alloc (.cells #[.map none] 98)) fun e w' => e = .returned (.slice none 0 0) ∧ Below w.heap.size w w' := by
  refine (callsIn_wide (n := 5)).1 ?_
  have hseq : SeqGives Fence.wide 2 Try.prog 110 #[.pointer (some ⟨w.heap.size, 0, none⟩)] encZ (fun ss : List Int => ss = []) 0 (w.alloc (.cells #[.map none] 98)) :=
    AnyZI.keys_gives_nil (ρ := Try.keysT_ren) { Try.keysT with } Fence.wide _ trivial rfl w.heap.size _ (by simp) (by simp)
  have cS := AnyZI.sorted_in Try.sorted Fence.wide 5 trivial trivial trivial trivial rfl (by omega) (sortsIn _) (enters_of Try.func77 (by kernel_rfl) rfl) 110 #[.pointer (some ⟨w.heap.size, 0, none⟩)] trivial (enters_of Try.func110 (by kernel_rfl) rfl) _ 0 (Nat.zero_le _) (by omega) _ hseq
  change CallsIn _ _ Try.prog 59 _ _ _ at cS
  refine cS.mono ?_
  rintro e w' ⟨v, ss, rfl, rfl, hrow, hnil, hb⟩
  obtain rfl : v = .slice none 0 0 := hnil.2 rfl
  exact ⟨rfl, ((Below.refl _ w).alloc (Nat.le_refl _) _).trans (hb.mono (by simp))⟩
end Go.Proofs.Ytkkmkkgjpmlhaaa
