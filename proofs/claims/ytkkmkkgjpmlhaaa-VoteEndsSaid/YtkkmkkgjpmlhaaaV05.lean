/- best: the greatest view below one in which a value is prepared. -/
import Derived.Test.YtkkmkkgjpmlhaaaV02
import Derived.Test.YtkkmkkgjpmlhaaaV04
import Derived.RangeFuncCalls
import Derived.RangeFuncNested
import Derived.RangeFuncBound
import Derived.Shelf.RegionOpen
import Derived.Shelf.Abstract
namespace Go.Proofs.Ytkkmkkgjpmlhaaa
open Go.RowKit Go.MapKept Go.Shelf
attribute [local go_sem] Oper.semAt_some

theorem CoreAt.below {w w1 : World} {ρ : Roles} {i b fid : Nat} {c : CoreM} (h : CoreAt w ρ i b fid c) (hb : Below w.heap.size w w1) : CoreAt w1 ρ i b fid c :=
  h.keep (Off.of_below (F := fun _ => False) hb) (Agr.refl _ _) (fun _ _ f => f.elim)

theorem backward_stops (F : Fence) (n : Nat) (h8 : F.fn 109) (hro : F.round = none) (hn : 1 ≤ n) (Bs : Nat) (A : Option Addr) (cap : Nat) (zs : List Int) (hreach : zs.length ≤ 17592186044416) (w : World) (hBs : Bs < w.heap.size)
    (hc : w.cell? ⟨Bs, 0, none⟩ = some (.slice A zs.length cap)) (hz : Zs w 0 (.slice A zs.length cap) zs) :
    SeqStopsK F n Try.prog 109 #[.pointer (some ⟨Bs, 0, none⟩)] (fun x : Int × Int => #[Value.int .i64 x.1, Value.int .i64 x.2]) (Below w.heap.size) (fun ys => ys = upto (fun j => ((zs.length : Int) - 1 - j, zs.reverse[j]?.getD 0)) zs.length)
      (fun pre => ∃ k, k ≤ zs.length ∧ pre = upto (fun j => ((zs.length : Int) - 1 - j, zs.reverse[j]?.getD 0)) k) zs.length w := fun l J Jx W hW _ _ hY h0 => by
  refine backward1_in F n h8 hro hn l Bs w.heap.size (.slice A zs.length cap) zs hreach J Jx hY W ((hW.cell (p := ⟨Bs, 0, none⟩) hBs).trans hc) hBs (hz.below hW) (fun A' c' e h0 ad ha => ?_) h0
  cases e
  subst ha
  obtain ⟨A', c', e, hcc, hcs⟩ := hz
  cases e
  obtain ⟨b, e, _, hcl⟩ := hcs h0
  cases e
  exact World.block_lt_of_cell? w _ (hcl 0 _ (List.getElem?_eq_getElem h0))

/-- The roles of the blocks that are there. -/
def Roles.till (ρ : Roles) (i n : Nat) : Roles := fun k => if k < n then ρ k else (i, 0, 0)
theorem CoreAt.till {w : World} {ρ : Roles} {i b fid : Nat} {c : CoreM} (h : CoreAt w ρ i b fid c) : CoreAt w (ρ.till i w.heap.size) i b fid c :=
  h.keep (Off.refl (fun _ => False) w) (fun k hk => by unfold Roles.till; rw [if_pos hk]) (fun _ _ f => f.elim)
theorem Bs.back {w W : World} {ρ : Roles} {i : Nat} {v : Value} {l : List UInt8} (h : Bs W (fun k => ρ.till i w.heap.size k = (i, 2, 0)) v l) (hb : Below w.heap.size w W) : Bs w (fun k => ρ k = (i, 2, 0)) v l := by
  obtain ⟨A, cap, rfl, h1, h2, h3⟩ := h
  refine ⟨A, cap, rfl, h1, h2, fun hl => ?_⟩
  obtain ⟨b, off, rfl, hO, hc⟩ := h3 hl
  have hlt : b < w.heap.size := by
    unfold Roles.till at hO
    split at hO
    · assumption
    · cases hO
  refine ⟨b, off, rfl, by unfold Roles.till at hO; rwa [if_pos hlt] at hO, fun j u hu => ?_⟩
  rw [← hb.cell (p := ⟨b, off + j, none⟩) hlt]
  exact hc j u hu

theorem upto_snd (zs : List Int) (k : Nat) (hk : k ≤ zs.length) : (upto (fun j => ((zs.length : Int) - 1 - j, zs.reverse[j]?.getD 0)) k).map (·.2) = zs.reverse.take k := by
  unfold upto
  rw [List.map_map]
  apply List.ext_getElem?
  intro j
  rw [List.getElem?_map, List.getElem?_take]
  by_cases hj : j < k
  · rw [if_pos hj, List.getElem?_range hj]
    have : j < zs.reverse.length := by simp; omega
    simp [List.getElem?_eq_getElem this]
  · rw [if_neg hj, List.getElem?_eq_none (by simpa using hj)]
    rfl

theorem best_none {c : CoreM} {below : Int} {ys : List (Int × Int)} (hys : ys.map (·.2) = (CoreM.keys c.preps).reverse) (h : ∀ x ∈ ys, c.bestAt below x.2 = none) : c.best below = none := by
  unfold CoreM.best
  rw [List.findSome?_eq_none_iff, ← hys]
  intro x hx
  obtain ⟨y, hy, rfl⟩ := List.mem_map.1 hx
  exact h y hy
theorem best_some {c : CoreM} {below view kx : Int} {pre pre' : List (Int × Int)} {k : Nat} {v : List UInt8} (hys : pre.map (·.2) = (CoreM.keys c.preps).reverse.take k) (hpp : pre = pre' ++ [(kx, view)]) (h : ∀ x ∈ pre', c.bestAt below x.2 = none)
    (hs : c.bestAt below view = some (view, v)) : c.best below = some (view, v) := by
  unfold CoreM.best
  rw [← List.take_append_drop k (CoreM.keys c.preps).reverse, ← hys, hpp, List.map_append, List.findSome?_append, List.findSome?_append]
  have h0 : (pre'.map (·.2)).findSome? (c.bestAt below) = none := by
    rw [List.findSome?_eq_none_iff]
    intro x hx
    obtain ⟨y, hy, rfl⟩ := List.mem_map.1 hx
    exact h y hy
  rw [h0]
  simp [hs]

/-- What best hands back. -/
def BestPost (w : World) (O : Nat → Prop) (r : Option (Int × List UInt8)) (e : Ending) (w' : World) : Prop :=
  ∃ v, e = .returned (.tuple #[.int .i64 ((r.map (·.1)).getD (-1)), v, .bool r.isSome]) ∧ Bs w O v ((r.map (·.2)).getD []) ∧ Below w.heap.size w w'

set_option maxRecDepth 100000 in
set_option maxHeartbeats 2000000 in
theorem best_any {ρ : Roles} {i b fid : Nat} {c : CoreM} (below : Int) (w : World) (h : CoreAt w ρ i b fid c) (ok : c.Ok) (hk : TMOk c.preps) :
    Calls Try.prog 85 #[.pointer (some ⟨b, 0, none⟩), .int .i64 below] w (BestPost w (fun k => ρ k = (i, 2, 0)) (c.best below)) := by
  obtain ⟨vw, vl, vv, bp, b1, b2, b3, bs, bd, hp⟩ := id h
  obtain ⟨hr1, z, him, hz1, hz2⟩ := hp.preps
  have c8 := hp.cell 8
  simp only [coreCells, List.getElem?_toArray, List.getElem?_cons_zero, List.getElem?_cons_succ] at c8
  have hlt := hp.lt
  have hkz : KeysOk z := by have := hk.1; rw [hz1] at this; exact this.mv
  have hb5 : Below w.heap.size w (((((w.alloc (.cells #[.pointer (some ⟨b, 0, none⟩)] 26)).alloc (.cells #[.int .i64 below] 3)).alloc (.cells #[.int .i64 0] 3)).alloc (.cells #[.slice none 0 0] 29)).alloc (.cells #[.bool false] 4)) :=
    (((((Below.refl _ w).alloc (Nat.le_refl _) _).alloc (by simp) _).alloc (by simp; omega) _).alloc (by simp; omega) _).alloc (by simp; omega) _
  have q8 : (((((w.alloc (.cells #[.pointer (some ⟨b, 0, none⟩)] 26)).alloc (.cells #[.int .i64 below] 3)).alloc (.cells #[.int .i64 0] 3)).alloc (.cells #[.slice none 0 0] 29)).alloc (.cells #[.bool false] 4)).cell? ⟨b, 8, none⟩ = some (.map (some b1)) := (hb5.cell (p := ⟨b, 8, none⟩) hlt).trans c8
  have cS := sortedM_any b1 _ _ (him.below hb5) (by simpa [mv] using hkz.1) hkz.to_mv.2
  rw [show SortedPost (((((w.alloc (.cells #[.pointer (some ⟨b, 0, none⟩)] 26)).alloc (.cells #[.int .i64 below] 3)).alloc (.cells #[.int .i64 0] 3)).alloc (.cells #[.slice none 0 0] 29)).alloc (.cells #[.bool false] 4)) (mv (fun x : Nat × List (Int × List UInt8) => Value.map (some x.1)) z) = SortedPost (((((w.alloc (.cells #[.pointer (some ⟨b, 0, none⟩)] 26)).alloc (.cells #[.int .i64 below] 3)).alloc (.cells #[.int .i64 0] 3)).alloc (.cells #[.slice none 0 0] 29)).alloc (.cells #[.bool false] 4)) z from by unfold SortedPost; rw [keys_mv]] at cS
  simp only [World.size_alloc] at cS
  refine (callsIn_wide (n := 6)).1 ?_
  refine callsIn_of_wp_marks Try.func85 rfl trivial ?_ rfl
  simp only [Try.ntmps85, List.size_toArray, List.length_cons, List.length_nil, Nat.reduceAdd, Nat.reduceSub, Array.replicate_succ, Array.replicate_zero, List.push_toArray, List.append_toArray, List.nil_append, List.cons_append]
  gi_wp2_with (first
    | (refine ⟨trivial, ?_⟩; gi_at_call 60; refine (callsIn_wide.2 (keysM_any _ _)).mono ?_; rintro e w' ⟨rfl, rfl⟩)
    | (refine ⟨trivial, ?_⟩; gi_at_call 59; refine (callsIn_wide.2 cS).mono ?_; rintro e w1 ⟨v, rfl, hzs, hb1⟩; obtain ⟨A, cap, rfl, hcap, hcells⟩ := id hzs)
    | (refine ⟨trivial, ?_⟩; gi_at_call 95; refine (callsIn_wide.2 (backward_any _ _ _ _)).mono ?_; rintro e w' ⟨rfl, rfl⟩))
  have hbw1 : Below w.heap.size w w1 := hb5.trans (hb1.mono (by simp; omega))
  have hs1 : w.heap.size + 1 + 1 + 1 + 1 + 1 ≤ w1.heap.size := by have := hb1.size; simpa using this
  have hg : ∀ k, k < w.heap.size + 1 + 1 + 1 + 1 + 1 → (w1.alloc (.cells #[.slice A (CoreM.keys z).length cap] 51)).heap[k]? = (((((w.alloc (.cells #[.pointer (some ⟨b, 0, none⟩)] 26)).alloc (.cells #[.int .i64 below] 3)).alloc (.cells #[.int .i64 0] 3)).alloc (.cells #[.slice none 0 0] 29)).alloc (.cells #[.bool false] 4)).heap[k]? := fun k hk => (Below.heap_alloc w1 _ k (by omega)).trans (hb1.block k (by simpa using hk))
  have hcc : ∀ k, k < w.heap.size + 1 + 1 + 1 + 1 + 1 → (w1.alloc (.cells #[.slice A (CoreM.keys z).length cap] 51)).cell? ⟨k, 0, none⟩ = (((((w.alloc (.cells #[.pointer (some ⟨b, 0, none⟩)] 26)).alloc (.cells #[.int .i64 below] 3)).alloc (.cells #[.int .i64 0] 3)).alloc (.cells #[.slice none 0 0] 29)).alloc (.cells #[.bool false] 4)).cell? ⟨k, 0, none⟩ := fun k hk => World.cell?_of_block (a := ⟨k, 0, none⟩) (hg k hk)
  have hff : ∀ k, k < w.heap.size + 1 + 1 + 1 + 1 + 1 → (w1.alloc (.cells #[.slice A (CoreM.keys z).length cap] 51)).frozen? ⟨k, 0, none⟩ = (((((w.alloc (.cells #[.pointer (some ⟨b, 0, none⟩)] 26)).alloc (.cells #[.int .i64 below] 3)).alloc (.cells #[.int .i64 0] 3)).alloc (.cells #[.slice none 0 0] 29)).alloc (.cells #[.bool false] 4)).frozen? ⟨k, 0, none⟩ := fun k hk => World.frozen?_of_block (a := ⟨k, 0, none⟩) (hg k hk)
  have hB2 : Below w.heap.size w (w1.alloc (.cells #[.slice A (CoreM.keys z).length cap] 51)) := hbw1.alloc (by omega) _
  have hzl : Zs (w1.alloc (.cells #[.slice A (CoreM.keys z).length cap] 51)) 0 (.slice A (CoreM.keys z).length cap) (CoreM.keys z) := by
    obtain ⟨A', c', e, hcc, hcs⟩ := hzs.below ((Below.refl w1.heap.size w1).alloc (Nat.le_refl _) (.cells #[.slice A (CoreM.keys z).length cap] 51))
    exact ⟨A', c', e, hcc, fun hl => by obtain ⟨b, e, _, hcl⟩ := hcs hl; exact ⟨b, e, Nat.zero_le _, hcl⟩⟩
  have hbox : (w1.alloc (.cells #[.slice A (CoreM.keys z).length cap] 51)).cell? ⟨w1.heap.size, 0, none⟩ = some (.slice A (CoreM.keys z).length cap) := by
    unfold World.cell?; rw [heap_alloc_new]; rfl
  have HI0 : (w1.alloc (.cells #[.slice A (CoreM.keys z).length cap] 51)).cell? ⟨w.heap.size, 0, none⟩ = some (.pointer (some ⟨b, 0, none⟩)) ∧ (w1.alloc (.cells #[.slice A (CoreM.keys z).length cap] 51)).cell? ⟨w.heap.size + 1, 0, none⟩ = some (.int .i64 below) ∧ (w1.alloc (.cells #[.slice A (CoreM.keys z).length cap] 51)).cell? ⟨w.heap.size + 1 + 1, 0, none⟩ = some (.int .i64 0) ∧ (w1.alloc (.cells #[.slice A (CoreM.keys z).length cap] 51)).cell? ⟨w.heap.size + 1 + 1 + 1, 0, none⟩ = some (.slice none 0 0) ∧ (w1.alloc (.cells #[.slice A (CoreM.keys z).length cap] 51)).cell? ⟨w.heap.size + 1 + 1 + 1 + 1, 0, none⟩ = some (.bool false) ∧ (w1.alloc (.cells #[.slice A (CoreM.keys z).length cap] 51)).frozen? ⟨w.heap.size + 1 + 1, 0, none⟩ = false ∧ (w1.alloc (.cells #[.slice A (CoreM.keys z).length cap] 51)).frozen? ⟨w.heap.size + 1 + 1 + 1, 0, none⟩ = false ∧ (w1.alloc (.cells #[.slice A (CoreM.keys z).length cap] 51)).frozen? ⟨w.heap.size + 1 + 1 + 1 + 1, 0, none⟩ = false := by
    refine ⟨?_, ?_, ?_, ?_, ?_, ?_, ?_, ?_⟩
    · rw [hcc _ (by omega)]
      rw [cell_alloc_old _ _ _ _ (by simp <;> omega), cell_alloc_old _ _ _ _ (by simp <;> omega), cell_alloc_old _ _ _ _ (by simp <;> omega), cell_alloc_old _ _ _ _ (by simp <;> omega), cell_alloc_new _ _ _ _ _ (by simp)]; rfl
    · rw [hcc _ (by omega)]
      rw [cell_alloc_old _ _ _ _ (by simp <;> omega), cell_alloc_old _ _ _ _ (by simp <;> omega), cell_alloc_old _ _ _ _ (by simp <;> omega), cell_alloc_new _ _ _ _ _ (by simp)]; rfl
    · rw [hcc _ (by omega)]
      rw [cell_alloc_old _ _ _ _ (by simp <;> omega), cell_alloc_old _ _ _ _ (by simp <;> omega), cell_alloc_new _ _ _ _ _ (by simp)]; rfl
    · rw [hcc _ (by omega)]
      rw [cell_alloc_old _ _ _ _ (by simp <;> omega), cell_alloc_new _ _ _ _ _ (by simp)]; rfl
    · rw [hcc _ (by omega)]
      rw [cell_alloc_new _ _ _ _ _ (by simp)]; rfl
    · rw [hff _ (by omega)]
      rw [frozen_alloc_old _ _ _ _ (by simp <;> omega), frozen_alloc_old _ _ _ _ (by simp <;> omega), frozen_alloc_new _ _ _ _ _ (by simp)]
    · rw [hff _ (by omega)]
      rw [frozen_alloc_old _ _ _ _ (by simp <;> omega), frozen_alloc_new _ _ _ _ _ (by simp)]
    · rw [hff _ (by omega)]
      rw [frozen_alloc_new _ _ _ _ _ (by simp)]
  have HZ := hid hzl
  clear hg hcc hff hcells hzs cS q8 hb1
  refine wpIn_rangeFunc_ownF rfl (by omega) (gf := 109) (lb := #[.pointer (some ⟨w1.heap.size, 0, none⟩)]) rfl trivial (enters_of Try.func109 (by kernel_rfl) rfl)
    (backward_stops Fence.wide 5 trivial rfl (by omega) w1.heap.size A cap (CoreM.keys z) (by rw [length_keys]; exact hkz.1) _ (by simp) hbox HZ.out) belowK_t (belowK_b (by simp)) (Below.refl _ _) (fun _ => rfl)
    (fun pre W => ((∀ x ∈ pre, c.bestAt below x.2 = none) ∧ W.cell? ⟨w.heap.size, 0, none⟩ = some (.pointer (some ⟨b, 0, none⟩)) ∧ W.cell? ⟨w.heap.size + 1, 0, none⟩ = some (.int .i64 below) ∧ W.cell? ⟨w.heap.size + 1 + 1, 0, none⟩ = some (.int .i64 0) ∧ W.cell? ⟨w.heap.size + 1 + 1 + 1, 0, none⟩ = some (.slice none 0 0) ∧ W.cell? ⟨w.heap.size + 1 + 1 + 1 + 1, 0, none⟩ = some (.bool false) ∧ W.frozen? ⟨w.heap.size + 1 + 1, 0, none⟩ = false ∧ W.frozen? ⟨w.heap.size + 1 + 1 + 1, 0, none⟩ = false ∧ W.frozen? ⟨w.heap.size + 1 + 1 + 1 + 1, 0, none⟩ = false ∧ (w1.alloc (.cells #[.slice A (CoreM.keys z).length cap] 51)).heap.size ≤ W.heap.size) ∧ Below w.heap.size w W)
    (fun j pre W => (∃ (v : Value × List UInt8) (view : Int) (pre' : List (Int × Int)) (k : Int), j = .ret ∧ pre = pre' ++ [(k, view)] ∧ (∀ x ∈ pre', c.bestAt below x.2 = none) ∧ c.bestAt below view = some (view, v.2) ∧ Bs w (fun k => ρ k = (i, 2, 0)) v.1 v.2 ∧ W.cell? ⟨w.heap.size + 1 + 1, 0, none⟩ = some (.int .i64 view) ∧ W.cell? ⟨w.heap.size + 1 + 1 + 1, 0, none⟩ = some v.1 ∧ W.cell? ⟨w.heap.size + 1 + 1 + 1 + 1, 0, none⟩ = some (.bool true)) ∧ Below w.heap.size w W)
    ?hI ?hIx ⟨⟨by simp, HI0.1, HI0.2.1, HI0.2.2.1, HI0.2.2.2.1, HI0.2.2.2.2.1, HI0.2.2.2.2.2.1, HI0.2.2.2.2.2.2.1, HI0.2.2.2.2.2.2.2, Nat.le_refl _⟩, hB2⟩
    (fun x : Int × Int => { tmps := #[.pointer (some ⟨b, 0, none⟩), .int .i64 below, .pointer (some ⟨w.heap.size, 0, none⟩), .pointer (some ⟨w.heap.size + 1, 0, none⟩), .pointer (some ⟨w.heap.size + 1 + 1, 0, none⟩), .pointer (some ⟨w.heap.size + 1 + 1 + 1, 0, none⟩), .pointer (some ⟨w.heap.size + 1 + 1 + 1 + 1, 0, none⟩), undef, .int .i64 x.2, undef, undef, .pointer (some ⟨b, 0, none⟩), .pointer (some ⟨b, 0, none⟩), .pointer (some ⟨b, 8, none⟩), .map (some b1), .func (.func 78) #[] #[.pointer (some ⟨w.heap.size + 1 + 1 + 1 + 1 + 1, 0, none⟩)], .slice A (CoreM.keys z).length cap, .func (.func 109) #[] #[.pointer (some ⟨w1.heap.size, 0, none⟩)], .int .i64 x.1, .int .i64 x.2, undef, undef, undef, undef, undef, undef, undef, undef, undef, undef, undef, undef, undef, undef], defers := [] }) ?assign ?body ?done ?stop
  case hI =>
    refine OwnFrom.and (Own.from (fun s A B row hs hg hr => ?_) _) (ownFrom_below (Nat.le_refl _) (by simp; omega))
    obtain ⟨h1, e0, e1, e2, e3, e4, f2, f3, f4, hz⟩ := hs
    exact ⟨h1, cell_kept e0 hg hr, cell_kept e1 hg hr, cell_kept e2 hg hr, cell_kept e3 hg hr, cell_kept e4 hg hr, (frozen_kept e2 hg hr).trans f2, (frozen_kept e3 hg hr).trans f3, (frozen_kept e4 hg hr).trans f4, Nat.le_trans hz hg.size⟩
  case hIx =>
    refine fun j => OwnFrom.and (Own.from (fun s A B row hs hg hr => ?_) _) (ownFrom_below (Nat.le_refl _) (by simp; omega))
    obtain ⟨v, view, pre', k, h1, h2, h3, h4, h5, g2, g3, g4⟩ := hs
    exact ⟨v, view, pre', k, h1, h2, h3, h4, h5, cell_kept g2 hg hr, cell_kept g3 hg hr, cell_kept g4 hg hr⟩
  case assign =>
    intro l x W K hK
    gi_wp2
    exact hK
  case body =>
    rintro l pre x W ⟨⟨hpre, e0, e1, e2, e3, e4, f2, f3, f4, hW2⟩, hB⟩ _
    have cP := prepared_any x.2 W (h.till.below hB) ok hk
    have l1 := World.block_lt_of_cell? W _ e1
    have l2 := World.block_lt_of_cell? W _ e2
    have l3 := World.block_lt_of_cell? W _ e3
    have l4 := World.block_lt_of_cell? W _ e4
    have l0 := World.block_lt_of_cell? W _ e0
    cases hpr : c.prepared x.2 with
    | none =>
      have hbest : c.bestAt below x.2 = none := by unfold CoreM.bestAt; rw [hpr]
      rw [hpr] at cP
      have HB := hid hbest
      clear hbest hpr
      gi_wp2_with (refine ⟨trivial, ?_⟩; gi_at_call 87; refine (CallsIn.inRound l (callsIn_wide.2 cP)).mono ?_; rintro e w3 ⟨v, rfl, hv, hbw⟩)
      refine ⟨⟨hbw.size, fun k o hk _ => (hbw.block k (heap_lt hk)).trans hk⟩, hbw.mono hW2, ⟨fun y hy => ?_, (hbw.cell (p := ⟨w.heap.size, 0, none⟩) l0).trans e0, (hbw.cell (p := ⟨w.heap.size + 1, 0, none⟩) l1).trans e1, (hbw.cell (p := ⟨w.heap.size + 1 + 1, 0, none⟩) l2).trans e2, (hbw.cell (p := ⟨w.heap.size + 1 + 1 + 1, 0, none⟩) l3).trans e3, (hbw.cell (p := ⟨w.heap.size + 1 + 1 + 1 + 1, 0, none⟩) l4).trans e4, (hbw.frozen (p := ⟨w.heap.size + 1 + 1, 0, none⟩) l2).trans f2, (hbw.frozen (p := ⟨w.heap.size + 1 + 1 + 1, 0, none⟩) l3).trans f3, (hbw.frozen (p := ⟨w.heap.size + 1 + 1 + 1 + 1, 0, none⟩) l4).trans f4, Nat.le_trans hW2 hbw.size⟩, hB.trans (hbw.mono hB.size)⟩
      rcases List.mem_append.1 hy with hy | hy
      · exact hpre y hy
      · rw [List.mem_singleton.1 hy]; exact HB.out
    | some vb =>
      rw [hpr] at cP
      by_cases hlt2 : x.2 < below
      · have hbest : c.bestAt below x.2 = some (x.2, vb) := by unfold CoreM.bestAt; rw [hpr]; exact if_pos hlt2
        have HB := hid hbest
        clear hbest hpr
        gi_wp2_with (refine ⟨trivial, ?_⟩; gi_at_call 87; refine (CallsIn.inRound l (callsIn_wide.2 cP)).mono ?_; rintro e w3 ⟨v, rfl, hv, hbw⟩; obtain ⟨Av, cv, rfl, hvx⟩ := id hv; have e1' := (hbw.cell (p := ⟨w.heap.size + 1, 0, none⟩) l1).trans e1; have e2' := (hbw.cell (p := ⟨w.heap.size + 1 + 1, 0, none⟩) l2).trans e2; have e3' := (hbw.cell (p := ⟨w.heap.size + 1 + 1 + 1, 0, none⟩) l3).trans e3; have e4' := (hbw.cell (p := ⟨w.heap.size + 1 + 1 + 1 + 1, 0, none⟩) l4).trans e4; have f2' := (hbw.frozen (p := ⟨w.heap.size + 1 + 1, 0, none⟩) l2).trans f2; have f3' := (hbw.frozen (p := ⟨w.heap.size + 1 + 1 + 1, 0, none⟩) l3).trans f3; have f4' := (hbw.frozen (p := ⟨w.heap.size + 1 + 1 + 1 + 1, 0, none⟩) l4).trans f4)
        have hvw := hv.back hB
        refine ⟨((⟨hbw.size, fun k o hk _ => (hbw.block k (heap_lt hk)).trans hk⟩ : KeepsOthers W w3).trans (KeepsOthers.setCell _ _ _)).trans ((KeepsOthers.setCell _ _ _).trans (KeepsOthers.setCell _ _ _)), ⟨⟨(.slice Av vb.length cv, vb), x.2, pre, x.1, rfl, rfl, hpre, HB.out, hvw, ?_, ?_, ?_⟩, (((hB.trans (hbw.mono hB.size)).setCell (p := ⟨w.heap.size + 1 + 1, 0, none⟩) (by simp; omega) _).setCell (p := ⟨w.heap.size + 1 + 1 + 1, 0, none⟩) (by simp; omega) _).setCell (p := ⟨w.heap.size + 1 + 1 + 1 + 1, 0, none⟩) (by simp; omega) _⟩⟩
        · rw [World.cell?_setCell_other _ _ _ _ (by simp), World.cell?_setCell_other _ _ _ _ (by simp)]; exact World.cell?_setCell_same' _ _ _ (by rw [e2']; rfl)
        · rw [World.cell?_setCell_other _ _ _ _ (by simp)]; exact World.cell?_setCell_same' _ _ _ (by rw [World.cell?_setCell_other _ _ _ _ (by simp), e3']; rfl)
        · exact World.cell?_setCell_same' _ _ _ (by rw [World.cell?_setCell_other _ _ _ _ (by simp), World.cell?_setCell_other _ _ _ _ (by simp), e4']; rfl)
      · have hbest : c.bestAt below x.2 = none := by unfold CoreM.bestAt; rw [hpr]; exact if_neg hlt2
        have HB := hid hbest
        clear hbest hpr
        gi_wp2_with (refine ⟨trivial, ?_⟩; gi_at_call 87; refine (CallsIn.inRound l (callsIn_wide.2 cP)).mono ?_; rintro e w3 ⟨v, rfl, hv, hbw⟩; have e1' := (hbw.cell (p := ⟨w.heap.size + 1, 0, none⟩) l1).trans e1)
        refine ⟨⟨hbw.size, fun k o hk _ => (hbw.block k (heap_lt hk)).trans hk⟩, hbw.mono hW2, ⟨fun y hy => ?_, (hbw.cell (p := ⟨w.heap.size, 0, none⟩) l0).trans e0, (hbw.cell (p := ⟨w.heap.size + 1, 0, none⟩) l1).trans e1, (hbw.cell (p := ⟨w.heap.size + 1 + 1, 0, none⟩) l2).trans e2, (hbw.cell (p := ⟨w.heap.size + 1 + 1 + 1, 0, none⟩) l3).trans e3, (hbw.cell (p := ⟨w.heap.size + 1 + 1 + 1 + 1, 0, none⟩) l4).trans e4, (hbw.frozen (p := ⟨w.heap.size + 1 + 1, 0, none⟩) l2).trans f2, (hbw.frozen (p := ⟨w.heap.size + 1 + 1 + 1, 0, none⟩) l3).trans f3, (hbw.frozen (p := ⟨w.heap.size + 1 + 1 + 1 + 1, 0, none⟩) l4).trans f4, Nat.le_trans hW2 hbw.size⟩, hB.trans (hbw.mono hB.size)⟩
        rcases List.mem_append.1 hy with hy | hy
        · exact hpre y hy
        · rw [List.mem_singleton.1 hy]; exact HB.out
  case done =>
    rintro D ys W hD rfl ⟨⟨hpre, e0, e1, e2, e3, e4, f2, f3, f4, hW2⟩, hB⟩ hK
    have hbn : c.best below = none := best_none (by rw [upto_snd _ _ (Nat.le_refl _), List.take_of_length_le (by simp), hz1, keys_mv]) hpre
    have HB := hid hbn
    clear hbn hpre
    gi_wp2
    have hK' := (((KeepsOthers.setCell W ⟨w.heap.size + 1 + 1, 0, none⟩ (.int .i64 (-1))).trans (KeepsOthers.setCell _ ⟨w.heap.size + 1 + 1 + 1, 0, none⟩ (.slice none 0 0))).trans (KeepsOthers.setCell _ ⟨w.heap.size + 1 + 1 + 1 + 1, 0, none⟩ (.bool false))).same D _ hK rfl
    refine ⟨by simp, .inl ⟨_, _, rfl, run_takeDeferred hK', ?_⟩⟩
    have hc2 := cell_kept ((by rw [World.cell?_setCell_other _ _ _ _ (by simp), World.cell?_setCell_other _ _ _ _ (by simp)]; exact World.cell?_setCell_same' _ _ _ (by rw [e2]; rfl) : (((W.setCell ⟨w.heap.size + 1 + 1, 0, none⟩ (.int .i64 (-1))).setCell ⟨w.heap.size + 1 + 1 + 1, 0, none⟩ (.slice none 0 0)).setCell ⟨w.heap.size + 1 + 1 + 1 + 1, 0, none⟩ (.bool false)).cell? ⟨w.heap.size + 1 + 1, 0, none⟩ = some (.int .i64 (-1)))) (grownBy_putObj' _ D (.deferred none)) (fun r e => by cases e; exact ⟨_, hK', rfl⟩)
    have hc3 := cell_kept ((by rw [World.cell?_setCell_other _ _ _ _ (by simp)]; exact World.cell?_setCell_same' _ _ _ (by rw [World.cell?_setCell_other _ _ _ _ (by simp), e3]; rfl) : (((W.setCell ⟨w.heap.size + 1 + 1, 0, none⟩ (.int .i64 (-1))).setCell ⟨w.heap.size + 1 + 1 + 1, 0, none⟩ (.slice none 0 0)).setCell ⟨w.heap.size + 1 + 1 + 1 + 1, 0, none⟩ (.bool false)).cell? ⟨w.heap.size + 1 + 1 + 1, 0, none⟩ = some (.slice none 0 0))) (grownBy_putObj' _ D (.deferred none)) (fun r e => by cases e; exact ⟨_, hK', rfl⟩)
    have hc4 := cell_kept ((by exact World.cell?_setCell_same' _ _ _ (by rw [World.cell?_setCell_other _ _ _ _ (by simp), World.cell?_setCell_other _ _ _ _ (by simp), e4]; rfl) : (((W.setCell ⟨w.heap.size + 1 + 1, 0, none⟩ (.int .i64 (-1))).setCell ⟨w.heap.size + 1 + 1 + 1, 0, none⟩ (.slice none 0 0)).setCell ⟨w.heap.size + 1 + 1 + 1 + 1, 0, none⟩ (.bool false)).cell? ⟨w.heap.size + 1 + 1 + 1 + 1, 0, none⟩ = some (.bool false))) (grownBy_putObj' _ D (.deferred none)) (fun r e => by cases e; exact ⟨_, hK', rfl⟩)
    refine ⟨.tuple #[.int .i64 (-1), .slice none 0 0, .bool false], ?_, ⟨.slice none 0 0, by rw [HB.out]; rfl, by rw [HB.out]; exact Bs.nil _ _, (((hB.setCell (p := ⟨w.heap.size + 1 + 1, 0, none⟩) (by simp; omega) _).setCell (p := ⟨w.heap.size + 1 + 1 + 1, 0, none⟩) (by simp; omega) _).setCell (p := ⟨w.heap.size + 1 + 1 + 1 + 1, 0, none⟩) (by simp; omega) _).trans (belowK_b (w := w) (Nat.le_refl _) _ D _ _ (by simp at hD; omega) hK' rfl rfl)⟩⟩
    simp [results, Try.f85, go_sem, hc2, hc3, hc4]
  case stop =>
    rintro D j pre W hD ⟨kk, hkk, hpe⟩ ⟨⟨v, view, pre', k, rfl, hpp, hnone, hsome, hv, g2, g3, g4⟩, hB⟩ hK
    have hbs2 : c.best below = some (view, v.2) := best_some (k := kk) (by rw [hpe, upto_snd _ _ hkk, hz1, keys_mv]) hpp hnone hsome
    have HB := hid hbs2
    clear hbs2 hnone hsome hpp hpe
    gi_wp2
    have hK' := hK
    refine ⟨by simp, .inl ⟨_, _, rfl, run_takeDeferred hK, ?_⟩⟩
    have hc2 := cell_kept (g2) (grownBy_putObj' _ D (.deferred none)) (fun r e => by cases e; exact ⟨_, hK', rfl⟩)
    have hc3 := cell_kept (g3) (grownBy_putObj' _ D (.deferred none)) (fun r e => by cases e; exact ⟨_, hK', rfl⟩)
    have hc4 := cell_kept (g4) (grownBy_putObj' _ D (.deferred none)) (fun r e => by cases e; exact ⟨_, hK', rfl⟩)
    refine ⟨.tuple #[.int .i64 view, v.1, .bool true], ?_, ⟨v.1, by rw [HB.out]; rfl, by rw [HB.out]; exact hv, hB.trans (belowK_b (w := w) (Nat.le_refl _) W D _ _ (by simp at hD; omega) hK rfl rfl)⟩⟩
    obtain ⟨Av, cv, hve, _⟩ := hv
    rw [hve] at hc3 ⊢
    simp [results, Try.f85, go_sem, hc2, hc3, hc4]
end Go.Proofs.Ytkkmkkgjpmlhaaa
