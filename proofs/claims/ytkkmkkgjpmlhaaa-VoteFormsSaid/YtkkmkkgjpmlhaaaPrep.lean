/- What is prepared; the best; the turn. -/
import Derived.Test.YtkkmkkgjpmlhaaaCore
import Derived.Deep.RegionHeld3
namespace Go.Proofs.Ytkkmkkgjpmlhaaa
open Go.RowKit Go.MapKept

def TMOk (t : TM) : Prop := KeysOk t ∧ ∀ p ∈ t, KeysOk p.2
theorem TMOk.inner {t : TM} (h : TMOk t) (view : Int) : KeysOk (inner t view) := by
  unfold Ytkkmkkgjpmlhaaa.inner
  cases hl : t.lookup view with
  | none => exact ⟨by simp, by simp⟩
  | some x => exact h.2 _ (lookup_mem hl)

/-- Keys of a core that can be. -/
structure CoreM.Keys (c : CoreM) : Prop where
  props : KeysOk c.props
  preps : TMOk c.preps
  comms : TMOk c.comms
  turns : TMOk c.turns
  seen : KeysOk c.seen
  decs : KeysOk c.decs

/-- What a look-up in a map of maps finds. -/
theorem Outer.find {w : World} {ρ : Roles} {i kind b : Nat} {t : TM} (h : Outer w ρ i kind b t) (view : Int) :
    ∃ v, (∀ W, Below w.heap.size w W → (Instr.lookup 95 (.map (some b)) (.int .i64 view) false).run Try.prog W = .ok v W) ∧ ∀ W, Below w.heap.size w W → ToldV W (fun k => ρ k = (i, 2, 0)) v (inner t view) := by
  obtain ⟨hr, z, h1, rfl, h3⟩ := h
  have e : ∀ W, Below w.heap.size w W → (Instr.lookup 95 (.map (some b)) (.int .i64 view) false).run Try.prog W = .ok (((mv (fun x => .map (some x.1)) z).lookup view).getD (.map none)) W := fun W hW => by
    simpa using (h1.below hW).lookup (P := Try.prog) Try.underlying95 Try.underlying3 (zero_told W) view false
  cases hz : z.lookup view with
  | none =>
    refine ⟨.map none, fun W hW => by rw [e W hW, lookup_mv, hz]; rfl, fun W hW => .inl ⟨rfl, by unfold inner; rw [lookup_mv, hz]; rfl⟩⟩
  | some x =>
    refine ⟨.map (some x.1), fun W hW => by rw [e W hW, lookup_mv, hz]; rfl, fun W hW => .inr ⟨x.1, rfl, ?_⟩⟩
    have : inner (mv (·.2) z) view = x.2 := by unfold inner; rw [lookup_mv, hz]; rfl
    rw [this]
    exact (h3 _ (lookup_mem hz)).2.keep (Off.of_below (F := fun _ => False) hW) (fun f => f) (fun _ _ _ f => f)

def OptPost (w : World) (O : Nat → Prop) (r : Option (List UInt8)) (e : Ending) (w' : World) : Prop :=
  ∃ v, e = .returned (.tuple #[v, .bool r.isSome]) ∧ Bs w O v (r.getD []) ∧ Below w.heap.size w w'

set_option maxRecDepth 100000 in
theorem prepared_any {ρ : Roles} {i b fid : Nat} {c : CoreM} (view : Int) (w : World) (h : CoreAt w ρ i b fid c) (ok : c.Ok) (hk : TMOk c.preps) :
    Calls Try.prog 87 #[.pointer (some ⟨b, 0, none⟩), .int .i64 view] w (OptPost w (fun k => ρ k = (i, 2, 0)) (c.prepared view)) := by
  obtain ⟨vw, vl, vv, bp, b1, b2, b3, bs, bd, h⟩ := h
  obtain ⟨tv, ht1, ht2⟩ := h.preps.find view
  have c0 := h.cell 0
  have c8 := h.cell 8
  simp only [coreCells, List.getElem?_toArray, List.getElem?_cons_zero, List.getElem?_cons_succ] at c0 c8
  have hS : ∀ W, Below w.heap.size w W → W.cell? ⟨b, 0, none⟩ = some (.int .i64 c.n) ∧ W.cell? ⟨b, 8, none⟩ = some (.map (some b1)) ∧ (Instr.lookup 95 (.map (some b1)) (.int .i64 view) false).run Try.prog W = .ok tv W ∧ Below w.heap.size w W :=
    fun W hW => ⟨(hW.cell (p := ⟨b, 0, none⟩) h.lt).trans c0, (hW.cell (p := ⟨b, 8, none⟩) h.lt).trans c8, ht1 W hW, hW⟩
  have HS := hid hS
  have HT := hid ht2
  clear ht1 ht2 hS
  go_enter Try.func87, Try.ntmps87
  go_wp2_with fail
  go_region_held3 (fun W => W.cell? ⟨b, 0, none⟩ = some (.int .i64 c.n) ∧ W.cell? ⟨b, 8, none⟩ = some (.map (some b1)) ∧ (Instr.lookup 95 (.map (some b1)) (.int .i64 view) false).run Try.prog W = .ok tv W ∧ Below w.heap.size w W)
    (first | exact HS.out _ (Below.refl _ _).drew | exact HS.out _ hw1)
    (first
      | (go_at_call 96; refine (quorum_any _ _ ⟨ok.n0, ok.n1⟩).mono ?_; rintro e w' ⟨rfl, rfl⟩)
      | (go_at_call 89; refine (count_v _ _ _ _ _ (HT.out _ (Below.refl _ _).drew) (hk.inner view)).mono ?_; rintro e w1 ⟨v, rfl, hv1, hw1'⟩; have hw1 := below_drew_l hw1'))
  all_goals
    go_wp2
    go_ret2
    exact ⟨v, rfl, hv1, hw1⟩
end Go.Proofs.Ytkkmkkgjpmlhaaa
