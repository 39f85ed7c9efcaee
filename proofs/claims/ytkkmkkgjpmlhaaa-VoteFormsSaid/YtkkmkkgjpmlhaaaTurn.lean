/- turn. -/
import Derived.Test.YtkkmkkgjpmlhaaaMem
import Derived.IntWalk
namespace Go.Proofs.Ytkkmkkgjpmlhaaa
open Go.RowKit Go.MapKept

theorem mv_snd {α β : Type} (f : α → β) (m : List (Int × α)) : (mv f m).map (·.2) = (m.map (·.2)).map f := by unfold mv; simp [List.map_map, Function.comp_def]

set_option maxRecDepth 100000 in
set_option maxHeartbeats 1000000 in
theorem turn_any {ρ : Roles} {i b fid : Nat} {c : CoreM} (w : World) (h : CoreAt w ρ i b fid c) (ok : c.Ok) (hk : KeysOk c.seen) :
    Calls Try.prog 71 #[.pointer (some ⟨b, 0, none⟩)] w (DidPost w ρ i b fid c c.turn) := by
  obtain ⟨vw, vl, vv, bp, b1, b2, b3, bs, bd, h⟩ := h
  have c0 := h.cell 0
  have c4 := h.cell 4
  have c11 := h.cell 11
  simp only [coreCells, List.getElem?_toArray, List.getElem?_cons_zero, List.getElem?_cons_succ] at c0 c4 c11
  have cS := sortedV_any bs c.seen w h.seen.2 hk.1
  have hL : c.views.length ≤ 17592186044416 := by unfold CoreM.views; rw [(sortZ_perm _).length_eq, List.length_map]; exact hk.1
  have H := hid h
  obtain ⟨n0, n1, _, _, _, _, v0, v1⟩ := ok
  clear h
  have hvl : c.views.length = c.seen.length := by unfold CoreM.views; rw [(sortZ_perm _).length_eq, List.length_map]
  by_cases hlen : (c.views.length : Int) ≤ c.f
  · have hr : c.turn = none := by unfold CoreM.turn CoreM.reach; rw [if_pos hlen]
    have HR := hid hr
    unfold CoreM.f at hlen
    rw [hvl] at hlen hL
    clear hr hvl
    go_enter Try.func71, Try.ntmps71
    go_wp2_with (first | (go_at_call 84; refine (values_any _ _).mono ?_; rintro e w' ⟨rfl, rfl⟩) | (go_at_call 59; refine cS.mono ?_; rintro e w1 ⟨v, rfl, hz1, hb1⟩; obtain ⟨A, cap, rfl, hcap, hcells⟩ := id hz1; have d0 := (hb1.cell (p := ⟨b, 0, none⟩) H.out.lt).trans c0; have d4 := (hb1.cell (p := ⟨b, 4, none⟩) H.out.lt).trans c4))
    go_quiet (fail)
    go_wp2
    go_ret
    rw [HR.out]
    exact ⟨rfl, Left.of_below ⟨_, _, _, _, _, _, _, _, _, H.out⟩ (Off.drewN (Off.of_below hb1) _).below⟩
  · obtain ⟨x, hx⟩ : ∃ x, c.views[(c.views.length - 1 - c.f).toNat]? = some x := ⟨_, List.getElem?_eq_getElem (by unfold CoreM.f at *; omega)⟩
    have hreach : c.reach = some x := by unfold CoreM.reach; rw [if_neg hlen, hx]
    have hf : 1 ≤ c.f := by unfold CoreM.f; omega
    obtain ⟨k, hkk⟩ : ∃ k : Nat, (c.views.length : Int) - 1 - c.f = k := ⟨((c.views.length : Int) - 1 - c.f).toNat, by unfold CoreM.f at *; omega⟩
    rw [hkk, Int.toNat_natCast] at hx
    unfold CoreM.f at hlen hkk hf
    rw [hvl] at hlen hL hkk
    unfold CoreM.views at hx
    by_cases hxv : x ≤ c.view
    · have hr : c.turn = none := by unfold CoreM.turn; rw [hreach]; exact if_pos hxv
      have HR := hid hr
      clear hr hvl hreach
      go_enter Try.func71, Try.ntmps71
      go_wp2_with (first | (go_at_call 84; refine (values_any _ _).mono ?_; rintro e w' ⟨rfl, rfl⟩) | (go_at_call 59; refine cS.mono ?_; rintro e w1 ⟨v, rfl, hz1, hb1⟩; obtain ⟨A, cap, rfl, hcap, hcells⟩ := id hz1; have d0 := (hb1.cell (p := ⟨b, 0, none⟩) H.out.lt).trans c0; have d4 := (hb1.cell (p := ⟨b, 4, none⟩) H.out.lt).trans c4))
      obtain ⟨bz, rfl, hbz, hcl⟩ := hcells (by rw [(sortZ_perm _).length_eq, List.length_map]; omega)
      have hcx := hcl k x hx
      clear hcl hcells hz1
      have q1 : (k : Int) < (c.seen.length : Int) := by omega
      have q2 : k < c.seen.length := by omega
      have q4 : decide ((c.seen.length : Int) ≤ (c.n - 1) / 3) = false := decide_eq_false (by omega)
      have q5 : IntKind.i64.wrap ((c.seen.length : Int) - 1) = (c.seen.length : Int) - 1 := IntWalk.i64_in _ (by omega)
      have q6 : IntKind.i64.wrap ((c.seen.length : Int) - 1 - (c.n - 1) / 3) = k := by rw [hkk]; exact IntWalk.i64_in _ (by omega)
      go_quiet (fail)
      go_wp2
      go_ret
      rw [HR.out]
      exact ⟨rfl, Left.of_below ⟨_, _, _, _, _, _, _, _, _, H.out⟩ (Off.drewN (Off.of_below hb1) _).below⟩
    · have hr : c.turn = some { c with view := x } := by unfold CoreM.turn; rw [hreach]; exact if_neg hxv
      have HR := hid hr
      clear hr hvl hreach
      go_enter Try.func71, Try.ntmps71
      go_wp2_with (first | (go_at_call 84; refine (values_any _ _).mono ?_; rintro e w' ⟨rfl, rfl⟩) | (go_at_call 59; refine cS.mono ?_; rintro e w1 ⟨v, rfl, hz1, hb1⟩; obtain ⟨A, cap, rfl, hcap, hcells⟩ := id hz1; have d0 := (hb1.cell (p := ⟨b, 0, none⟩) H.out.lt).trans c0; have d4 := (hb1.cell (p := ⟨b, 4, none⟩) H.out.lt).trans c4))
      obtain ⟨bz, rfl, hbz, hcl⟩ := hcells (by rw [(sortZ_perm _).length_eq, List.length_map]; omega)
      have hcx := hcl k x hx
      clear hcl hcells hz1
      have q1 : (k : Int) < (c.seen.length : Int) := by omega
      have q2 : k < c.seen.length := by omega
      have q4 : decide ((c.seen.length : Int) ≤ (c.n - 1) / 3) = false := decide_eq_false (by omega)
      have q5 : IntKind.i64.wrap ((c.seen.length : Int) - 1) = (c.seen.length : Int) - 1 := IntWalk.i64_in _ (by omega)
      have q6 : IntKind.i64.wrap ((c.seen.length : Int) - 1 - (c.n - 1) / 3) = k := by rw [hkk]; exact IntWalk.i64_in _ (by omega)
      have f4 : w1.frozen? ⟨b, 4, none⟩ = false := (H.out.below hb1).frozen 4
      go_quiet (fail)
      go_wp2
      go_ret
      rw [HR.out]
      have ho : Off (fun k => k = b) w1 ((w1.drewN nq).setCell ⟨b, 4, none⟩ (.int .i64 x)) := Off.setCell (F := fun k => k = b) ((Off.refl (fun k => k = b) w1).drewN _) (fun _ => rfl) _
      have hp := (H.out.below hb1).set (c' := { c with view := x }) ho (Agr.refl _ _) (heap_setCell_cells (w := w1.drewN nq) (H.out.below hb1).cells _) (bytes_own (H.out.below hb1).wish H.out.role ho (Agr.refl _ _))
        (bytes_own (H.out.below hb1).locked H.out.role ho (Agr.refl _ _)) (bytes_own (H.out.below hb1).value H.out.role ho (Agr.refl _ _)) ⟨rfl, rfl, rfl, rfl, rfl, rfl⟩
      exact ⟨rfl, ρ, Agr.refl _ _, ⟨_, _, _, _, _, _, _, _, _, hp⟩, (Off.of_below hb1).trans ho (fun k _ e => by subst e; rw [H.out.role])⟩
end Go.Proofs.Ytkkmkkgjpmlhaaa
