/- Late, Wish. -/
import Derived.Test.YtkkmkkgjpmlhaaaAct
namespace Go.Proofs.Ytkkmkkgjpmlhaaa
open Go.RowKit Go.MapKept

theorem act_left {w w1 : World} {ρ : Roles} {i b fid : Nat} {c : CoreM} {acc : List UInt8 → Bool} (hl : Left w w1 ρ i b fid c) (hf : c.Fine) (ha : Accepts fid acc) :
    Calls Try.prog 51 #[.pointer (some ⟨b, 0, none⟩)] w1 (ActPost w ρ i b fid (c.settle acc)) := by
  obtain ⟨ρ1, h1, h2, h3⟩ := hl
  refine (act_any w1 h2 hf ha).mono ?_
  rintro e w' ⟨rfl, ρ2, k1, k2, k3⟩
  exact ⟨rfl, ρ2, h1.trans k1 h3.size, k2, h3.trans k3 (fun b hb e => by rw [← h1 b hb]; exact e)⟩

/-- The view is another one. -/
theorem late_close {w : World} {ρ : Roles} {i b fid : Nat} {c : CoreM} {vw vl vv : Value} {bp b1 b2 b3 bs bd : Nat} (h : Parts w ρ i b fid c vw vl vv bp b1 b2 b3 bs bd) (x : Int) : Left w (w.setCell ⟨b, 4, none⟩ (.int .i64 x)) ρ i b fid { c with view := x } := by
  have e2 := Off.setOne w ⟨b, 4, none⟩ (.int .i64 x)
  exact ⟨ρ, Agr.refl _ _, ⟨_, _, _, _, _, _, _, _, _, h.set e2 (Agr.refl _ _) (heap_setCell_cells h.cells _) (bytes_own h.wish h.role e2 (Agr.refl _ _)) (bytes_own h.locked h.role e2 (Agr.refl _ _)) (bytes_own h.value h.role e2 (Agr.refl _ _)) ⟨rfl, rfl, rfl, rfl, rfl, rfl⟩⟩,
    e2.mono (fun k _ e => by subst e; rw [h.role])⟩

set_option maxRecDepth 100000 in
set_option maxHeartbeats 1000000 in
theorem late_any {ρ : Roles} {i b fid : Nat} {c : CoreM} {acc : List UInt8 → Bool} (w : World) (h : CoreAt w ρ i b fid c) (hf : c.Fine) (ha : Accepts fid acc) :
    Calls Try.prog 19 #[.pointer (some ⟨b, 0, none⟩)] w (ActPost w ρ i b fid (c.late acc)) := by
  obtain ⟨vw, vl, vv, bp, b1, b2, b3, bs, bd, h⟩ := h
  have c4 := h.cell 4
  have c15 := h.cell 15
  simp only [coreCells, List.getElem?_toArray, List.getElem?_cons_zero, List.getElem?_cons_succ] at c4 c15
  have f4 : w.frozen? ⟨b, 4, none⟩ = false := h.frozen 4
  cases hd : c.decided with
  | true =>
    have hr : c.late acc = c := by unfold CoreM.late; simp [hd]
    rw [hd] at c15
    have HR := hid hr
    have H := hid h
    clear hr h hd
    go_enter Try.func19, Try.ntmps19
    go_wp2
    go_end0
    exact ⟨rfl, by rw [HR.out]; exact Left.refl ⟨_, _, _, _, _, _, _, _, _, H.out⟩⟩
  | false =>
    rw [hd] at c15
    by_cases hv : c.view < 1048576
    · have hr : c.late acc = CoreM.settle acc { c with view := c.view + 1 } := by unfold CoreM.late; simp [hd, hv]
      have v0 := hf.ok.view0
      have HR := hid hr
      have H := hid h
      have hfn := hf.nextView hv
      clear hr h hd
      go_enter Try.func19, Try.ntmps19
      go_wp2_with (go_at_call 51; refine (act_left (late_close H.out (c.view + 1)) hfn ha).mono ?_; rintro e w2 ⟨rfl, hl2⟩)
      go_end0
      exact ⟨rfl, by rw [HR.out]; exact hl2⟩
    · have hr : c.late acc = c := by unfold CoreM.late; simp [hd]; intro h; exact absurd h hv
      have HR := hid hr
      have H := hid h
      have hv' : decide (c.view < 1048576) = false := decide_eq_false hv
      clear hr h hd
      go_enter Try.func19, Try.ntmps19
      go_wp2
      go_end0
      exact ⟨rfl, by rw [HR.out]; exact Left.refl ⟨_, _, _, _, _, _, _, _, _, H.out⟩⟩

/-- The wish is laid. -/
theorem wish_close {w w1 : World} {ρ : Roles} {i b fid : Nat} {c : CoreM} {vw vl vv v : Value} {bp b1 b2 b3 bs bd : Nat} {l : List UInt8} (h : Parts w ρ i b fid c vw vl vv bp b1 b2 b3 bs bd) (hb : Below w.heap.size w w1) (hv : Bs w1 (fun k => w.heap.size ≤ k) v l) :
    Left w ((w1.setCell ⟨b, 5, none⟩ v).setCell ⟨b, 6, none⟩ (.bool true)) ρ i b fid { c with wish := l, wishes := true } := by
  have hc1 : Parts w1 (ρ.fresh i w.heap.size w1.heap.size) i b fid c vw vl vv bp b1 b2 b3 bs bd := h.keep (Off.of_below (F := fun _ => False) hb) (agr_fresh _ _ _ _) (fun _ _ f => f.elim)
  have hv1 : Bs w1 (fun k => ρ.fresh i w.heap.size w1.heap.size k = (i, 2, 0)) v l := hv.mono (fun k hk hwk => by unfold Roles.fresh; rw [if_pos ⟨hwk, hk⟩])
  have e2 : Off (fun k => k = b) w1 ((w1.setCell ⟨b, 5, none⟩ v).setCell ⟨b, 6, none⟩ (.bool true)) := Off.setCell (F := fun k => k = b) (Off.setCell (F := fun k => k = b) (Off.refl (fun k => k = b) w1) (fun _ => rfl) _) (fun _ => rfl) _
  exact ⟨_, agr_fresh _ _ _ _, ⟨_, _, _, _, _, _, _, _, _, hc1.set e2 (Agr.refl _ _) (heap_setCell_cells (heap_setCell_cells hc1.cells _) _) (bytes_own hv1 hc1.role e2 (Agr.refl _ _)) (bytes_own hc1.locked hc1.role e2 (Agr.refl _ _)) (bytes_own hc1.value hc1.role e2 (Agr.refl _ _)) ⟨rfl, rfl, rfl, rfl, rfl, rfl⟩⟩,
    (Off.of_below hb).trans e2 (fun k _ e => by subst e; rw [h.role])⟩

set_option maxRecDepth 100000 in
set_option maxHeartbeats 1000000 in
theorem wish_any {ρ : Roles} {i b fid : Nat} {c : CoreM} {acc : List UInt8 → Bool} {O : Nat → Prop} {v : Value} {l : List UInt8} (w : World) (h : CoreAt w ρ i b fid c) (hf : c.Fine) (ha : Accepts fid acc) (hb : Bs w O v l) (hl : l.length ≤ 9223372036854775807) :
    Calls Try.prog 18 #[.pointer (some ⟨b, 0, none⟩), v] w (ActPost w ρ i b fid (c.ask acc l)) := by
  obtain ⟨vw, vl, vv, bp, b1, b2, b3, bs, bd, h⟩ := h
  obtain ⟨A, cap, rfl, _⟩ := id hb
  have c6 := h.cell 6
  simp only [coreCells, List.getElem?_toArray, List.getElem?_cons_zero, List.getElem?_cons_succ] at c6
  have H := hid h
  cases hd : c.wishes with
  | true =>
    have hr : c.ask acc l = c := by unfold CoreM.ask; simp [hd]
    rw [hd] at c6
    have HR := hid hr
    clear hr h hd
    go_enter Try.func18, Try.ntmps18
    go_wp2
    go_end0
    exact ⟨rfl, by rw [HR.out]; exact Left.refl ⟨_, _, _, _, _, _, _, _, _, H.out⟩⟩
  | false =>
    rw [hd] at c6
    by_cases hv : (4096 : Int) < l.length
    · have hr : c.ask acc l = c := by unfold CoreM.ask; simp only [hd, Bool.false_or]; rw [if_pos (decide_eq_true (by omega))]
      have HR := hid hr
      clear hr h hd
      go_enter Try.func18, Try.ntmps18
      go_wp2
      go_end0
      exact ⟨rfl, by rw [HR.out]; exact Left.refl ⟨_, _, _, _, _, _, _, _, _, H.out⟩⟩
    · have hr : c.ask acc l = CoreM.settle acc { c with wish := l, wishes := true } := by unfold CoreM.ask; simp only [hd, Bool.false_or]; rw [if_neg (by rw [decide_eq_true_eq]; omega)]
      have HR := hid hr
      have hfn := hf.wishFor (l := l) (by unfold Short; omega)
      clear hr h hd
      go_enter Try.func18, Try.ntmps18
      go_wp2_with (first | (go_at_call 52; refine (clone_any _ hb (by omega)).mono ?_; rintro e w1 ⟨v', rfl, hv1, hb1⟩; obtain ⟨A1, cap1, rfl, _⟩ := id hv1; have f5 : w1.frozen? ⟨b, 5, none⟩ = false := (H.out.below hb1).frozen 5; have f6 : w1.frozen? ⟨b, 6, none⟩ = false := (H.out.below hb1).frozen 6; have g5 : w1.cell? ⟨b, 5, none⟩ = some vw := (H.out.below hb1).cell 5; have g6 : w1.cell? ⟨b, 6, none⟩ = some (.bool c.wishes) := (H.out.below hb1).cell 6) | (go_at_call 51; refine (act_left (wish_close H.out hb1 hv1) hfn ha).mono ?_; rintro e w2 ⟨rfl, hl2⟩))
      go_end0
      exact ⟨rfl, by rw [HR.out]; exact hl2⟩
end Go.Proofs.Ytkkmkkgjpmlhaaa
