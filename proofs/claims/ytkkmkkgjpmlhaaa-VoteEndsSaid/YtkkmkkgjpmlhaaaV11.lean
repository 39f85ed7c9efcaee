/- commit. -/
import Derived.Test.YtkkmkkgjpmlhaaaV08
namespace Go.Proofs.Ytkkmkkgjpmlhaaa
open Go.RowKit Go.MapKept

set_option maxRecDepth 100000 in
set_option maxHeartbeats 2000000 in
/-- Nothing is prepared. -/
theorem commit_nothing {ρ : Roles} {i b fid : Nat} {c : CoreM} (w : World) (h : CoreAt w ρ i b fid c) (hf : c.Fine) (hp : c.prepared c.view = none) {hh : Bool} (hht : hasT c.comms c.view c.me = hh) :
    Calls Try.prog 74 #[.pointer (some ⟨b, 0, none⟩)] w (DidPost w ρ i b fid c c.commit) := by
  have cP := prepared_any c.view w h hf.ok hf.preps.ok
  obtain ⟨vw, vl, vv, bp, b1, b2, b3, bs, bd, h⟩ := h
  obtain ⟨tv, A2, n2, m2, ht1, ht2, _⟩ := h.comms.find2 c.view c.me
  have c1 := h.cell 1
  have c4 := h.cell 4
  have c9 := h.cell 9
  simp only [coreCells, List.getElem?_toArray, List.getElem?_cons_zero, List.getElem?_cons_succ] at c1 c4 c9
  have hS2 : ∀ W, Below w.heap.size w W → W.cell? ⟨b, 1, none⟩ = some (.int .i64 c.me) ∧ W.cell? ⟨b, 4, none⟩ = some (.int .i64 c.view) ∧ W.cell? ⟨b, 9, none⟩ = some (.map (some b2)) ∧ (Instr.lookup 95 (.map (some b2)) (.int .i64 c.view) false).run Try.prog W = .ok tv W ∧ (Instr.lookup 98 tv (.int .i64 c.me) true).run Try.prog W = .ok (.tuple #[.slice A2 n2 m2, .bool (hasT c.comms c.view c.me)]) W ∧ Below w.heap.size w W :=
    fun W hW => ⟨(hW.cell (p := ⟨b, 1, none⟩) h.lt).trans c1, (hW.cell (p := ⟨b, 4, none⟩) h.lt).trans c4, (hW.cell (p := ⟨b, 9, none⟩) h.lt).trans c9, ht1 W hW, ht2 W hW, hW⟩
  rw [hp] at cP
  rw [hht] at hS2
  have hr : c.commit = none := by unfold CoreM.commit; rw [hp]
  have HS2 := hid hS2
  have H := hid h
  have HR := hid hr
  clear ht1 ht2 hS2 h hr c1 c9
  go_enter Try.func74, Try.ntmps74
  go_wp2_with (go_at_call 87; refine cP.mono ?_; rintro e w1 ⟨v, rfl, hv1, hb1⟩; obtain ⟨A1, cap1, rfl, hvx1⟩ := id hv1)
  clear cP
  go_region_held3 (fun W => W.cell? ⟨b, 1, none⟩ = some (.int .i64 c.me) ∧ W.cell? ⟨b, 4, none⟩ = some (.int .i64 c.view) ∧ W.cell? ⟨b, 9, none⟩ = some (.map (some b2)) ∧ (Instr.lookup 95 (.map (some b2)) (.int .i64 c.view) false).run Try.prog W = .ok tv W ∧ (Instr.lookup 98 tv (.int .i64 c.me) true).run Try.prog W = .ok (.tuple #[.slice A2 n2 m2, .bool (hh)]) W ∧ Below w.heap.size w W)
    (first | exact HS2.out _ hb1.drew)
    (fail)
  all_goals cases hh
  all_goals
    go_wp2
    go_ret
    rw [HR.out]
    exact ⟨rfl, Left.of_below ⟨_, _, _, _, _, _, _, _, _, H.out⟩ hb1.drew⟩

set_option maxRecDepth 100000 in
set_option maxHeartbeats 2000000 in
/-- It has committed. -/
theorem commit_done {ρ : Roles} {i b fid : Nat} {c : CoreM} (w : World) (h : CoreAt w ρ i b fid c) (hf : c.Fine) {l : List UInt8} (hp : c.prepared c.view = some l) (hht : hasT c.comms c.view c.me = true) :
    Calls Try.prog 74 #[.pointer (some ⟨b, 0, none⟩)] w (DidPost w ρ i b fid c c.commit) := by
  have cP := prepared_any c.view w h hf.ok hf.preps.ok
  obtain ⟨vw, vl, vv, bp, b1, b2, b3, bs, bd, h⟩ := h
  obtain ⟨tv, A2, n2, m2, ht1, ht2, _⟩ := h.comms.find2 c.view c.me
  have c1 := h.cell 1
  have c4 := h.cell 4
  have c9 := h.cell 9
  simp only [coreCells, List.getElem?_toArray, List.getElem?_cons_zero, List.getElem?_cons_succ] at c1 c4 c9
  have hS2 : ∀ W, Below w.heap.size w W → W.cell? ⟨b, 1, none⟩ = some (.int .i64 c.me) ∧ W.cell? ⟨b, 4, none⟩ = some (.int .i64 c.view) ∧ W.cell? ⟨b, 9, none⟩ = some (.map (some b2)) ∧ (Instr.lookup 95 (.map (some b2)) (.int .i64 c.view) false).run Try.prog W = .ok tv W ∧ (Instr.lookup 98 tv (.int .i64 c.me) true).run Try.prog W = .ok (.tuple #[.slice A2 n2 m2, .bool (hasT c.comms c.view c.me)]) W ∧ Below w.heap.size w W :=
    fun W hW => ⟨(hW.cell (p := ⟨b, 1, none⟩) h.lt).trans c1, (hW.cell (p := ⟨b, 4, none⟩) h.lt).trans c4, (hW.cell (p := ⟨b, 9, none⟩) h.lt).trans c9, ht1 W hW, ht2 W hW, hW⟩
  rw [hp] at cP
  rw [hht] at hS2
  have hr : c.commit = none := by unfold CoreM.commit; rw [hp]; simp [hht]
  have HS2 := hid hS2
  have H := hid h
  have HR := hid hr
  clear ht1 ht2 hS2 h hr c1 c9
  go_enter Try.func74, Try.ntmps74
  go_wp2_with (go_at_call 87; refine cP.mono ?_; rintro e w1 ⟨v, rfl, hv1, hb1⟩; obtain ⟨A1, cap1, rfl, hvx1⟩ := id hv1)
  clear cP
  go_region_held3 (fun W => W.cell? ⟨b, 1, none⟩ = some (.int .i64 c.me) ∧ W.cell? ⟨b, 4, none⟩ = some (.int .i64 c.view) ∧ W.cell? ⟨b, 9, none⟩ = some (.map (some b2)) ∧ (Instr.lookup 95 (.map (some b2)) (.int .i64 c.view) false).run Try.prog W = .ok tv W ∧ (Instr.lookup 98 tv (.int .i64 c.me) true).run Try.prog W = .ok (.tuple #[.slice A2 n2 m2, .bool (true)]) W ∧ Below w.heap.size w W)
    (first | exact HS2.out _ hb1.drew)
    (fail)
  all_goals
    go_wp2
    go_ret
    rw [HR.out]
    exact ⟨rfl, Left.of_below ⟨_, _, _, _, _, _, _, _, _, H.out⟩ hb1.drew⟩

set_option maxRecDepth 100000 in
set_option maxHeartbeats 2000000 in
/-- It commits. -/
theorem commit_does {ρ : Roles} {i b fid : Nat} {c : CoreM} (w : World) (h : CoreAt w ρ i b fid c) (hf : c.Fine) {l : List UInt8} (hp : c.prepared c.view = some l) (hht : hasT c.comms c.view c.me = false) :
    Calls Try.prog 74 #[.pointer (some ⟨b, 0, none⟩)] w (DidPost w ρ i b fid c c.commit) := by
  have cP := prepared_any c.view w h hf.ok hf.preps.ok
  obtain ⟨vw, vl, vv, bp, b1, b2, b3, bs, bd, h⟩ := h
  obtain ⟨tv, A2, n2, m2, ht1, ht2, _⟩ := h.comms.find2 c.view c.me
  have c1 := h.cell 1
  have c4 := h.cell 4
  have c9 := h.cell 9
  simp only [coreCells, List.getElem?_toArray, List.getElem?_cons_zero, List.getElem?_cons_succ] at c1 c4 c9
  have hS2 : ∀ W, Below w.heap.size w W → W.cell? ⟨b, 1, none⟩ = some (.int .i64 c.me) ∧ W.cell? ⟨b, 4, none⟩ = some (.int .i64 c.view) ∧ W.cell? ⟨b, 9, none⟩ = some (.map (some b2)) ∧ (Instr.lookup 95 (.map (some b2)) (.int .i64 c.view) false).run Try.prog W = .ok tv W ∧ (Instr.lookup 98 tv (.int .i64 c.me) true).run Try.prog W = .ok (.tuple #[.slice A2 n2 m2, .bool (hasT c.comms c.view c.me)]) W ∧ Below w.heap.size w W :=
    fun W hW => ⟨(hW.cell (p := ⟨b, 1, none⟩) h.lt).trans c1, (hW.cell (p := ⟨b, 4, none⟩) h.lt).trans c4, (hW.cell (p := ⟨b, 9, none⟩) h.lt).trans c9, ht1 W hW, ht2 W hW, hW⟩
  rw [hp] at cP
  rw [hht] at hS2
  have hr : c.commit = some { c with lock := c.view, locked := l, comms := setT c.comms c.view c.me l } := by unfold CoreM.commit; rw [hp]; simp [hht]
  have hsh : Short l := hf.prepared hp
  have HS2 := hid hS2
  have H := hid h
  have HR := hid hr
  clear ht1 ht2 hS2 h hr c1 c9
  go_enter Try.func74, Try.ntmps74
  go_wp2_with (go_at_call 87; refine cP.mono ?_; rintro e w1 ⟨v, rfl, hv1, hb1⟩; obtain ⟨A1, cap1, rfl, hvx1⟩ := id hv1)
  clear cP
  go_region_held3 (fun W => W.cell? ⟨b, 1, none⟩ = some (.int .i64 c.me) ∧ W.cell? ⟨b, 4, none⟩ = some (.int .i64 c.view) ∧ W.cell? ⟨b, 9, none⟩ = some (.map (some b2)) ∧ (Instr.lookup 95 (.map (some b2)) (.int .i64 c.view) false).run Try.prog W = .ok tv W ∧ (Instr.lookup 98 tv (.int .i64 c.me) true).run Try.prog W = .ok (.tuple #[.slice A2 n2 m2, .bool (false)]) W ∧ Below w.heap.size w W)
    (first | exact HS2.out _ hb1.drew)
    (fail)
  all_goals
    have hbd := hb1.drew
    have hvd := hv1.below hbd
    generalize w1.drew = W2 at hbd hvd ⊢
    have hc1 := H.out.below hbd
    have f13 : W2.frozen? ⟨b, 13, none⟩ = false := hc1.frozen 13
    have f14 : W2.frozen? ⟨b, 14, none⟩ = false := hc1.frozen 14
    have d4 := hc1.cell 4
    have d13 := hc1.cell 13
    have d14 := hc1.cell 14
    simp only [coreCells, List.getElem?_toArray, List.getElem?_cons_zero, List.getElem?_cons_succ] at d4 d13 d14
    go_wp2
    have e2 : Off (fun k => k = b) W2 ((W2.setCell ⟨b, 13, none⟩ (.int .i64 c.view)).setCell ⟨b, 14, none⟩ (.slice A1 l.length cap1)) :=
      Off.setCell (F := fun k => k = b) (Off.setCell (F := fun k => k = b) (Off.refl (fun k => k = b) W2) (fun _ => rfl) _) (fun _ => rfl) _
    have hc3 : Parts ((W2.setCell ⟨b, 13, none⟩ (.int .i64 c.view)).setCell ⟨b, 14, none⟩ (.slice A1 l.length cap1)) ρ i b fid { c with lock := c.view, locked := l } vw (.slice A1 l.length cap1) vv bp b1 b2 b3 bs bd :=
      hc1.set e2 (Agr.refl _ _) (heap_setCell_cells (heap_setCell_cells hc1.cells _) _) (bytes_own hc1.wish hc1.role e2 (Agr.refl _ _)) (bytes_own hvd hc1.role e2 (Agr.refl _ _)) (bytes_own hc1.value hc1.role e2 (Agr.refl _ _)) ⟨rfl, rfl, rfl, rfl, rfl, rfl⟩
    have hv3 : Bs ((W2.setCell ⟨b, 13, none⟩ (.int .i64 c.view)).setCell ⟨b, 14, none⟩ (.slice A1 l.length cap1)) (fun k => ρ k = (i, 2, 0)) (.slice A1 l.length cap1) l := bytes_own hvd hc1.role e2 (Agr.refl _ _)
    have e3 : Off (fun k => (ρ k).1 = i) w ((W2.setCell ⟨b, 13, none⟩ (.int .i64 c.view)).setCell ⟨b, 14, none⟩ (.slice A1 l.length cap1)) := (Off.of_below hbd).trans e2 (fun k _ e => by subst e; rw [H.out.role])
    have ha3 : w.heap.size ≤ ((W2.setCell ⟨b, 13, none⟩ (.int .i64 c.view)).setCell ⟨b, 14, none⟩ (.slice A1 l.length cap1)).heap.size := e3.size
    generalize ((W2.setCell ⟨b, 13, none⟩ (.int .i64 c.view)).setCell ⟨b, 14, none⟩ (.slice A1 l.length cap1)) = w3 at e3 hc3 hv3 ha3 ⊢
    have g1 := hc3.cell 1
    have g4 := hc3.cell 4
    have g9 := hc3.cell 9
    simp only [coreCells, List.getElem?_toArray, List.getElem?_cons_zero, List.getElem?_cons_succ] at g1 g4 g9
    have hS5 : ∀ W, Off (fun k => ρ k = (i, 11, 0) ∨ ρ k = (i, 111, c.view)) w3 W → W.cell? ⟨b, 1, none⟩ = some (.int .i64 c.me) ∧ W.cell? ⟨b, 4, none⟩ = some (.int .i64 c.view) ∧ W.cell? ⟨b, 9, none⟩ = some (.map (some b2)) ∧ Off (fun k => ρ k = (i, 11, 0) ∨ ρ k = (i, 111, c.view)) w3 W := fun W hW =>
      have hnb : ¬ (ρ b = (i, 11, 0) ∨ ρ b = (i, 111, c.view)) := by rw [hc3.role]; simp
      ⟨hW.cell_some g1 hnb, hW.cell_some g4 hnb, hW.cell_some g9 hnb, hW⟩
    have HS5 := hid hS5
    have HO := hid hc3.comms
    have HC := hid hc3
    clear hS5 g1 g4 g9 f13 f14 d4 d13 d14 hc1 hc3 e2
    try go_wp2_with fail
    go_region_held3 (fun W => W.cell? ⟨b, 1, none⟩ = some (.int .i64 c.me) ∧ W.cell? ⟨b, 4, none⟩ = some (.int .i64 c.view) ∧ W.cell? ⟨b, 9, none⟩ = some (.map (some b2)) ∧ Off (fun k => ρ k = (i, 11, 0) ∨ ρ k = (i, 111, c.view)) w3 W)
      (first | exact HS5.out _ (Off.refl _ _).drew | exact HS5.out _ ho5.drew_l)
      (first | (go_at_call 70; refine (set_any (l := l) _ (by omega) (HO.out.keep (Off.refl (fun _ => False) _).drew (Agr.refl _ _) (fun _ _ f => f.elim)) hv3.drew hsh.lim).mono ?_; rintro e w5 ⟨rfl, ρ5, ha5, hout5, ho5⟩))
    all_goals
      go_wp2
      go_ret
      rw [HR.out]
      try dsimp only at hout5
      rw [if_neg (by rw [hht]; decide)] at hout5
      refine ⟨rfl, ρ5, fun k hk => ha5 k (Nat.lt_of_lt_of_le hk ha3), ⟨_, _, _, _, _, _, _, _, _, HC.out.comms_set ho5.drew_l ha5 (fun k _ hk => hk.elim (fun e => .inl (by rw [e])) (fun e => .inr (by rw [e]))) hout5⟩, e3.trans ho5.drew_l (fun k _ hk => by rcases hk with e | e <;> rw [e])⟩

theorem commit_any {ρ : Roles} {i b fid : Nat} {c : CoreM} (w : World) (h : CoreAt w ρ i b fid c) (hf : c.Fine) :
    Calls Try.prog 74 #[.pointer (some ⟨b, 0, none⟩)] w (DidPost w ρ i b fid c c.commit) := by
  cases hp : c.prepared c.view with
  | none => exact commit_nothing w h hf hp rfl
  | some p =>
    cases hh : hasT c.comms c.view c.me with
    | true => exact commit_done w h hf hp hh
    | false => exact commit_does w h hf hp hh
end Go.Proofs.Ytkkmkkgjpmlhaaa
