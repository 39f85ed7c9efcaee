/- propose. -/
import Derived.Test.YtkkmkkgjpmlhaaaV06
import Derived.Test.YtkkmkkgjpmlhaaaV02
import Derived.IntWalk
import Derived.BigQuiet
import Derived.Deep.QuietTactic
namespace Go.Proofs.Ytkkmkkgjpmlhaaa
open Go.RowKit Go.MapKept

set_option maxRecDepth 100000 in
set_option maxHeartbeats 1000000 in
/-- There is one of the view. -/
theorem propose_there {ρ : Roles} {i b fid : Nat} {c : CoreM} (w : World) (h : CoreAt w ρ i b fid c) (hp : (c.props.lookup c.view).isSome = true) :
    Calls Try.prog 72 #[.pointer (some ⟨b, 0, none⟩)] w (DidPost w ρ i b fid c c.propose) := by
  obtain ⟨vw, vl, vv, bp, b1, b2, b3, bs, bd, h⟩ := h
  obtain ⟨A1, n1, m1, x1, hf1, _⟩ := h.props.find c.view
  rw [hp] at hf1
  have c4 := h.cell 4
  have c7 := h.cell 7
  simp only [coreCells, List.getElem?_toArray, List.getElem?_cons_zero, List.getElem?_cons_succ] at c4 c7
  have hS : ∀ W, Below w.heap.size w W → W.cell? ⟨b, 4, none⟩ = some (.int .i64 c.view) ∧ W.cell? ⟨b, 7, none⟩ = some (.map (some bp)) ∧ (Instr.lookup 94 (.map (some bp)) (.int .i64 c.view) true).run Try.prog W = .ok (.tuple #[.agg #[.slice A1 n1 m1, .int .i64 x1], .bool true]) W ∧ Below w.heap.size w W :=
    fun W hW => ⟨(hW.cell (p := ⟨b, 4, none⟩) h.lt).trans c4, (hW.cell (p := ⟨b, 7, none⟩) h.lt).trans c7, hf1 W hW, hW⟩
  have HS := hid hS
  have H := hid h
  have hr : c.propose = none := by unfold CoreM.propose; rw [hp]; rfl
  have HR := hid hr
  clear hf1 hS h hr hp
  go_enter Try.func72, Try.ntmps72
  go_wp2_with fail
  go_region_held3 (fun W => W.cell? ⟨b, 4, none⟩ = some (.int .i64 c.view) ∧ W.cell? ⟨b, 7, none⟩ = some (.map (some bp)) ∧ (Instr.lookup 94 (.map (some bp)) (.int .i64 c.view) true).run Try.prog W = .ok (.tuple #[.agg #[.slice A1 n1 m1, .int .i64 x1], .bool true]) W ∧ Below w.heap.size w W)
    (first | exact HS.out _ (Below.refl _ _).drew | exact HS.out _ ((Below.refl _ w).drew.alloc (Nat.le_refl _) _) | exact HS.out _ (((Below.refl _ w).drew.alloc (Nat.le_refl _) _).setCell (Nat.le_refl _) _))
    (fail)
  all_goals
    go_wp2
    go_quiet (fail)
    go_wp2
    go_ret
    rw [HR.out]
    exact ⟨rfl, Left.of_below ⟨_, _, _, _, _, _, _, _, _, H.out⟩ (Off.drewN (Off.of_below (F := fun _ => False) ((Below.refl w.heap.size w).alloc (Nat.le_refl _) _).drew) _).below⟩

set_option maxRecDepth 100000 in
set_option maxHeartbeats 1000000 in
/-- It is another's turn. -/
theorem propose_other {ρ : Roles} {i b fid : Nat} {c : CoreM} (w : World) (h : CoreAt w ρ i b fid c) (ok : c.Ok) (hp : (c.props.lookup c.view).isSome = false) (hq : (c.proposer c.view != c.me) = true) :
    Calls Try.prog 72 #[.pointer (some ⟨b, 0, none⟩)] w (DidPost w ρ i b fid c c.propose) := by
  have cP := fun W (hW : Below w.heap.size w W) => proposer_any c.view W (h.below hW) ok ok.view0 ok.view1
  obtain ⟨vw, vl, vv, bp, b1, b2, b3, bs, bd, h⟩ := h
  obtain ⟨A1, n1, m1, x1, hf1, _⟩ := h.props.find c.view
  rw [hp] at hf1
  have c1 := h.cell 1
  have c4 := h.cell 4
  have c7 := h.cell 7
  simp only [coreCells, List.getElem?_toArray, List.getElem?_cons_zero, List.getElem?_cons_succ] at c1 c4 c7
  have hS : ∀ W, Below w.heap.size w W → W.cell? ⟨b, 4, none⟩ = some (.int .i64 c.view) ∧ W.cell? ⟨b, 7, none⟩ = some (.map (some bp)) ∧ (Instr.lookup 94 (.map (some bp)) (.int .i64 c.view) true).run Try.prog W = .ok (.tuple #[.agg #[.slice A1 n1 m1, .int .i64 x1], .bool false]) W ∧ Below w.heap.size w W :=
    fun W hW => ⟨(hW.cell (p := ⟨b, 4, none⟩) h.lt).trans c4, (hW.cell (p := ⟨b, 7, none⟩) h.lt).trans c7, hf1 W hW, hW⟩
  have HS := hid hS
  have H := hid h
  have HP := hid cP
  have hr : c.propose = none := by unfold CoreM.propose; rw [hp, hq]; rfl
  have HR := hid hr
  clear hf1 hS h hr hp cP
  go_enter Try.func72, Try.ntmps72
  go_wp2_with fail
  go_region_held3 (fun W => W.cell? ⟨b, 4, none⟩ = some (.int .i64 c.view) ∧ W.cell? ⟨b, 7, none⟩ = some (.map (some bp)) ∧ (Instr.lookup 94 (.map (some bp)) (.int .i64 c.view) true).run Try.prog W = .ok (.tuple #[.agg #[.slice A1 n1 m1, .int .i64 x1], .bool false]) W ∧ Below w.heap.size w W)
    (first | exact HS.out _ (Below.refl _ _).drew | exact HS.out _ ((Below.refl _ w).drew.alloc (Nat.le_refl _) _) | exact HS.out _ (((Below.refl _ w).drew.alloc (Nat.le_refl _) _).setCell (Nat.le_refl _) _))
    (fail)
  all_goals
    have d1 : (w.alloc (Obj.cells #[Value.slice A1 n1 m1, Value.int IntKind.i64 x1] 106)).drew.cell? ⟨b, 1, none⟩ = some (.int .i64 c.me) := (cell_alloc_old _ _ _ _ H.out.lt).trans c1
    have d4 : (w.alloc (Obj.cells #[Value.slice A1 n1 m1, Value.int IntKind.i64 x1] 106)).drew.cell? ⟨b, 4, none⟩ = some (.int .i64 c.view) := (cell_alloc_old _ _ _ _ H.out.lt).trans c4
    have e2 : Below w.heap.size w (w.alloc (Obj.cells #[Value.slice A1 n1 m1, Value.int IntKind.i64 x1] 106)).drew := ((Below.refl w.heap.size w).alloc (Nat.le_refl _) _).drew
    generalize (w.alloc (Obj.cells #[Value.slice A1 n1 m1, Value.int IntKind.i64 x1] 106)).drew = W1 at d1 d4 e2 ⊢
    go_wp2
    go_quiet ((go_at_call 53; exact Calls.quiet_of (HP.out _ (Off.drewN (Off.of_below (F := fun _ => False) e2) _).below)))
    go_wp2
    go_ret
    rw [HR.out]
    exact ⟨rfl, Left.of_below ⟨_, _, _, _, _, _, _, _, _, H.out⟩ (Off.drewN (Off.of_below (F := fun _ => False) e2) _).below⟩

set_option maxRecDepth 100000 in
set_option maxHeartbeats 2000000 in
/-- Nothing is prepared, and it has no wish. -/
theorem propose_nothing {ρ : Roles} {i b fid : Nat} {c : CoreM} (w : World) (h : CoreAt w ρ i b fid c) (hf : c.Fine) (hp : (c.props.lookup c.view).isSome = false) (hq : (c.proposer c.view != c.me) = false) (hn : c.best c.view = none) (hw : c.wishes = false) :
    Calls Try.prog 72 #[.pointer (some ⟨b, 0, none⟩)] w (DidPost w ρ i b fid c c.propose) := by
  have cP := fun W (hW : Below w.heap.size w W) => proposer_any c.view W (h.below hW) hf.ok hf.ok.view0 hf.ok.view1
  have cB := fun W (hW : Below w.heap.size w W) => best_any c.view W (h.below hW) hf.ok hf.preps.ok
  obtain ⟨vw, vl, vv, bp, b1, b2, b3, bs, bd, h⟩ := h
  obtain ⟨A1, n1, m1, x1, hf1, _⟩ := h.props.find c.view
  obtain ⟨hr3, z, hz1, hz2, hz3⟩ := id h.props
  rw [hp] at hf1
  have c1 := h.cell 1
  have c4 := h.cell 4
  have c5 := h.cell 5
  have c6 := h.cell 6
  have c7 := h.cell 7
  simp only [coreCells, List.getElem?_toArray, List.getElem?_cons_zero, List.getElem?_cons_succ] at c1 c4 c5 c6 c7
  have hS : ∀ W, Below w.heap.size w W → W.cell? ⟨b, 4, none⟩ = some (.int .i64 c.view) ∧ W.cell? ⟨b, 7, none⟩ = some (.map (some bp)) ∧ (Instr.lookup 94 (.map (some bp)) (.int .i64 c.view) true).run Try.prog W = .ok (.tuple #[.agg #[.slice A1 n1 m1, .int .i64 x1], .bool false]) W ∧ Below w.heap.size w W :=
    fun W hW => ⟨(hW.cell (p := ⟨b, 4, none⟩) h.lt).trans c4, (hW.cell (p := ⟨b, 7, none⟩) h.lt).trans c7, hf1 W hW, hW⟩
  have HS := hid hS
  have H := hid h
  have HP := hid cP
  have hr : c.propose = none := by unfold CoreM.propose; rw [hp, hq, hn]; simp [hw]
  rw [hn] at cB
  rw [hw] at c6
  have HR := hid hr
  have HB := hid cB
  clear hf1 hS h hr hp cP cB
  go_enter Try.func72, Try.ntmps72
  go_wp2_with fail
  go_region_held3 (fun W => W.cell? ⟨b, 4, none⟩ = some (.int .i64 c.view) ∧ W.cell? ⟨b, 7, none⟩ = some (.map (some bp)) ∧ (Instr.lookup 94 (.map (some bp)) (.int .i64 c.view) true).run Try.prog W = .ok (.tuple #[.agg #[.slice A1 n1 m1, .int .i64 x1], .bool false]) W ∧ Below w.heap.size w W)
    (first | exact HS.out _ (Below.refl _ _).drew | exact HS.out _ ((Below.refl _ w).drew.alloc (Nat.le_refl _) _) | exact HS.out _ (((Below.refl _ w).drew.alloc (Nat.le_refl _) _).setCell (Nat.le_refl _) _))
    (fail)
  all_goals
    have e2 : Below w.heap.size w (w.alloc (Obj.cells #[Value.slice A1 n1 m1, Value.int IntKind.i64 x1] 106)).drew := ((Below.refl w.heap.size w).alloc (Nat.le_refl _) _).drew
    generalize (w.alloc (Obj.cells #[Value.slice A1 n1 m1, Value.int IntKind.i64 x1] 106)).drew = W1 at e2 ⊢
    have d1 := (e2.cell (p := ⟨b, 1, none⟩) H.out.lt).trans c1
    have d4 := (e2.cell (p := ⟨b, 4, none⟩) H.out.lt).trans c4
    have d6 := (e2.cell (p := ⟨b, 6, none⟩) H.out.lt).trans c6
    go_wp2
    go_quiet ((go_at_call 53; exact Calls.quiet_of (HP.out _ (Off.drewN (Off.of_below (F := fun _ => False) e2) _).below)))
    have e3 : Below w.heap.size w (W1.drewN nq) := (Off.drewN (Off.of_below (F := fun _ => False) e2) _).below
    go_wp2_with (go_at_call 85; refine (HB.out _ e3).mono ?_; rintro e w3 ⟨v, rfl, hv3, hb3⟩; have e4 := e3.trans (hb3.mono e3.size); have d5 := (e4.cell (p := ⟨b, 5, none⟩) H.out.lt).trans c5; have d6 := (e4.cell (p := ⟨b, 6, none⟩) H.out.lt).trans c6; have d7 := (e4.cell (p := ⟨b, 7, none⟩) H.out.lt).trans c7)
    go_ret
    rw [HR.out]
    exact ⟨rfl, Left.of_below ⟨_, _, _, _, _, _, _, _, _, H.out⟩ e4⟩

set_option maxRecDepth 100000 in
set_option maxHeartbeats 2000000 in
/-- Nothing is prepared: it proposes its wish. -/
theorem propose_wish {ρ : Roles} {i b fid : Nat} {c : CoreM} (w : World) (h : CoreAt w ρ i b fid c) (hf : c.Fine) (hp : (c.props.lookup c.view).isSome = false) (hq : (c.proposer c.view != c.me) = false) (hn : c.best c.view = none) (hw : c.wishes = true) :
    Calls Try.prog 72 #[.pointer (some ⟨b, 0, none⟩)] w (DidPost w ρ i b fid c c.propose) := by
  have cP := fun W (hW : Below w.heap.size w W) => proposer_any c.view W (h.below hW) hf.ok hf.ok.view0 hf.ok.view1
  have cB := fun W (hW : Below w.heap.size w W) => best_any c.view W (h.below hW) hf.ok hf.preps.ok
  obtain ⟨vw, vl, vv, bp, b1, b2, b3, bs, bd, h⟩ := h
  obtain ⟨A1, n1, m1, x1, hf1, _⟩ := h.props.find c.view
  obtain ⟨hr3, z, hz1, hz2, hz3⟩ := id h.props
  rw [hp] at hf1
  have c1 := h.cell 1
  have c4 := h.cell 4
  have c5 := h.cell 5
  have c6 := h.cell 6
  have c7 := h.cell 7
  simp only [coreCells, List.getElem?_toArray, List.getElem?_cons_zero, List.getElem?_cons_succ] at c1 c4 c5 c6 c7
  have hS : ∀ W, Below w.heap.size w W → W.cell? ⟨b, 4, none⟩ = some (.int .i64 c.view) ∧ W.cell? ⟨b, 7, none⟩ = some (.map (some bp)) ∧ (Instr.lookup 94 (.map (some bp)) (.int .i64 c.view) true).run Try.prog W = .ok (.tuple #[.agg #[.slice A1 n1 m1, .int .i64 x1], .bool false]) W ∧ Below w.heap.size w W :=
    fun W hW => ⟨(hW.cell (p := ⟨b, 4, none⟩) h.lt).trans c4, (hW.cell (p := ⟨b, 7, none⟩) h.lt).trans c7, hf1 W hW, hW⟩
  have HS := hid hS
  have H := hid h
  have HP := hid cP
  have hr : c.propose = some { c with props := put c.props c.view (c.wish, -1) } := by unfold CoreM.propose; rw [hp, hq, hn]; simp [hw]
  rw [hn] at cB
  rw [hw] at c6
  have HR := hid hr
  have HB := hid cB
  have hS9 : ∀ W, Off (fun k => k = bp) w W → W.cell? ⟨b, 4, none⟩ = some (.int .i64 c.view) ∧ W.cell? ⟨b, 7, none⟩ = some (.map (some bp)) ∧ Off (fun k => k = bp) w W := fun W hW =>
    have hne : b ≠ bp := by rintro rfl; have := h.role; rw [hr3] at this; simp at this
    ⟨hW.cell_some c4 hne, hW.cell_some c7 hne, hW⟩
  have HS9 := hid hS9
  have hsz := hz1.lt
  have HZ1 := hid hz1
  have HZ2 := hid hz2
  have HZ3 := hid hz3
  clear hf1 hS hS9 h hr hp cP cB hz1 hz2 hz3
  go_enter Try.func72, Try.ntmps72
  go_wp2_with fail
  go_region_held3 (fun W => W.cell? ⟨b, 4, none⟩ = some (.int .i64 c.view) ∧ W.cell? ⟨b, 7, none⟩ = some (.map (some bp)) ∧ (Instr.lookup 94 (.map (some bp)) (.int .i64 c.view) true).run Try.prog W = .ok (.tuple #[.agg #[.slice A1 n1 m1, .int .i64 x1], .bool false]) W ∧ Below w.heap.size w W)
    (first | exact HS.out _ (Below.refl _ _).drew | exact HS.out _ ((Below.refl _ w).drew.alloc (Nat.le_refl _) _) | exact HS.out _ (((Below.refl _ w).drew.alloc (Nat.le_refl _) _).setCell (Nat.le_refl _) _))
    (fail)
  all_goals
    have e2 : Below w.heap.size w (w.alloc (Obj.cells #[Value.slice A1 n1 m1, Value.int IntKind.i64 x1] 106)).drew := ((Below.refl w.heap.size w).alloc (Nat.le_refl _) _).drew
    generalize (w.alloc (Obj.cells #[Value.slice A1 n1 m1, Value.int IntKind.i64 x1] 106)).drew = W1 at e2 ⊢
    have d1 := (e2.cell (p := ⟨b, 1, none⟩) H.out.lt).trans c1
    have d4 := (e2.cell (p := ⟨b, 4, none⟩) H.out.lt).trans c4
    have d6 := (e2.cell (p := ⟨b, 6, none⟩) H.out.lt).trans c6
    go_wp2
    go_quiet ((go_at_call 53; exact Calls.quiet_of (HP.out _ (Off.drewN (Off.of_below (F := fun _ => False) e2) _).below)))
    have e3 : Below w.heap.size w (W1.drewN nq) := (Off.drewN (Off.of_below (F := fun _ => False) e2) _).below
    go_wp2_with (go_at_call 85; refine (HB.out _ e3).mono ?_; rintro e w3 ⟨v, rfl, hv3, hb3⟩; have e4 := e3.trans (hb3.mono e3.size); have d5 := (e4.cell (p := ⟨b, 5, none⟩) H.out.lt).trans c5; have d6 := (e4.cell (p := ⟨b, 6, none⟩) H.out.lt).trans c6; have d7 := (e4.cell (p := ⟨b, 7, none⟩) H.out.lt).trans c7)
    go_region_held3 (fun W => W.cell? ⟨b, 4, none⟩ = some (.int .i64 c.view) ∧ W.cell? ⟨b, 7, none⟩ = some (.map (some bp)) ∧ Off (fun k => k = bp) w W)
      (first
        | exact HS9.out _ (Off.of_below e4).drew
        | exact HS9.out _ (Off.of_below (e4.trans ((below_drew_l hb4).mono e4.size)))
        | exact HS9.out _ ((Off.of_below (e4.trans ((below_drew_l hb4).mono e4.size))).trans ho5 (fun _ _ h => h)))
      (first
        | (go_at_call 52; refine (clone_any _ ((H.out.wish).below e4).drew hf.wish.lim).mono ?_; rintro e w4 ⟨v', rfl, hv4, hb4⟩; obtain ⟨A4, cap4, rfl, hvx4⟩ := id hv4; obtain ⟨w5, hrun5, hm5, ho5, hs5⟩ := (HZ1.out.below (e4.trans ((below_drew_l hb4).mono e4.size))).update (P := Try.prog) Try.underlying94 Try.underlying3 c.view (.agg #[.slice A4 c.wish.length cap4, .int .i64 (-1)])))
    all_goals
      go_wp2
      go_ret
      rw [HR.out]
      exact ⟨rfl, props_close H.out hr3 HZ1.out HZ2.out HZ3.out (e4.trans ((below_drew_l hb4).mono e4.size)) (hv4.mono (fun k _ hk => Nat.le_trans e4.size hk)) hm5 ho5⟩

set_option maxRecDepth 100000 in
set_option maxHeartbeats 2000000 in
/-- It proposes what is prepared. -/
theorem propose_best {ρ : Roles} {i b fid : Nat} {c : CoreM} (w : World) (h : CoreAt w ρ i b fid c) (hf : c.Fine) (hp : (c.props.lookup c.view).isSome = false) (hq : (c.proposer c.view != c.me) = false) {view : Int} {l : List UInt8} (hn : c.best c.view = some (view, l)) :
    Calls Try.prog 72 #[.pointer (some ⟨b, 0, none⟩)] w (DidPost w ρ i b fid c c.propose) := by
  have cP := fun W (hW : Below w.heap.size w W) => proposer_any c.view W (h.below hW) hf.ok hf.ok.view0 hf.ok.view1
  have cB := fun W (hW : Below w.heap.size w W) => best_any c.view W (h.below hW) hf.ok hf.preps.ok
  obtain ⟨vw, vl, vv, bp, b1, b2, b3, bs, bd, h⟩ := h
  obtain ⟨A1, n1, m1, x1, hf1, _⟩ := h.props.find c.view
  obtain ⟨hr3, z, hz1, hz2, hz3⟩ := id h.props
  rw [hp] at hf1
  have c1 := h.cell 1
  have c4 := h.cell 4
  have c5 := h.cell 5
  have c6 := h.cell 6
  have c7 := h.cell 7
  simp only [coreCells, List.getElem?_toArray, List.getElem?_cons_zero, List.getElem?_cons_succ] at c1 c4 c5 c6 c7
  have hS : ∀ W, Below w.heap.size w W → W.cell? ⟨b, 4, none⟩ = some (.int .i64 c.view) ∧ W.cell? ⟨b, 7, none⟩ = some (.map (some bp)) ∧ (Instr.lookup 94 (.map (some bp)) (.int .i64 c.view) true).run Try.prog W = .ok (.tuple #[.agg #[.slice A1 n1 m1, .int .i64 x1], .bool false]) W ∧ Below w.heap.size w W :=
    fun W hW => ⟨(hW.cell (p := ⟨b, 4, none⟩) h.lt).trans c4, (hW.cell (p := ⟨b, 7, none⟩) h.lt).trans c7, hf1 W hW, hW⟩
  have HS := hid hS
  have H := hid h
  have HP := hid cP
  have hr : c.propose = some { c with props := put c.props c.view (l, view) } := by unfold CoreM.propose; rw [hp, hq, hn]; rfl
  have hls : Short l := hf.prepared (best_mem hn).2.1
  rw [hn] at cB
  have HR := hid hr
  have HB := hid cB
  have hS9 : ∀ W, Off (fun k => k = bp) w W → W.cell? ⟨b, 4, none⟩ = some (.int .i64 c.view) ∧ W.cell? ⟨b, 7, none⟩ = some (.map (some bp)) ∧ Off (fun k => k = bp) w W := fun W hW =>
    have hne : b ≠ bp := by rintro rfl; have := h.role; rw [hr3] at this; simp at this
    ⟨hW.cell_some c4 hne, hW.cell_some c7 hne, hW⟩
  have HS9 := hid hS9
  have hsz := hz1.lt
  have HZ1 := hid hz1
  have HZ2 := hid hz2
  have HZ3 := hid hz3
  clear hf1 hS hS9 h hr hp cP cB hz1 hz2 hz3
  go_enter Try.func72, Try.ntmps72
  go_wp2_with fail
  go_region_held3 (fun W => W.cell? ⟨b, 4, none⟩ = some (.int .i64 c.view) ∧ W.cell? ⟨b, 7, none⟩ = some (.map (some bp)) ∧ (Instr.lookup 94 (.map (some bp)) (.int .i64 c.view) true).run Try.prog W = .ok (.tuple #[.agg #[.slice A1 n1 m1, .int .i64 x1], .bool false]) W ∧ Below w.heap.size w W)
    (first | exact HS.out _ (Below.refl _ _).drew | exact HS.out _ ((Below.refl _ w).drew.alloc (Nat.le_refl _) _) | exact HS.out _ (((Below.refl _ w).drew.alloc (Nat.le_refl _) _).setCell (Nat.le_refl _) _))
    (fail)
  all_goals
    have e2 : Below w.heap.size w (w.alloc (Obj.cells #[Value.slice A1 n1 m1, Value.int IntKind.i64 x1] 106)).drew := ((Below.refl w.heap.size w).alloc (Nat.le_refl _) _).drew
    generalize (w.alloc (Obj.cells #[Value.slice A1 n1 m1, Value.int IntKind.i64 x1] 106)).drew = W1 at e2 ⊢
    have d1 := (e2.cell (p := ⟨b, 1, none⟩) H.out.lt).trans c1
    have d4 := (e2.cell (p := ⟨b, 4, none⟩) H.out.lt).trans c4
    have d6 := (e2.cell (p := ⟨b, 6, none⟩) H.out.lt).trans c6
    go_wp2
    go_quiet ((go_at_call 53; exact Calls.quiet_of (HP.out _ (Off.drewN (Off.of_below (F := fun _ => False) e2) _).below)))
    have e3 : Below w.heap.size w (W1.drewN nq) := (Off.drewN (Off.of_below (F := fun _ => False) e2) _).below
    go_wp2_with (go_at_call 85; refine (HB.out _ e3).mono ?_; rintro e w3 ⟨v, rfl, hv3, hb3⟩; have e4 := e3.trans (hb3.mono e3.size); have d5 := (e4.cell (p := ⟨b, 5, none⟩) H.out.lt).trans c5; have d6 := (e4.cell (p := ⟨b, 6, none⟩) H.out.lt).trans c6; have d7 := (e4.cell (p := ⟨b, 7, none⟩) H.out.lt).trans c7)
    go_region_held3 (fun W => W.cell? ⟨b, 4, none⟩ = some (.int .i64 c.view) ∧ W.cell? ⟨b, 7, none⟩ = some (.map (some bp)) ∧ Off (fun k => k = bp) w W)
      (first
        | exact HS9.out _ (Off.of_below e4).drew
        | exact HS9.out _ (Off.of_below (e4.trans ((below_drew_l hb4).mono e4.size)))
        | exact HS9.out _ ((Off.of_below (e4.trans ((below_drew_l hb4).mono e4.size))).trans ho5 (fun _ _ h => h)))
      (first
        | (go_at_call 52; refine (clone_any _ (hv3.below hb3).drew hls.lim).mono ?_; rintro e w4 ⟨v', rfl, hv4, hb4⟩; obtain ⟨A4, cap4, rfl, hvx4⟩ := id hv4; obtain ⟨w5, hrun5, hm5, ho5, hs5⟩ := (HZ1.out.below (e4.trans ((below_drew_l hb4).mono e4.size))).update (P := Try.prog) Try.underlying94 Try.underlying3 c.view (.agg #[.slice A4 l.length cap4, .int .i64 view])))
    all_goals
      go_wp2
      go_ret
      rw [HR.out]
      exact ⟨rfl, props_close H.out hr3 HZ1.out HZ2.out HZ3.out (e4.trans ((below_drew_l hb4).mono e4.size)) (hv4.mono (fun k _ hk => Nat.le_trans e4.size hk)) hm5 ho5⟩

theorem propose_any {ρ : Roles} {i b fid : Nat} {c : CoreM} (w : World) (h : CoreAt w ρ i b fid c) (hf : c.Fine) :
    Calls Try.prog 72 #[.pointer (some ⟨b, 0, none⟩)] w (DidPost w ρ i b fid c c.propose) := by
  cases hp : (c.props.lookup c.view).isSome with
  | true => exact propose_there w h hp
  | false =>
    cases hq : (c.proposer c.view != c.me) with
    | true => exact propose_other w h hf.ok hp hq
    | false =>
      cases hn : c.best c.view with
      | some r => exact propose_best w h hf hp hq hn
      | none =>
        cases hw : c.wishes with
        | true => exact propose_wish w h hf hp hq hn hw
        | false => exact propose_nothing w h hf hp hq hn hw
end Go.Proofs.Ytkkmkkgjpmlhaaa
