/- prepare. -/
import Derived.Test.YtkkmkkgjpmlhaaaV08
namespace Go.Proofs.Ytkkmkkgjpmlhaaa
open Go.RowKit Go.MapKept

set_option maxRecDepth 100000 in
set_option maxHeartbeats 2000000 in
/-- There is no proposal. -/
theorem prepare_nothing {ρ : Roles} {i b fid : Nat} {c : CoreM} {acc : List UInt8 → Bool} (w : World) (h : CoreAt w ρ i b fid c) (hf : c.Fine) (ha : Accepts fid acc) (hp : c.props.lookup c.view = none) {hh : Bool} (hht : hasT c.preps c.view c.me = hh) :
    Calls Try.prog 73 #[.pointer (some ⟨b, 0, none⟩)] w (DidPost w ρ i b fid c (c.prepare acc)) := by
  obtain ⟨vw, vl, vv, bp, b1, b2, b3, bs, bd, h⟩ := h
  obtain ⟨A1, n1, m1, x1, hf1, hp1⟩ := h.props.find c.view
  obtain ⟨tv, A2, n2, m2, ht1, ht2, _⟩ := h.preps.find2 c.view c.me
  have c1 := h.cell 1
  have c4 := h.cell 4
  have c7 := h.cell 7
  have c8 := h.cell 8
  simp only [coreCells, List.getElem?_toArray, List.getElem?_cons_zero, List.getElem?_cons_succ] at c1 c4 c7 c8
  have hS : ∀ W, Below w.heap.size w W → W.cell? ⟨b, 4, none⟩ = some (.int .i64 c.view) ∧ W.cell? ⟨b, 7, none⟩ = some (.map (some bp)) ∧ (Instr.lookup 94 (.map (some bp)) (.int .i64 c.view) true).run Try.prog W = .ok (.tuple #[.agg #[.slice A1 n1 m1, .int .i64 x1], .bool (c.props.lookup c.view).isSome]) W ∧ Below w.heap.size w W :=
    fun W hW => ⟨(hW.cell (p := ⟨b, 4, none⟩) h.lt).trans c4, (hW.cell (p := ⟨b, 7, none⟩) h.lt).trans c7, hf1 W hW, hW⟩
  have hS2 : ∀ W1, Below w.heap.size w W1 → ∀ W, Below W1.heap.size W1 W → W.cell? ⟨b, 1, none⟩ = some (.int .i64 c.me) ∧ W.cell? ⟨b, 4, none⟩ = some (.int .i64 c.view) ∧ W.cell? ⟨b, 8, none⟩ = some (.map (some b1)) ∧ (Instr.lookup 95 (.map (some b1)) (.int .i64 c.view) false).run Try.prog W = .ok tv W ∧ (Instr.lookup 98 tv (.int .i64 c.me) true).run Try.prog W = .ok (.tuple #[.slice A2 n2 m2, .bool (hasT c.preps c.view c.me)]) W ∧ Below W1.heap.size W1 W :=
    fun W1 h1 W hW => ⟨((h1.trans (hW.mono h1.size)).cell (p := ⟨b, 1, none⟩) h.lt).trans c1, ((h1.trans (hW.mono h1.size)).cell (p := ⟨b, 4, none⟩) h.lt).trans c4, ((h1.trans (hW.mono h1.size)).cell (p := ⟨b, 8, none⟩) h.lt).trans c8, ht1 W (h1.trans (hW.mono h1.size)), ht2 W (h1.trans (hW.mono h1.size)), hW⟩
  have hr : c.prepare acc = none := by unfold CoreM.prepare; rw [hp]
  rw [hp] at hS
  rw [hht] at hS2
  have HS := hid hS
  have HS2 := hid hS2
  have H := hid h
  have HR := hid hr
  have HA := hid ha
  clear hf1 ht1 ht2 hS hS2 h hr ha c1 c4 c7 c8
  go_enter Try.func73, Try.ntmps73
  go_wp2_with fail
  go_region_held3 (fun W => W.cell? ⟨b, 4, none⟩ = some (.int .i64 c.view) ∧ W.cell? ⟨b, 7, none⟩ = some (.map (some bp)) ∧ (Instr.lookup 94 (.map (some bp)) (.int .i64 c.view) true).run Try.prog W = .ok (.tuple #[.agg #[.slice A1 n1 m1, .int .i64 x1], .bool (none : Option (List UInt8 × Int)).isSome]) W ∧ Below w.heap.size w W)
    (first | exact HS.out _ (Below.refl _ _).drew | exact HS.out _ ((Below.refl _ w).drew.alloc (Nat.le_refl _) _) | exact HS.out _ (((Below.refl _ w).drew.alloc (Nat.le_refl _) _).setCell (Nat.le_refl _) _))
    (fail)
  all_goals
    have e2 : Below w.heap.size w (w.alloc (Obj.cells #[Value.slice A1 n1 m1, Value.int IntKind.i64 x1] 106)).drew := ((Below.refl w.heap.size w).alloc (Nat.le_refl _) _).drew
    have q0 : (w.alloc (Obj.cells #[Value.slice A1 n1 m1, Value.int IntKind.i64 x1] 106)).drew.cell? ⟨w.heap.size, 0, none⟩ = some (.slice A1 n1 m1) := cell_alloc_new _ _ _ _ _ rfl
    have q1 : (w.alloc (Obj.cells #[Value.slice A1 n1 m1, Value.int IntKind.i64 x1] 106)).drew.cell? ⟨w.heap.size, 1, none⟩ = some (.int .i64 x1) := cell_alloc_new _ _ _ _ _ rfl
    have hk0 : w.heap.size < (w.alloc (Obj.cells #[Value.slice A1 n1 m1, Value.int IntKind.i64 x1] 106)).drew.heap.size := by show _ < (w.alloc _).heap.size; simp
    generalize (w.alloc (Obj.cells #[Value.slice A1 n1 m1, Value.int IntKind.i64 x1] 106)).drew = W1 at e2 q0 q1 hk0 ⊢
    go_wp2_with fail
    go_region_held3 (fun W => W.cell? ⟨b, 1, none⟩ = some (.int .i64 c.me) ∧ W.cell? ⟨b, 4, none⟩ = some (.int .i64 c.view) ∧ W.cell? ⟨b, 8, none⟩ = some (.map (some b1)) ∧ (Instr.lookup 95 (.map (some b1)) (.int .i64 c.view) false).run Try.prog W = .ok tv W ∧ (Instr.lookup 98 tv (.int .i64 c.me) true).run Try.prog W = .ok (.tuple #[.slice A2 n2 m2, .bool hh]) W ∧ Below W1.heap.size W1 W)
      (first | exact HS2.out _ e2 _ (Below.refl _ _).drew)
      (fail)
    cases hh
    all_goals
      go_wp2
      go_ret
      rw [HR.out]
      exact ⟨rfl, Left.of_below ⟨_, _, _, _, _, _, _, _, _, H.out⟩ e2.drew⟩

set_option maxRecDepth 100000 in
set_option maxHeartbeats 2000000 in
/-- It has prepared already. -/
theorem prepare_done {ρ : Roles} {i b fid : Nat} {c : CoreM} {acc : List UInt8 → Bool} (w : World) (h : CoreAt w ρ i b fid c) (hf : c.Fine) (ha : Accepts fid acc) {p : List UInt8 × Int} (hp : c.props.lookup c.view = some p) (hht : hasT c.preps c.view c.me = true) :
    Calls Try.prog 73 #[.pointer (some ⟨b, 0, none⟩)] w (DidPost w ρ i b fid c (c.prepare acc)) := by
  obtain ⟨vw, vl, vv, bp, b1, b2, b3, bs, bd, h⟩ := h
  obtain ⟨A1, n1, m1, x1, hf1, hp1⟩ := h.props.find c.view
  obtain ⟨tv, A2, n2, m2, ht1, ht2, _⟩ := h.preps.find2 c.view c.me
  have c1 := h.cell 1
  have c4 := h.cell 4
  have c7 := h.cell 7
  have c8 := h.cell 8
  simp only [coreCells, List.getElem?_toArray, List.getElem?_cons_zero, List.getElem?_cons_succ] at c1 c4 c7 c8
  have hS : ∀ W, Below w.heap.size w W → W.cell? ⟨b, 4, none⟩ = some (.int .i64 c.view) ∧ W.cell? ⟨b, 7, none⟩ = some (.map (some bp)) ∧ (Instr.lookup 94 (.map (some bp)) (.int .i64 c.view) true).run Try.prog W = .ok (.tuple #[.agg #[.slice A1 n1 m1, .int .i64 x1], .bool (c.props.lookup c.view).isSome]) W ∧ Below w.heap.size w W :=
    fun W hW => ⟨(hW.cell (p := ⟨b, 4, none⟩) h.lt).trans c4, (hW.cell (p := ⟨b, 7, none⟩) h.lt).trans c7, hf1 W hW, hW⟩
  have hS2 : ∀ W1, Below w.heap.size w W1 → ∀ W, Below W1.heap.size W1 W → W.cell? ⟨b, 1, none⟩ = some (.int .i64 c.me) ∧ W.cell? ⟨b, 4, none⟩ = some (.int .i64 c.view) ∧ W.cell? ⟨b, 8, none⟩ = some (.map (some b1)) ∧ (Instr.lookup 95 (.map (some b1)) (.int .i64 c.view) false).run Try.prog W = .ok tv W ∧ (Instr.lookup 98 tv (.int .i64 c.me) true).run Try.prog W = .ok (.tuple #[.slice A2 n2 m2, .bool (hasT c.preps c.view c.me)]) W ∧ Below W1.heap.size W1 W :=
    fun W1 h1 W hW => ⟨((h1.trans (hW.mono h1.size)).cell (p := ⟨b, 1, none⟩) h.lt).trans c1, ((h1.trans (hW.mono h1.size)).cell (p := ⟨b, 4, none⟩) h.lt).trans c4, ((h1.trans (hW.mono h1.size)).cell (p := ⟨b, 8, none⟩) h.lt).trans c8, ht1 W (h1.trans (hW.mono h1.size)), ht2 W (h1.trans (hW.mono h1.size)), hW⟩
  have hr : c.prepare acc = none := by unfold CoreM.prepare; rw [hp, hht]; rfl
  rw [hp] at hS
  rw [hht] at hS2
  obtain ⟨hp2, rfl⟩ := hp1 _ hp
  have hsh := (hf.propsV _ (lookup_mem hp)).1
  have HS := hid hS
  have HS2 := hid hS2
  have H := hid h
  have HR := hid hr
  have HA := hid ha
  clear hf1 ht1 ht2 hS hS2 h hr ha c1 c4 c7 c8
  go_enter Try.func73, Try.ntmps73
  go_wp2_with fail
  go_region_held3 (fun W => W.cell? ⟨b, 4, none⟩ = some (.int .i64 c.view) ∧ W.cell? ⟨b, 7, none⟩ = some (.map (some bp)) ∧ (Instr.lookup 94 (.map (some bp)) (.int .i64 c.view) true).run Try.prog W = .ok (.tuple #[.agg #[.slice A1 n1 m1, .int .i64 p.2], .bool (some p).isSome]) W ∧ Below w.heap.size w W)
    (first | exact HS.out _ (Below.refl _ _).drew | exact HS.out _ ((Below.refl _ w).drew.alloc (Nat.le_refl _) _) | exact HS.out _ (((Below.refl _ w).drew.alloc (Nat.le_refl _) _).setCell (Nat.le_refl _) _))
    (fail)
  all_goals
    have e2 : Below w.heap.size w (w.alloc (Obj.cells #[Value.slice A1 n1 m1, Value.int IntKind.i64 p.2] 106)).drew := ((Below.refl w.heap.size w).alloc (Nat.le_refl _) _).drew
    have q0 : (w.alloc (Obj.cells #[Value.slice A1 n1 m1, Value.int IntKind.i64 p.2] 106)).drew.cell? ⟨w.heap.size, 0, none⟩ = some (.slice A1 n1 m1) := cell_alloc_new _ _ _ _ _ rfl
    have q1 : (w.alloc (Obj.cells #[Value.slice A1 n1 m1, Value.int IntKind.i64 p.2] 106)).drew.cell? ⟨w.heap.size, 1, none⟩ = some (.int .i64 p.2) := cell_alloc_new _ _ _ _ _ rfl
    have hk0 : w.heap.size < (w.alloc (Obj.cells #[Value.slice A1 n1 m1, Value.int IntKind.i64 p.2] 106)).drew.heap.size := by show _ < (w.alloc _).heap.size; simp
    generalize (w.alloc (Obj.cells #[Value.slice A1 n1 m1, Value.int IntKind.i64 p.2] 106)).drew = W1 at e2 q0 q1 hk0 ⊢
    go_wp2_with fail
    go_region_held3 (fun W => W.cell? ⟨b, 1, none⟩ = some (.int .i64 c.me) ∧ W.cell? ⟨b, 4, none⟩ = some (.int .i64 c.view) ∧ W.cell? ⟨b, 8, none⟩ = some (.map (some b1)) ∧ (Instr.lookup 95 (.map (some b1)) (.int .i64 c.view) false).run Try.prog W = .ok tv W ∧ (Instr.lookup 98 tv (.int .i64 c.me) true).run Try.prog W = .ok (.tuple #[.slice A2 n2 m2, .bool true]) W ∧ Below W1.heap.size W1 W)
      (first | exact HS2.out _ e2 _ (Below.refl _ _).drew)
      (fail)
    go_wp2
    go_ret
    rw [HR.out]
    exact ⟨rfl, Left.of_below ⟨_, _, _, _, _, _, _, _, _, H.out⟩ e2.drew⟩

set_option maxRecDepth 100000 in
set_option maxHeartbeats 2000000 in
/-- It isn't fit. -/
theorem prepare_unfit {ρ : Roles} {i b fid : Nat} {c : CoreM} {acc : List UInt8 → Bool} (w : World) (h : CoreAt w ρ i b fid c) (hf : c.Fine) (ha : Accepts fid acc) {p : List UInt8 × Int} (hp : c.props.lookup c.view = some p) (hht : hasT c.preps c.view c.me = false) (hft : c.fit acc p = false) :
    Calls Try.prog 73 #[.pointer (some ⟨b, 0, none⟩)] w (DidPost w ρ i b fid c (c.prepare acc)) := by
  obtain ⟨vw, vl, vv, bp, b1, b2, b3, bs, bd, h⟩ := h
  obtain ⟨A1, n1, m1, x1, hf1, hp1⟩ := h.props.find c.view
  obtain ⟨tv, A2, n2, m2, ht1, ht2, _⟩ := h.preps.find2 c.view c.me
  have c1 := h.cell 1
  have c4 := h.cell 4
  have c7 := h.cell 7
  have c8 := h.cell 8
  simp only [coreCells, List.getElem?_toArray, List.getElem?_cons_zero, List.getElem?_cons_succ] at c1 c4 c7 c8
  have hS : ∀ W, Below w.heap.size w W → W.cell? ⟨b, 4, none⟩ = some (.int .i64 c.view) ∧ W.cell? ⟨b, 7, none⟩ = some (.map (some bp)) ∧ (Instr.lookup 94 (.map (some bp)) (.int .i64 c.view) true).run Try.prog W = .ok (.tuple #[.agg #[.slice A1 n1 m1, .int .i64 x1], .bool (c.props.lookup c.view).isSome]) W ∧ Below w.heap.size w W :=
    fun W hW => ⟨(hW.cell (p := ⟨b, 4, none⟩) h.lt).trans c4, (hW.cell (p := ⟨b, 7, none⟩) h.lt).trans c7, hf1 W hW, hW⟩
  have hS2 : ∀ W1, Below w.heap.size w W1 → ∀ W, Below W1.heap.size W1 W → W.cell? ⟨b, 1, none⟩ = some (.int .i64 c.me) ∧ W.cell? ⟨b, 4, none⟩ = some (.int .i64 c.view) ∧ W.cell? ⟨b, 8, none⟩ = some (.map (some b1)) ∧ (Instr.lookup 95 (.map (some b1)) (.int .i64 c.view) false).run Try.prog W = .ok tv W ∧ (Instr.lookup 98 tv (.int .i64 c.me) true).run Try.prog W = .ok (.tuple #[.slice A2 n2 m2, .bool (hasT c.preps c.view c.me)]) W ∧ Below W1.heap.size W1 W :=
    fun W1 h1 W hW => ⟨((h1.trans (hW.mono h1.size)).cell (p := ⟨b, 1, none⟩) h.lt).trans c1, ((h1.trans (hW.mono h1.size)).cell (p := ⟨b, 4, none⟩) h.lt).trans c4, ((h1.trans (hW.mono h1.size)).cell (p := ⟨b, 8, none⟩) h.lt).trans c8, ht1 W (h1.trans (hW.mono h1.size)), ht2 W (h1.trans (hW.mono h1.size)), hW⟩
  have hr : c.prepare acc = none := by unfold CoreM.prepare; rw [hp]; simp [hft]
  rw [hp] at hS
  rw [hht] at hS2
  obtain ⟨hp2, rfl⟩ := hp1 _ hp
  have hsh := (hf.propsV _ (lookup_mem hp)).1
  have HS := hid hS
  have HS2 := hid hS2
  have H := hid h
  have HR := hid hr
  have HA := hid ha
  clear hf1 ht1 ht2 hS hS2 h hr ha c1 c4 c7 c8
  go_enter Try.func73, Try.ntmps73
  go_wp2_with fail
  go_region_held3 (fun W => W.cell? ⟨b, 4, none⟩ = some (.int .i64 c.view) ∧ W.cell? ⟨b, 7, none⟩ = some (.map (some bp)) ∧ (Instr.lookup 94 (.map (some bp)) (.int .i64 c.view) true).run Try.prog W = .ok (.tuple #[.agg #[.slice A1 n1 m1, .int .i64 p.2], .bool (some p).isSome]) W ∧ Below w.heap.size w W)
    (first | exact HS.out _ (Below.refl _ _).drew | exact HS.out _ ((Below.refl _ w).drew.alloc (Nat.le_refl _) _) | exact HS.out _ (((Below.refl _ w).drew.alloc (Nat.le_refl _) _).setCell (Nat.le_refl _) _))
    (fail)
  all_goals
    have e2 : Below w.heap.size w (w.alloc (Obj.cells #[Value.slice A1 n1 m1, Value.int IntKind.i64 p.2] 106)).drew := ((Below.refl w.heap.size w).alloc (Nat.le_refl _) _).drew
    have q0 : (w.alloc (Obj.cells #[Value.slice A1 n1 m1, Value.int IntKind.i64 p.2] 106)).drew.cell? ⟨w.heap.size, 0, none⟩ = some (.slice A1 n1 m1) := cell_alloc_new _ _ _ _ _ rfl
    have q1 : (w.alloc (Obj.cells #[Value.slice A1 n1 m1, Value.int IntKind.i64 p.2] 106)).drew.cell? ⟨w.heap.size, 1, none⟩ = some (.int .i64 p.2) := cell_alloc_new _ _ _ _ _ rfl
    have hk0 : w.heap.size < (w.alloc (Obj.cells #[Value.slice A1 n1 m1, Value.int IntKind.i64 p.2] 106)).drew.heap.size := by show _ < (w.alloc _).heap.size; simp
    generalize (w.alloc (Obj.cells #[Value.slice A1 n1 m1, Value.int IntKind.i64 p.2] 106)).drew = W1 at e2 q0 q1 hk0 ⊢
    go_wp2_with fail
    go_region_held3 (fun W => W.cell? ⟨b, 1, none⟩ = some (.int .i64 c.me) ∧ W.cell? ⟨b, 4, none⟩ = some (.int .i64 c.view) ∧ W.cell? ⟨b, 8, none⟩ = some (.map (some b1)) ∧ (Instr.lookup 95 (.map (some b1)) (.int .i64 c.view) false).run Try.prog W = .ok tv W ∧ (Instr.lookup 98 tv (.int .i64 c.me) true).run Try.prog W = .ok (.tuple #[.slice A2 n2 m2, .bool false]) W ∧ Below W1.heap.size W1 W)
      (first | exact HS2.out _ e2 _ (Below.refl _ _).drew)
      (fail)
    go_wp2_with (go_at_call 86; refine (fit_any p.2 _ (⟨_, _, _, _, _, _, _, _, _, H.out.below e2.drew⟩) hf HA.out (hp2.below e2.drew) hsh).mono ?_; rintro e w3 ⟨rfl, hb3⟩)
    go_ret
    rw [HR.out]
    exact ⟨rfl, Left.of_below ⟨_, _, _, _, _, _, _, _, _, H.out⟩ (e2.drew.trans (hb3.mono e2.size))⟩

set_option maxRecDepth 100000 in
set_option maxHeartbeats 2000000 in
/-- It prepares it. -/
theorem prepare_does {ρ : Roles} {i b fid : Nat} {c : CoreM} {acc : List UInt8 → Bool} (w : World) (h : CoreAt w ρ i b fid c) (hf : c.Fine) (ha : Accepts fid acc) {p : List UInt8 × Int} (hp : c.props.lookup c.view = some p) (hht : hasT c.preps c.view c.me = false) (hft : c.fit acc p = true) :
    Calls Try.prog 73 #[.pointer (some ⟨b, 0, none⟩)] w (DidPost w ρ i b fid c (c.prepare acc)) := by
  obtain ⟨vw, vl, vv, bp, b1, b2, b3, bs, bd, h⟩ := h
  obtain ⟨A1, n1, m1, x1, hf1, hp1⟩ := h.props.find c.view
  obtain ⟨tv, A2, n2, m2, ht1, ht2, _⟩ := h.preps.find2 c.view c.me
  have c1 := h.cell 1
  have c4 := h.cell 4
  have c7 := h.cell 7
  have c8 := h.cell 8
  simp only [coreCells, List.getElem?_toArray, List.getElem?_cons_zero, List.getElem?_cons_succ] at c1 c4 c7 c8
  have hS : ∀ W, Below w.heap.size w W → W.cell? ⟨b, 4, none⟩ = some (.int .i64 c.view) ∧ W.cell? ⟨b, 7, none⟩ = some (.map (some bp)) ∧ (Instr.lookup 94 (.map (some bp)) (.int .i64 c.view) true).run Try.prog W = .ok (.tuple #[.agg #[.slice A1 n1 m1, .int .i64 x1], .bool (c.props.lookup c.view).isSome]) W ∧ Below w.heap.size w W :=
    fun W hW => ⟨(hW.cell (p := ⟨b, 4, none⟩) h.lt).trans c4, (hW.cell (p := ⟨b, 7, none⟩) h.lt).trans c7, hf1 W hW, hW⟩
  have hS2 : ∀ W1, Below w.heap.size w W1 → ∀ W, Below W1.heap.size W1 W → W.cell? ⟨b, 1, none⟩ = some (.int .i64 c.me) ∧ W.cell? ⟨b, 4, none⟩ = some (.int .i64 c.view) ∧ W.cell? ⟨b, 8, none⟩ = some (.map (some b1)) ∧ (Instr.lookup 95 (.map (some b1)) (.int .i64 c.view) false).run Try.prog W = .ok tv W ∧ (Instr.lookup 98 tv (.int .i64 c.me) true).run Try.prog W = .ok (.tuple #[.slice A2 n2 m2, .bool (hasT c.preps c.view c.me)]) W ∧ Below W1.heap.size W1 W :=
    fun W1 h1 W hW => ⟨((h1.trans (hW.mono h1.size)).cell (p := ⟨b, 1, none⟩) h.lt).trans c1, ((h1.trans (hW.mono h1.size)).cell (p := ⟨b, 4, none⟩) h.lt).trans c4, ((h1.trans (hW.mono h1.size)).cell (p := ⟨b, 8, none⟩) h.lt).trans c8, ht1 W (h1.trans (hW.mono h1.size)), ht2 W (h1.trans (hW.mono h1.size)), hW⟩
  have hr : c.prepare acc = some { c with preps := setT c.preps c.view c.me p.1 } := by unfold CoreM.prepare; rw [hp]; simp [hft, hht]
  rw [hp] at hS
  rw [hht] at hS2
  obtain ⟨hp2, rfl⟩ := hp1 _ hp
  have hsh := (hf.propsV _ (lookup_mem hp)).1
  have HS := hid hS
  have HS2 := hid hS2
  have H := hid h
  have HR := hid hr
  have HA := hid ha
  clear hf1 ht1 ht2 hS hS2 h hr ha c1 c4 c7 c8
  go_enter Try.func73, Try.ntmps73
  go_wp2_with fail
  go_region_held3 (fun W => W.cell? ⟨b, 4, none⟩ = some (.int .i64 c.view) ∧ W.cell? ⟨b, 7, none⟩ = some (.map (some bp)) ∧ (Instr.lookup 94 (.map (some bp)) (.int .i64 c.view) true).run Try.prog W = .ok (.tuple #[.agg #[.slice A1 n1 m1, .int .i64 p.2], .bool (some p).isSome]) W ∧ Below w.heap.size w W)
    (first | exact HS.out _ (Below.refl _ _).drew | exact HS.out _ ((Below.refl _ w).drew.alloc (Nat.le_refl _) _) | exact HS.out _ (((Below.refl _ w).drew.alloc (Nat.le_refl _) _).setCell (Nat.le_refl _) _))
    (fail)
  all_goals
    have e2 : Below w.heap.size w (w.alloc (Obj.cells #[Value.slice A1 n1 m1, Value.int IntKind.i64 p.2] 106)).drew := ((Below.refl w.heap.size w).alloc (Nat.le_refl _) _).drew
    have q0 : (w.alloc (Obj.cells #[Value.slice A1 n1 m1, Value.int IntKind.i64 p.2] 106)).drew.cell? ⟨w.heap.size, 0, none⟩ = some (.slice A1 n1 m1) := cell_alloc_new _ _ _ _ _ rfl
    have q1 : (w.alloc (Obj.cells #[Value.slice A1 n1 m1, Value.int IntKind.i64 p.2] 106)).drew.cell? ⟨w.heap.size, 1, none⟩ = some (.int .i64 p.2) := cell_alloc_new _ _ _ _ _ rfl
    have hk0 : w.heap.size < (w.alloc (Obj.cells #[Value.slice A1 n1 m1, Value.int IntKind.i64 p.2] 106)).drew.heap.size := by show _ < (w.alloc _).heap.size; simp
    generalize (w.alloc (Obj.cells #[Value.slice A1 n1 m1, Value.int IntKind.i64 p.2] 106)).drew = W1 at e2 q0 q1 hk0 ⊢
    go_wp2_with fail
    go_region_held3 (fun W => W.cell? ⟨b, 1, none⟩ = some (.int .i64 c.me) ∧ W.cell? ⟨b, 4, none⟩ = some (.int .i64 c.view) ∧ W.cell? ⟨b, 8, none⟩ = some (.map (some b1)) ∧ (Instr.lookup 95 (.map (some b1)) (.int .i64 c.view) false).run Try.prog W = .ok tv W ∧ (Instr.lookup 98 tv (.int .i64 c.me) true).run Try.prog W = .ok (.tuple #[.slice A2 n2 m2, .bool false]) W ∧ Below W1.heap.size W1 W)
      (first | exact HS2.out _ e2 _ (Below.refl _ _).drew)
      (fail)
    go_wp2_with (go_at_call 86; refine (fit_any p.2 _ (⟨_, _, _, _, _, _, _, _, _, H.out.below e2.drew⟩) hf HA.out (hp2.below e2.drew) hsh).mono ?_; rintro e w3 ⟨rfl, hb3⟩)
    have e3 : Below w.heap.size w w3 := e2.drew.trans (hb3.mono e2.size)
    have hcol := H.out.till.below e3
    have d1 := hcol.cell 1
    have d4 := hcol.cell 4
    have d8 := hcol.cell 8
    simp only [coreCells, List.getElem?_toArray, List.getElem?_cons_zero, List.getElem?_cons_succ] at d1 d4 d8
    have r0 := (hb3.cell (p := ⟨w.heap.size, 0, none⟩) hk0).trans q0
    have hS5 : ∀ W, Off (fun k => ρ.till i w.heap.size k = (i, 10, 0) ∨ ρ.till i w.heap.size k = (i, 110, c.view)) w3 W → W.cell? ⟨b, 1, none⟩ = some (.int .i64 c.me) ∧ W.cell? ⟨b, 4, none⟩ = some (.int .i64 c.view) ∧ W.cell? ⟨b, 8, none⟩ = some (.map (some b1)) ∧ W.cell? ⟨w.heap.size, 0, none⟩ = some (.slice A1 n1 m1) ∧ Off (fun k => ρ.till i w.heap.size k = (i, 10, 0) ∨ ρ.till i w.heap.size k = (i, 110, c.view)) w3 W := fun W hW =>
      have hnb : ¬ (ρ.till i w.heap.size b = (i, 10, 0) ∨ ρ.till i w.heap.size b = (i, 110, c.view)) := by
        unfold Roles.till; rw [if_pos H.out.lt, H.out.role]; simp
      have hn0 : ¬ (ρ.till i w.heap.size w.heap.size = (i, 10, 0) ∨ ρ.till i w.heap.size w.heap.size = (i, 110, c.view)) := by
        unfold Roles.till; rw [if_neg (by omega)]; simp
      ⟨hW.cell_some d1 hnb, hW.cell_some d4 hnb, hW.cell_some d8 hnb, hW.cell_some r0 hn0, hW⟩
    have HS5 := hid hS5
    have hout := hcol.preps
    clear hS5 d1 d4 d8 q0 q1 r0
    go_wp2_with fail
    go_region_held3 (fun W => W.cell? ⟨b, 1, none⟩ = some (.int .i64 c.me) ∧ W.cell? ⟨b, 4, none⟩ = some (.int .i64 c.view) ∧ W.cell? ⟨b, 8, none⟩ = some (.map (some b1)) ∧ W.cell? ⟨w.heap.size, 0, none⟩ = some (.slice A1 n1 m1) ∧ Off (fun k => ρ.till i w.heap.size k = (i, 10, 0) ∨ ρ.till i w.heap.size k = (i, 110, c.view)) w3 W)
      (first | exact HS5.out _ (Off.refl _ _).drew | exact HS5.out _ ho5.drew_l)
      (first | (go_at_call 70; refine (set_any (l := p.1) _ (by omega) (hout.keep (Off.refl (fun _ => False) _).drew (Agr.refl _ _) (fun _ _ f => f.elim)) ((hp2.below e3).drew) hsh.lim).mono ?_; rintro e w5 ⟨rfl, ρ5, ha5, hout5, ho5⟩))
    all_goals
      go_wp2
      go_ret
      rw [HR.out]
      rw [if_neg (by rw [hht]; decide)] at hout5
      exact ⟨rfl, Left.after_below e3 ⟨ρ5, ha5, ⟨_, _, _, _, _, _, _, _, _, hcol.preps_set ho5.drew_l ha5 (fun k _ hk => hk.elim (fun e => .inl (by rw [e])) (fun e => .inr (by rw [e]))) hout5⟩, ho5.drew_l.mono (fun k _ hk => by rcases hk with e | e <;> rw [e])⟩⟩

theorem prepare_any {ρ : Roles} {i b fid : Nat} {c : CoreM} {acc : List UInt8 → Bool} (w : World) (h : CoreAt w ρ i b fid c) (hf : c.Fine) (ha : Accepts fid acc) :
    Calls Try.prog 73 #[.pointer (some ⟨b, 0, none⟩)] w (DidPost w ρ i b fid c (c.prepare acc)) := by
  cases hp : c.props.lookup c.view with
  | none => exact prepare_nothing w h hf ha hp rfl
  | some p =>
    cases hh : hasT c.preps c.view c.me with
    | true => exact prepare_done w h hf ha hp hh
    | false =>
      cases hft : c.fit acc p with
      | false => exact prepare_unfit w h hf ha hp hh hft
      | true => exact prepare_does w h hf ha hp hh hft
end Go.Proofs.Ytkkmkkgjpmlhaaa
