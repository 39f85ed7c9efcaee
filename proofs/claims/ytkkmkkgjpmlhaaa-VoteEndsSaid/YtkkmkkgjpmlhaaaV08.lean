/- fit: may a proposal be prepared? -/
import Derived.Test.YtkkmkkgjpmlhaaaV06
import Derived.Test.YtkkmkkgjpmlhaaaV02
import Derived.IntWalk
import Derived.BigQuiet
import Derived.Deep.QuietTactic
import Derived.Shelf.Abstract
namespace Go.Proofs.Ytkkmkkgjpmlhaaa
open Go.RowKit Go.MapKept

/-- Function fid answers as acc says, whatever bytes it is handed. -/
def Accepts (fid : Nat) (acc : List UInt8 → Bool) : Prop :=
  Enters Try.prog fid ∧ ∀ (W : World) (O : Nat → Prop) (v : Value) (l : List UInt8), Bs W O v l → Calls Try.prog fid #[v] W fun e w' => e = .returned (.bool (acc l)) ∧ Below W.heap.size W w'


/-- The box that holds the proposal. -/
theorem fit_box {w : World} {A : Option Addr} {n m : Nat} {x : Int} {O : Nat → Prop} {l : List UInt8} (hp : Bs w O (.slice A n m) l) : ∃ W0, W0 = w.alloc (.cells #[.slice A n m, .int .i64 x] 106) ∧ Below w.heap.size w W0 ∧ w.heap.size < W0.heap.size ∧
    W0.cell? ⟨w.heap.size, 0, none⟩ = some (.slice A n m) ∧ W0.cell? ⟨w.heap.size, 1, none⟩ = some (.int .i64 x) ∧ Bs W0 O (.slice A n m) l :=
  ⟨_, rfl, (Below.refl _ w).alloc (Nat.le_refl _) _, by simp, cell_alloc_new _ _ _ _ _ rfl, cell_alloc_new _ _ _ _ _ rfl, hp.below ((Below.refl _ w).alloc (Nat.le_refl _) _)⟩

def FitPost (w : World) (r : Bool) (e : Ending) (w' : World) : Prop := e = .returned (.bool r) ∧ Below w.heap.size w w'

set_option maxRecDepth 100000 in
set_option maxHeartbeats 2000000 in
/-- It isn't accepted. -/
theorem fit_not {ρ : Roles} {i b fid : Nat} {c : CoreM} {acc : List UInt8 → Bool} {O : Nat → Prop} {A : Option Addr} {n m : Nat} {l : List UInt8} (x : Int) (w : World) (h : CoreAt w ρ i b fid c) (hf : c.Fine) (ha : Accepts fid acc)
    (hp : Bs w O (.slice A n m) l) (hl : Short l) (hq : acc l = false) :
    Calls Try.prog 86 #[.pointer (some ⟨b, 0, none⟩), .agg #[.slice A n m, .int .i64 x]] w (FitPost w (c.fit acc (l, x))) := by
  have cP := fun W (hW : Below w.heap.size w W) => prepared_any x W (h.below hW) hf.ok hf.preps.ok
  obtain ⟨vw, vl, vv, bp, b1, b2, b3, bs, bd, h⟩ := h
  have c3 := h.cell 3
  have c4 := h.cell 4
  have c13 := h.cell 13
  have c14 := h.cell 14
  simp only [coreCells, List.getElem?_toArray, List.getElem?_cons_zero, List.getElem?_cons_succ] at c3 c4 c13 c14
  have hr : c.fit acc (l, x) = false := by unfold CoreM.fit; simp [hq]
  have HR := hid hr
  have HA := hid ha
  have hE : ∀ (args : Array Value) (w : World), (callFunc fid args).run Try.prog w = .ok (.enter fid args) w := ha.1
  have HP := hid cP
  have H := hid h
  clear hr ha cP h
  go_enter Try.func86, Try.ntmps86
  go_wp2_with fail
  obtain ⟨W0, hW0, e2, hk0, q0, q1, hp0⟩ := fit_box (x := x) hp
  rw [← hW0]
  have d3 := (e2.cell (p := ⟨b, 3, none⟩) H.out.lt).trans c3
  have d4 := (e2.cell (p := ⟨b, 4, none⟩) H.out.lt).trans c4
  have d13 := (e2.cell (p := ⟨b, 13, none⟩) H.out.lt).trans c13
  have d14 := (e2.cell (p := ⟨b, 14, none⟩) H.out.lt).trans c14
  have hbW := (H.out.below e2).lt
  clear hW0 c3 c4 c13 c14
  have hS : ∀ W, Below W0.heap.size W0 W → W.cell? ⟨b, 3, none⟩ = some (.func (.func fid) #[] #[]) ∧ W.cell? ⟨w.heap.size, 0, none⟩ = some (.slice A n m) ∧ Below W0.heap.size W0 W := fun W hW => ⟨(hW.cell (p := ⟨b, 3, none⟩) hbW).trans d3, (hW.cell (p := ⟨w.heap.size, 0, none⟩) hk0).trans q0, hW⟩
  have HS := hid hS
  clear hS
  go_region_held3 (fun W => W.cell? ⟨b, 3, none⟩ = some (.func (.func fid) #[] #[]) ∧ W.cell? ⟨w.heap.size, 0, none⟩ = some (.slice A n m) ∧ Below W0.heap.size W0 W)
    (first | exact HS.out _ (Below.refl _ _).drew | exact HS.out _ (below_drew_l hb1) | exact HS.out _ (((below_drew_l hb1)).trans (hb2.mono (below_drew_l hb1).size)))
    (first
      | (go_at_call 52; refine (clone_any _ hp0.drew hl.lim).mono ?_; rintro e w1 ⟨v', rfl, hv1, hb1⟩)
      | (go_at_fn fid; refine (HA.out.2 _ _ _ _ hv1).mono ?_; rintro e w2 ⟨rfl, hb2⟩))
  all_goals
    go_wp2
    go_ret
    rw [HR.out]
    exact ⟨rfl, e2.trans (((below_drew_l hb1).trans (hb2.mono (below_drew_l hb1).size)).mono e2.size)⟩

theorem quiet_eq {P : Program} {f : FuncId} {args : Array Value} {w : World} {n : Nat} {v : Value} (h : Calls P f args (w.drewN n) fun e w' => e = .returned v ∧ w.drewN n = w') :
    Calls P f args (w.drewN n) fun e w'' => e = .returned v ∧ ∃ m, w'' = w.drewN m := h.mono (by rintro e w' ⟨rfl, rfl⟩; exact ⟨rfl, n, rfl⟩)

set_option maxRecDepth 100000 in
set_option maxHeartbeats 2000000 in
/-- It has no lock. -/
theorem fit_free {ρ : Roles} {i b fid : Nat} {c : CoreM} {acc : List UInt8 → Bool} {O : Nat → Prop} {A : Option Addr} {n m : Nat} {l : List UInt8} (x : Int) (w : World) (h : CoreAt w ρ i b fid c) (hf : c.Fine) (ha : Accepts fid acc)
    (hp : Bs w O (.slice A n m) l) (hl : Short l) (hq : acc l = true) (hlk : decide (c.lock < 0) = true) :
    Calls Try.prog 86 #[.pointer (some ⟨b, 0, none⟩), .agg #[.slice A n m, .int .i64 x]] w (FitPost w (c.fit acc (l, x))) := by
  have cP := fun W (hW : Below w.heap.size w W) => prepared_any x W (h.below hW) hf.ok hf.preps.ok
  obtain ⟨vw, vl, vv, bp, b1, b2, b3, bs, bd, h⟩ := h
  have c3 := h.cell 3
  have c4 := h.cell 4
  have c13 := h.cell 13
  have c14 := h.cell 14
  simp only [coreCells, List.getElem?_toArray, List.getElem?_cons_zero, List.getElem?_cons_succ] at c3 c4 c13 c14
  have hr : c.fit acc (l, x) = true := by unfold CoreM.fit; have := of_decide_eq_true hlk; simp [hq, this]
  have HR := hid hr
  have HA := hid ha
  have hE : ∀ (args : Array Value) (w : World), (callFunc fid args).run Try.prog w = .ok (.enter fid args) w := ha.1
  have HP := hid cP
  have H := hid h
  clear hr ha cP h
  go_enter Try.func86, Try.ntmps86
  go_wp2_with fail
  obtain ⟨W0, hW0, e2, hk0, q0, q1, hp0⟩ := fit_box (x := x) hp
  rw [← hW0]
  have d3 := (e2.cell (p := ⟨b, 3, none⟩) H.out.lt).trans c3
  have d4 := (e2.cell (p := ⟨b, 4, none⟩) H.out.lt).trans c4
  have d13 := (e2.cell (p := ⟨b, 13, none⟩) H.out.lt).trans c13
  have d14 := (e2.cell (p := ⟨b, 14, none⟩) H.out.lt).trans c14
  have hbW := (H.out.below e2).lt
  clear hW0 c3 c4 c13 c14
  have hS : ∀ W, Below W0.heap.size W0 W → W.cell? ⟨b, 3, none⟩ = some (.func (.func fid) #[] #[]) ∧ W.cell? ⟨w.heap.size, 0, none⟩ = some (.slice A n m) ∧ Below W0.heap.size W0 W := fun W hW => ⟨(hW.cell (p := ⟨b, 3, none⟩) hbW).trans d3, (hW.cell (p := ⟨w.heap.size, 0, none⟩) hk0).trans q0, hW⟩
  have HS := hid hS
  clear hS
  go_region_held3 (fun W => W.cell? ⟨b, 3, none⟩ = some (.func (.func fid) #[] #[]) ∧ W.cell? ⟨w.heap.size, 0, none⟩ = some (.slice A n m) ∧ Below W0.heap.size W0 W)
    (first | exact HS.out _ (Below.refl _ _).drew | exact HS.out _ (below_drew_l hb1) | exact HS.out _ (((below_drew_l hb1)).trans (hb2.mono (below_drew_l hb1).size)))
    (first
      | (go_at_call 52; refine (clone_any _ hp0.drew hl.lim).mono ?_; rintro e w1 ⟨v', rfl, hv1, hb1⟩)
      | (go_at_fn fid; refine (HA.out.2 _ _ _ _ hv1).mono ?_; rintro e w2 ⟨rfl, hb2⟩))
  all_goals
    have e3 : Below W0.heap.size W0 w2 := (below_drew_l hb1).trans (hb2.mono (below_drew_l hb1).size)
    have g4 := (e3.cell (p := ⟨b, 4, none⟩) hbW).trans d4
    have g13 := (e3.cell (p := ⟨b, 13, none⟩) hbW).trans d13
    have g14 := (e3.cell (p := ⟨b, 14, none⟩) hbW).trans d14
    have r0 := (e3.cell (p := ⟨w.heap.size, 0, none⟩) hk0).trans q0
    have r1 := (e3.cell (p := ⟨w.heap.size, 1, none⟩) hk0).trans q1
    have hp2 := hp0.below e3
    have hl2 := ((H.out.below e2).below e3).locked
    have e4 : Below w.heap.size w w2 := e2.trans (e3.mono e2.size)
    clear d4 d13 d14 q0 q1
    go_wp2
    go_quiet (fail)
    go_wp2
    go_ret
    rw [HR.out]
    exact ⟨rfl, (Off.drewN (Off.of_below (F := fun _ => False) e4) _).below⟩

set_option maxRecDepth 100000 in
set_option maxHeartbeats 2000000 in
/-- It is what it is locked on. -/
theorem fit_same {ρ : Roles} {i b fid : Nat} {c : CoreM} {acc : List UInt8 → Bool} {O : Nat → Prop} {A : Option Addr} {n m : Nat} {l : List UInt8} (x : Int) (w : World) (h : CoreAt w ρ i b fid c) (hf : c.Fine) (ha : Accepts fid acc)
    (hp : Bs w O (.slice A n m) l) (hl : Short l) (hq : acc l = true) (hlk : decide (c.lock < 0) = false) (hs : (l == c.locked) = true) :
    Calls Try.prog 86 #[.pointer (some ⟨b, 0, none⟩), .agg #[.slice A n m, .int .i64 x]] w (FitPost w (c.fit acc (l, x))) := by
  have cP := fun W (hW : Below w.heap.size w W) => prepared_any x W (h.below hW) hf.ok hf.preps.ok
  obtain ⟨vw, vl, vv, bp, b1, b2, b3, bs, bd, h⟩ := h
  have c3 := h.cell 3
  have c4 := h.cell 4
  have c13 := h.cell 13
  have c14 := h.cell 14
  simp only [coreCells, List.getElem?_toArray, List.getElem?_cons_zero, List.getElem?_cons_succ] at c3 c4 c13 c14
  have hr : c.fit acc (l, x) = true := by unfold CoreM.fit; simp [hq, hs]
  have HR := hid hr
  have HA := hid ha
  have hE : ∀ (args : Array Value) (w : World), (callFunc fid args).run Try.prog w = .ok (.enter fid args) w := ha.1
  have HP := hid cP
  have H := hid h
  clear hr ha cP h
  go_enter Try.func86, Try.ntmps86
  go_wp2_with fail
  obtain ⟨W0, hW0, e2, hk0, q0, q1, hp0⟩ := fit_box (x := x) hp
  rw [← hW0]
  have d3 := (e2.cell (p := ⟨b, 3, none⟩) H.out.lt).trans c3
  have d4 := (e2.cell (p := ⟨b, 4, none⟩) H.out.lt).trans c4
  have d13 := (e2.cell (p := ⟨b, 13, none⟩) H.out.lt).trans c13
  have d14 := (e2.cell (p := ⟨b, 14, none⟩) H.out.lt).trans c14
  have hbW := (H.out.below e2).lt
  clear hW0 c3 c4 c13 c14
  have hS : ∀ W, Below W0.heap.size W0 W → W.cell? ⟨b, 3, none⟩ = some (.func (.func fid) #[] #[]) ∧ W.cell? ⟨w.heap.size, 0, none⟩ = some (.slice A n m) ∧ Below W0.heap.size W0 W := fun W hW => ⟨(hW.cell (p := ⟨b, 3, none⟩) hbW).trans d3, (hW.cell (p := ⟨w.heap.size, 0, none⟩) hk0).trans q0, hW⟩
  have HS := hid hS
  clear hS
  go_region_held3 (fun W => W.cell? ⟨b, 3, none⟩ = some (.func (.func fid) #[] #[]) ∧ W.cell? ⟨w.heap.size, 0, none⟩ = some (.slice A n m) ∧ Below W0.heap.size W0 W)
    (first | exact HS.out _ (Below.refl _ _).drew | exact HS.out _ (below_drew_l hb1) | exact HS.out _ (((below_drew_l hb1)).trans (hb2.mono (below_drew_l hb1).size)))
    (first
      | (go_at_call 52; refine (clone_any _ hp0.drew hl.lim).mono ?_; rintro e w1 ⟨v', rfl, hv1, hb1⟩)
      | (go_at_fn fid; refine (HA.out.2 _ _ _ _ hv1).mono ?_; rintro e w2 ⟨rfl, hb2⟩))
  all_goals
    have e3 : Below W0.heap.size W0 w2 := (below_drew_l hb1).trans (hb2.mono (below_drew_l hb1).size)
    have g4 := (e3.cell (p := ⟨b, 4, none⟩) hbW).trans d4
    have g13 := (e3.cell (p := ⟨b, 13, none⟩) hbW).trans d13
    have g14 := (e3.cell (p := ⟨b, 14, none⟩) hbW).trans d14
    have r0 := (e3.cell (p := ⟨w.heap.size, 0, none⟩) hk0).trans q0
    have r1 := (e3.cell (p := ⟨w.heap.size, 1, none⟩) hk0).trans q1
    have hp2 := hp0.below e3
    have hl2 := ((H.out.below e2).below e3).locked
    have e4 : Below w.heap.size w w2 := e2.trans (e3.mono e2.size)
    clear d4 d13 d14 q0 q1
    go_wp2
    go_quiet ((go_at_call 61; exact quiet_eq (equal_any _ (hp2.drewN _) (hl2.drewN _))))
    go_wp2
    go_ret
    rw [HR.out]
    exact ⟨rfl, (Off.drewN (Off.of_below (F := fun _ => False) e4) _).below⟩

set_option maxRecDepth 100000 in
set_option maxHeartbeats 2000000 in
/-- What it was prepared in lies ahead of the lock. -/
theorem fit_early {ρ : Roles} {i b fid : Nat} {c : CoreM} {acc : List UInt8 → Bool} {O : Nat → Prop} {A : Option Addr} {n m : Nat} {l : List UInt8} (x : Int) (w : World) (h : CoreAt w ρ i b fid c) (hf : c.Fine) (ha : Accepts fid acc)
    (hp : Bs w O (.slice A n m) l) (hl : Short l) (hq : acc l = true) (hlk : decide (c.lock < 0) = false) (hs : (l == c.locked) = false) (hx : decide (c.lock ≤ x) = false) :
    Calls Try.prog 86 #[.pointer (some ⟨b, 0, none⟩), .agg #[.slice A n m, .int .i64 x]] w (FitPost w (c.fit acc (l, x))) := by
  have cP := fun W (hW : Below w.heap.size w W) => prepared_any x W (h.below hW) hf.ok hf.preps.ok
  obtain ⟨vw, vl, vv, bp, b1, b2, b3, bs, bd, h⟩ := h
  have c3 := h.cell 3
  have c4 := h.cell 4
  have c13 := h.cell 13
  have c14 := h.cell 14
  simp only [coreCells, List.getElem?_toArray, List.getElem?_cons_zero, List.getElem?_cons_succ] at c3 c4 c13 c14
  have hr : c.fit acc (l, x) = false := by unfold CoreM.fit; have := of_decide_eq_false hlk; simp [hq, hs, this, of_decide_eq_false hx]
  have HR := hid hr
  have HA := hid ha
  have hE : ∀ (args : Array Value) (w : World), (callFunc fid args).run Try.prog w = .ok (.enter fid args) w := ha.1
  have HP := hid cP
  have H := hid h
  clear hr ha cP h
  go_enter Try.func86, Try.ntmps86
  go_wp2_with fail
  obtain ⟨W0, hW0, e2, hk0, q0, q1, hp0⟩ := fit_box (x := x) hp
  rw [← hW0]
  have d3 := (e2.cell (p := ⟨b, 3, none⟩) H.out.lt).trans c3
  have d4 := (e2.cell (p := ⟨b, 4, none⟩) H.out.lt).trans c4
  have d13 := (e2.cell (p := ⟨b, 13, none⟩) H.out.lt).trans c13
  have d14 := (e2.cell (p := ⟨b, 14, none⟩) H.out.lt).trans c14
  have hbW := (H.out.below e2).lt
  clear hW0 c3 c4 c13 c14
  have hS : ∀ W, Below W0.heap.size W0 W → W.cell? ⟨b, 3, none⟩ = some (.func (.func fid) #[] #[]) ∧ W.cell? ⟨w.heap.size, 0, none⟩ = some (.slice A n m) ∧ Below W0.heap.size W0 W := fun W hW => ⟨(hW.cell (p := ⟨b, 3, none⟩) hbW).trans d3, (hW.cell (p := ⟨w.heap.size, 0, none⟩) hk0).trans q0, hW⟩
  have HS := hid hS
  clear hS
  go_region_held3 (fun W => W.cell? ⟨b, 3, none⟩ = some (.func (.func fid) #[] #[]) ∧ W.cell? ⟨w.heap.size, 0, none⟩ = some (.slice A n m) ∧ Below W0.heap.size W0 W)
    (first | exact HS.out _ (Below.refl _ _).drew | exact HS.out _ (below_drew_l hb1) | exact HS.out _ (((below_drew_l hb1)).trans (hb2.mono (below_drew_l hb1).size)))
    (first
      | (go_at_call 52; refine (clone_any _ hp0.drew hl.lim).mono ?_; rintro e w1 ⟨v', rfl, hv1, hb1⟩)
      | (go_at_fn fid; refine (HA.out.2 _ _ _ _ hv1).mono ?_; rintro e w2 ⟨rfl, hb2⟩))
  all_goals
    have e3 : Below W0.heap.size W0 w2 := (below_drew_l hb1).trans (hb2.mono (below_drew_l hb1).size)
    have g4 := (e3.cell (p := ⟨b, 4, none⟩) hbW).trans d4
    have g13 := (e3.cell (p := ⟨b, 13, none⟩) hbW).trans d13
    have g14 := (e3.cell (p := ⟨b, 14, none⟩) hbW).trans d14
    have r0 := (e3.cell (p := ⟨w.heap.size, 0, none⟩) hk0).trans q0
    have r1 := (e3.cell (p := ⟨w.heap.size, 1, none⟩) hk0).trans q1
    have hp2 := hp0.below e3
    have hl2 := ((H.out.below e2).below e3).locked
    have e4 : Below w.heap.size w w2 := e2.trans (e3.mono e2.size)
    clear d4 d13 d14 q0 q1
    go_wp2
    go_quiet ((go_at_call 61; exact quiet_eq (equal_any _ (hp2.drewN _) (hl2.drewN _))))
    have e5 : Below w2.heap.size w2 (w2.drewN nq) := (Off.drewN (Off.refl (fun _ => False) w2) _).below
    have e6 : Below w.heap.size w (w2.drewN nq) := e4.trans (e5.mono e4.size)
    go_wp2_with (go_at_call 87; refine (HP.out _ e6).mono ?_; rintro e w4 ⟨v4, rfl, hv4, hb4⟩)
    have g4' := ((e5.trans (hb4.mono e5.size)).cell (p := ⟨b, 4, none⟩) (Nat.lt_of_lt_of_le hbW e3.size)).trans g4
    have g13' := ((e5.trans (hb4.mono e5.size)).cell (p := ⟨b, 13, none⟩) (Nat.lt_of_lt_of_le hbW e3.size)).trans g13
    have r0' := ((e5.trans (hb4.mono e5.size)).cell (p := ⟨w.heap.size, 0, none⟩) (Nat.lt_of_lt_of_le hk0 e3.size)).trans r0
    have r1' := ((e5.trans (hb4.mono e5.size)).cell (p := ⟨w.heap.size, 1, none⟩) (Nat.lt_of_lt_of_le hk0 e3.size)).trans r1
    have hp4 := hp2.below (e5.trans (hb4.mono e5.size))
    have hv5 := hv4.below hb4
    have e7 : Below w.heap.size w w4 := e6.trans (hb4.mono e6.size)
    clear g4 g13 g14 r0 r1
    go_quiet (fail)
    go_wp2
    go_ret
    rw [HR.out]
    exact ⟨rfl, (Off.drewN (Off.of_below (F := fun _ => False) e7) _).below⟩

set_option maxRecDepth 100000 in
set_option maxHeartbeats 2000000 in
/-- It was prepared in no earlier view. -/
theorem fit_late {ρ : Roles} {i b fid : Nat} {c : CoreM} {acc : List UInt8 → Bool} {O : Nat → Prop} {A : Option Addr} {n m : Nat} {l : List UInt8} (x : Int) (w : World) (h : CoreAt w ρ i b fid c) (hf : c.Fine) (ha : Accepts fid acc)
    (hp : Bs w O (.slice A n m) l) (hl : Short l) (hq : acc l = true) (hlk : decide (c.lock < 0) = false) (hs : (l == c.locked) = false) (hx : decide (c.lock ≤ x) = true) (hy : decide (x < c.view) = false) :
    Calls Try.prog 86 #[.pointer (some ⟨b, 0, none⟩), .agg #[.slice A n m, .int .i64 x]] w (FitPost w (c.fit acc (l, x))) := by
  have cP := fun W (hW : Below w.heap.size w W) => prepared_any x W (h.below hW) hf.ok hf.preps.ok
  obtain ⟨vw, vl, vv, bp, b1, b2, b3, bs, bd, h⟩ := h
  have c3 := h.cell 3
  have c4 := h.cell 4
  have c13 := h.cell 13
  have c14 := h.cell 14
  simp only [coreCells, List.getElem?_toArray, List.getElem?_cons_zero, List.getElem?_cons_succ] at c3 c4 c13 c14
  have hr : c.fit acc (l, x) = false := by unfold CoreM.fit; have := of_decide_eq_false hlk; simp [hq, hs, this, of_decide_eq_false hy]
  have HR := hid hr
  have HA := hid ha
  have hE : ∀ (args : Array Value) (w : World), (callFunc fid args).run Try.prog w = .ok (.enter fid args) w := ha.1
  have HP := hid cP
  have H := hid h
  clear hr ha cP h
  go_enter Try.func86, Try.ntmps86
  go_wp2_with fail
  obtain ⟨W0, hW0, e2, hk0, q0, q1, hp0⟩ := fit_box (x := x) hp
  rw [← hW0]
  have d3 := (e2.cell (p := ⟨b, 3, none⟩) H.out.lt).trans c3
  have d4 := (e2.cell (p := ⟨b, 4, none⟩) H.out.lt).trans c4
  have d13 := (e2.cell (p := ⟨b, 13, none⟩) H.out.lt).trans c13
  have d14 := (e2.cell (p := ⟨b, 14, none⟩) H.out.lt).trans c14
  have hbW := (H.out.below e2).lt
  clear hW0 c3 c4 c13 c14
  have hS : ∀ W, Below W0.heap.size W0 W → W.cell? ⟨b, 3, none⟩ = some (.func (.func fid) #[] #[]) ∧ W.cell? ⟨w.heap.size, 0, none⟩ = some (.slice A n m) ∧ Below W0.heap.size W0 W := fun W hW => ⟨(hW.cell (p := ⟨b, 3, none⟩) hbW).trans d3, (hW.cell (p := ⟨w.heap.size, 0, none⟩) hk0).trans q0, hW⟩
  have HS := hid hS
  clear hS
  go_region_held3 (fun W => W.cell? ⟨b, 3, none⟩ = some (.func (.func fid) #[] #[]) ∧ W.cell? ⟨w.heap.size, 0, none⟩ = some (.slice A n m) ∧ Below W0.heap.size W0 W)
    (first | exact HS.out _ (Below.refl _ _).drew | exact HS.out _ (below_drew_l hb1) | exact HS.out _ (((below_drew_l hb1)).trans (hb2.mono (below_drew_l hb1).size)))
    (first
      | (go_at_call 52; refine (clone_any _ hp0.drew hl.lim).mono ?_; rintro e w1 ⟨v', rfl, hv1, hb1⟩)
      | (go_at_fn fid; refine (HA.out.2 _ _ _ _ hv1).mono ?_; rintro e w2 ⟨rfl, hb2⟩))
  all_goals
    have e3 : Below W0.heap.size W0 w2 := (below_drew_l hb1).trans (hb2.mono (below_drew_l hb1).size)
    have g4 := (e3.cell (p := ⟨b, 4, none⟩) hbW).trans d4
    have g13 := (e3.cell (p := ⟨b, 13, none⟩) hbW).trans d13
    have g14 := (e3.cell (p := ⟨b, 14, none⟩) hbW).trans d14
    have r0 := (e3.cell (p := ⟨w.heap.size, 0, none⟩) hk0).trans q0
    have r1 := (e3.cell (p := ⟨w.heap.size, 1, none⟩) hk0).trans q1
    have hp2 := hp0.below e3
    have hl2 := ((H.out.below e2).below e3).locked
    have e4 : Below w.heap.size w w2 := e2.trans (e3.mono e2.size)
    clear d4 d13 d14 q0 q1
    go_wp2
    go_quiet ((go_at_call 61; exact quiet_eq (equal_any _ (hp2.drewN _) (hl2.drewN _))))
    have e5 : Below w2.heap.size w2 (w2.drewN nq) := (Off.drewN (Off.refl (fun _ => False) w2) _).below
    have e6 : Below w.heap.size w (w2.drewN nq) := e4.trans (e5.mono e4.size)
    go_wp2_with (go_at_call 87; refine (HP.out _ e6).mono ?_; rintro e w4 ⟨v4, rfl, hv4, hb4⟩)
    have g4' := ((e5.trans (hb4.mono e5.size)).cell (p := ⟨b, 4, none⟩) (Nat.lt_of_lt_of_le hbW e3.size)).trans g4
    have g13' := ((e5.trans (hb4.mono e5.size)).cell (p := ⟨b, 13, none⟩) (Nat.lt_of_lt_of_le hbW e3.size)).trans g13
    have r0' := ((e5.trans (hb4.mono e5.size)).cell (p := ⟨w.heap.size, 0, none⟩) (Nat.lt_of_lt_of_le hk0 e3.size)).trans r0
    have r1' := ((e5.trans (hb4.mono e5.size)).cell (p := ⟨w.heap.size, 1, none⟩) (Nat.lt_of_lt_of_le hk0 e3.size)).trans r1
    have hp4 := hp2.below (e5.trans (hb4.mono e5.size))
    have hv5 := hv4.below hb4
    have e7 : Below w.heap.size w w4 := e6.trans (hb4.mono e6.size)
    clear g4 g13 g14 r0 r1
    go_quiet (fail)
    go_wp2
    go_ret
    rw [HR.out]
    exact ⟨rfl, (Off.drewN (Off.of_below (F := fun _ => False) e7) _).below⟩

set_option maxRecDepth 100000 in
set_option maxHeartbeats 2000000 in
/-- Nothing is prepared there. -/
theorem fit_none {ρ : Roles} {i b fid : Nat} {c : CoreM} {acc : List UInt8 → Bool} {O : Nat → Prop} {A : Option Addr} {n m : Nat} {l : List UInt8} (x : Int) (w : World) (h : CoreAt w ρ i b fid c) (hf : c.Fine) (ha : Accepts fid acc)
    (hp : Bs w O (.slice A n m) l) (hl : Short l) (hq : acc l = true) (hlk : decide (c.lock < 0) = false) (hs : (l == c.locked) = false) (hx : decide (c.lock ≤ x) = true) (hy : decide (x < c.view) = true) (hz : c.prepared x = none) :
    Calls Try.prog 86 #[.pointer (some ⟨b, 0, none⟩), .agg #[.slice A n m, .int .i64 x]] w (FitPost w (c.fit acc (l, x))) := by
  have cP := fun W (hW : Below w.heap.size w W) => prepared_any x W (h.below hW) hf.ok hf.preps.ok
  obtain ⟨vw, vl, vv, bp, b1, b2, b3, bs, bd, h⟩ := h
  have c3 := h.cell 3
  have c4 := h.cell 4
  have c13 := h.cell 13
  have c14 := h.cell 14
  simp only [coreCells, List.getElem?_toArray, List.getElem?_cons_zero, List.getElem?_cons_succ] at c3 c4 c13 c14
  have hr : c.fit acc (l, x) = false := by unfold CoreM.fit; have := of_decide_eq_false hlk; simp [hq, hs, this, hz]
  rw [hz] at cP
  have HR := hid hr
  have HA := hid ha
  have hE : ∀ (args : Array Value) (w : World), (callFunc fid args).run Try.prog w = .ok (.enter fid args) w := ha.1
  have HP := hid cP
  have H := hid h
  clear hr ha cP h
  go_enter Try.func86, Try.ntmps86
  go_wp2_with fail
  obtain ⟨W0, hW0, e2, hk0, q0, q1, hp0⟩ := fit_box (x := x) hp
  rw [← hW0]
  have d3 := (e2.cell (p := ⟨b, 3, none⟩) H.out.lt).trans c3
  have d4 := (e2.cell (p := ⟨b, 4, none⟩) H.out.lt).trans c4
  have d13 := (e2.cell (p := ⟨b, 13, none⟩) H.out.lt).trans c13
  have d14 := (e2.cell (p := ⟨b, 14, none⟩) H.out.lt).trans c14
  have hbW := (H.out.below e2).lt
  clear hW0 c3 c4 c13 c14
  have hS : ∀ W, Below W0.heap.size W0 W → W.cell? ⟨b, 3, none⟩ = some (.func (.func fid) #[] #[]) ∧ W.cell? ⟨w.heap.size, 0, none⟩ = some (.slice A n m) ∧ Below W0.heap.size W0 W := fun W hW => ⟨(hW.cell (p := ⟨b, 3, none⟩) hbW).trans d3, (hW.cell (p := ⟨w.heap.size, 0, none⟩) hk0).trans q0, hW⟩
  have HS := hid hS
  clear hS
  go_region_held3 (fun W => W.cell? ⟨b, 3, none⟩ = some (.func (.func fid) #[] #[]) ∧ W.cell? ⟨w.heap.size, 0, none⟩ = some (.slice A n m) ∧ Below W0.heap.size W0 W)
    (first | exact HS.out _ (Below.refl _ _).drew | exact HS.out _ (below_drew_l hb1) | exact HS.out _ (((below_drew_l hb1)).trans (hb2.mono (below_drew_l hb1).size)))
    (first
      | (go_at_call 52; refine (clone_any _ hp0.drew hl.lim).mono ?_; rintro e w1 ⟨v', rfl, hv1, hb1⟩)
      | (go_at_fn fid; refine (HA.out.2 _ _ _ _ hv1).mono ?_; rintro e w2 ⟨rfl, hb2⟩))
  all_goals
    have e3 : Below W0.heap.size W0 w2 := (below_drew_l hb1).trans (hb2.mono (below_drew_l hb1).size)
    have g4 := (e3.cell (p := ⟨b, 4, none⟩) hbW).trans d4
    have g13 := (e3.cell (p := ⟨b, 13, none⟩) hbW).trans d13
    have g14 := (e3.cell (p := ⟨b, 14, none⟩) hbW).trans d14
    have r0 := (e3.cell (p := ⟨w.heap.size, 0, none⟩) hk0).trans q0
    have r1 := (e3.cell (p := ⟨w.heap.size, 1, none⟩) hk0).trans q1
    have hp2 := hp0.below e3
    have hl2 := ((H.out.below e2).below e3).locked
    have e4 : Below w.heap.size w w2 := e2.trans (e3.mono e2.size)
    clear d4 d13 d14 q0 q1
    go_wp2
    go_quiet ((go_at_call 61; exact quiet_eq (equal_any _ (hp2.drewN _) (hl2.drewN _))))
    have e5 : Below w2.heap.size w2 (w2.drewN nq) := (Off.drewN (Off.refl (fun _ => False) w2) _).below
    have e6 : Below w.heap.size w (w2.drewN nq) := e4.trans (e5.mono e4.size)
    go_wp2_with (go_at_call 87; refine (HP.out _ e6).mono ?_; rintro e w4 ⟨v4, rfl, hv4, hb4⟩)
    have g4' := ((e5.trans (hb4.mono e5.size)).cell (p := ⟨b, 4, none⟩) (Nat.lt_of_lt_of_le hbW e3.size)).trans g4
    have g13' := ((e5.trans (hb4.mono e5.size)).cell (p := ⟨b, 13, none⟩) (Nat.lt_of_lt_of_le hbW e3.size)).trans g13
    have r0' := ((e5.trans (hb4.mono e5.size)).cell (p := ⟨w.heap.size, 0, none⟩) (Nat.lt_of_lt_of_le hk0 e3.size)).trans r0
    have r1' := ((e5.trans (hb4.mono e5.size)).cell (p := ⟨w.heap.size, 1, none⟩) (Nat.lt_of_lt_of_le hk0 e3.size)).trans r1
    have hp4 := hp2.below (e5.trans (hb4.mono e5.size))
    have hv5 := hv4.below hb4
    have e7 : Below w.heap.size w w4 := e6.trans (hb4.mono e6.size)
    clear g4 g13 g14 r0 r1
    go_quiet (fail)
    go_wp2
    go_ret
    rw [HR.out]
    exact ⟨rfl, (Off.drewN (Off.of_below (F := fun _ => False) e7) _).below⟩

set_option maxRecDepth 100000 in
set_option maxHeartbeats 2000000 in
/-- It is compared with what is prepared there. -/
theorem fit_some {ρ : Roles} {i b fid : Nat} {c : CoreM} {acc : List UInt8 → Bool} {O : Nat → Prop} {A : Option Addr} {n m : Nat} {l : List UInt8} (x : Int) (w : World) (h : CoreAt w ρ i b fid c) (hf : c.Fine) (ha : Accepts fid acc)
    (hp : Bs w O (.slice A n m) l) (hl : Short l) (hq : acc l = true) (hlk : decide (c.lock < 0) = false) (hs : (l == c.locked) = false) (hx : decide (c.lock ≤ x) = true) (hy : decide (x < c.view) = true) {u : List UInt8} (hz : c.prepared x = some u) :
    Calls Try.prog 86 #[.pointer (some ⟨b, 0, none⟩), .agg #[.slice A n m, .int .i64 x]] w (FitPost w (c.fit acc (l, x))) := by
  have cP := fun W (hW : Below w.heap.size w W) => prepared_any x W (h.below hW) hf.ok hf.preps.ok
  obtain ⟨vw, vl, vv, bp, b1, b2, b3, bs, bd, h⟩ := h
  have c3 := h.cell 3
  have c4 := h.cell 4
  have c13 := h.cell 13
  have c14 := h.cell 14
  simp only [coreCells, List.getElem?_toArray, List.getElem?_cons_zero, List.getElem?_cons_succ] at c3 c4 c13 c14
  have hr : c.fit acc (l, x) = (u == l) := by unfold CoreM.fit; have := of_decide_eq_false hlk; simp [hq, hs, this, of_decide_eq_true hx, of_decide_eq_true hy, hz]
  rw [hz] at cP
  have HR := hid hr
  have HA := hid ha
  have hE : ∀ (args : Array Value) (w : World), (callFunc fid args).run Try.prog w = .ok (.enter fid args) w := ha.1
  have HP := hid cP
  have H := hid h
  clear hz
  clear hr ha cP h
  go_enter Try.func86, Try.ntmps86
  go_wp2_with fail
  obtain ⟨W0, hW0, e2, hk0, q0, q1, hp0⟩ := fit_box (x := x) hp
  rw [← hW0]
  have d3 := (e2.cell (p := ⟨b, 3, none⟩) H.out.lt).trans c3
  have d4 := (e2.cell (p := ⟨b, 4, none⟩) H.out.lt).trans c4
  have d13 := (e2.cell (p := ⟨b, 13, none⟩) H.out.lt).trans c13
  have d14 := (e2.cell (p := ⟨b, 14, none⟩) H.out.lt).trans c14
  have hbW := (H.out.below e2).lt
  clear hW0 c3 c4 c13 c14
  have hS : ∀ W, Below W0.heap.size W0 W → W.cell? ⟨b, 3, none⟩ = some (.func (.func fid) #[] #[]) ∧ W.cell? ⟨w.heap.size, 0, none⟩ = some (.slice A n m) ∧ Below W0.heap.size W0 W := fun W hW => ⟨(hW.cell (p := ⟨b, 3, none⟩) hbW).trans d3, (hW.cell (p := ⟨w.heap.size, 0, none⟩) hk0).trans q0, hW⟩
  have HS := hid hS
  clear hS
  go_region_held3 (fun W => W.cell? ⟨b, 3, none⟩ = some (.func (.func fid) #[] #[]) ∧ W.cell? ⟨w.heap.size, 0, none⟩ = some (.slice A n m) ∧ Below W0.heap.size W0 W)
    (first | exact HS.out _ (Below.refl _ _).drew | exact HS.out _ (below_drew_l hb1) | exact HS.out _ (((below_drew_l hb1)).trans (hb2.mono (below_drew_l hb1).size)))
    (first
      | (go_at_call 52; refine (clone_any _ hp0.drew hl.lim).mono ?_; rintro e w1 ⟨v', rfl, hv1, hb1⟩)
      | (go_at_fn fid; refine (HA.out.2 _ _ _ _ hv1).mono ?_; rintro e w2 ⟨rfl, hb2⟩))
  all_goals
    have e3 : Below W0.heap.size W0 w2 := (below_drew_l hb1).trans (hb2.mono (below_drew_l hb1).size)
    have g4 := (e3.cell (p := ⟨b, 4, none⟩) hbW).trans d4
    have g13 := (e3.cell (p := ⟨b, 13, none⟩) hbW).trans d13
    have g14 := (e3.cell (p := ⟨b, 14, none⟩) hbW).trans d14
    have r0 := (e3.cell (p := ⟨w.heap.size, 0, none⟩) hk0).trans q0
    have r1 := (e3.cell (p := ⟨w.heap.size, 1, none⟩) hk0).trans q1
    have hp2 := hp0.below e3
    have hl2 := ((H.out.below e2).below e3).locked
    have e4 : Below w.heap.size w w2 := e2.trans (e3.mono e2.size)
    clear d4 d13 d14 q0 q1
    go_wp2
    go_quiet ((go_at_call 61; exact quiet_eq (equal_any _ (hp2.drewN _) (hl2.drewN _))))
    have e5 : Below w2.heap.size w2 (w2.drewN nq) := (Off.drewN (Off.refl (fun _ => False) w2) _).below
    have e6 : Below w.heap.size w (w2.drewN nq) := e4.trans (e5.mono e4.size)
    go_wp2_with (go_at_call 87; refine (HP.out _ e6).mono ?_; rintro e w4 ⟨v4, rfl, hv4, hb4⟩)
    have g4' := ((e5.trans (hb4.mono e5.size)).cell (p := ⟨b, 4, none⟩) (Nat.lt_of_lt_of_le hbW e3.size)).trans g4
    have g13' := ((e5.trans (hb4.mono e5.size)).cell (p := ⟨b, 13, none⟩) (Nat.lt_of_lt_of_le hbW e3.size)).trans g13
    have r0' := ((e5.trans (hb4.mono e5.size)).cell (p := ⟨w.heap.size, 0, none⟩) (Nat.lt_of_lt_of_le hk0 e3.size)).trans r0
    have r1' := ((e5.trans (hb4.mono e5.size)).cell (p := ⟨w.heap.size, 1, none⟩) (Nat.lt_of_lt_of_le hk0 e3.size)).trans r1
    have hp4 := hp2.below (e5.trans (hb4.mono e5.size))
    have hv5 := hv4.below hb4
    have e7 : Below w.heap.size w w4 := e6.trans (hb4.mono e6.size)
    clear g4 g13 g14 r0 r1
    go_quiet ((go_at_call 61; exact quiet_eq (equal_any _ (hv5.drewN _) (hp4.drewN _))))
    go_wp2
    go_ret
    rw [HR.out]
    exact ⟨rfl, (Off.drewN (Off.of_below (F := fun _ => False) e7) _).below⟩

theorem fit_any {ρ : Roles} {i b fid : Nat} {c : CoreM} {acc : List UInt8 → Bool} {O : Nat → Prop} {A : Option Addr} {n m : Nat} {l : List UInt8} (x : Int) (w : World) (h : CoreAt w ρ i b fid c) (hf : c.Fine) (ha : Accepts fid acc)
    (hp : Bs w O (.slice A n m) l) (hl : Short l) :
    Calls Try.prog 86 #[.pointer (some ⟨b, 0, none⟩), .agg #[.slice A n m, .int .i64 x]] w (FitPost w (c.fit acc (l, x))) := by
  cases hq : acc l with
  | false => exact fit_not x w h hf ha hp hl hq
  | true =>
    cases hlk : decide (c.lock < 0) with
    | true => exact fit_free x w h hf ha hp hl hq hlk
    | false =>
      cases hs : l == c.locked with
      | true => exact fit_same x w h hf ha hp hl hq hlk hs
      | false =>
        cases hx : decide (c.lock ≤ x) with
        | false => exact fit_early x w h hf ha hp hl hq hlk hs hx
        | true =>
          cases hy : decide (x < c.view) with
          | false => exact fit_late x w h hf ha hp hl hq hlk hs hx hy
          | true =>
            cases hz : c.prepared x with
            | none => exact fit_none x w h hf ha hp hl hq hlk hs hx hy hz
            | some u => exact fit_some x w h hf ha hp hl hq hlk hs hx hy hz
end Go.Proofs.Ytkkmkkgjpmlhaaa
