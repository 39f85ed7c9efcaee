/- Take. -/
import Derived.Test.YtkkmkkgjpmlhaaaV16
namespace Go.Proofs.Ytkkmkkgjpmlhaaa
open Go.RowKit Go.MapKept

/-- The roles of the old blocks; the new ones are another's. -/
def Roles.apart (ρ : Roles) (i n : Nat) : Roles := fun k => if k < n then ρ k else (i + 1, 0, 0)
theorem Parts.apart {w : World} {ρ : Roles} {i b fid : Nat} {c : CoreM} {vw vl vv : Value} {bp b1 b2 b3 bs bd : Nat} (h : Parts w ρ i b fid c vw vl vv bp b1 b2 b3 bs bd) : Parts w (ρ.apart i w.heap.size) i b fid c vw vl vv bp b1 b2 b3 bs bd :=
  h.keep (Off.refl (fun _ => False) w) (fun k hk => by unfold Roles.apart; rw [if_pos hk]) (fun _ _ f => f.elim)
theorem Left.after_apart {w w1 w2 : World} {ρ : Roles} {i b fid : Nat} {c : CoreM} (hb : Below w.heap.size w w1) (h : Left w1 w2 (ρ.apart i w.heap.size) i b fid c) : Left w w2 ρ i b fid c := by
  obtain ⟨ρ', h1, h2, h3⟩ := h
  refine ⟨ρ', fun k hk => ?_, h2, (Off.of_below (F := fun k => (ρ k).1 = i) hb).trans h3 (fun k hk f => ?_)⟩
  · rw [h1 k (Nat.lt_of_lt_of_le hk hb.size)]; unfold Roles.apart; rw [if_pos hk]
  · unfold Roles.apart at f; rw [if_pos hk] at f; exact f
theorem know_old {c : CoreM} {v : Vote} (h : (c.know v).1 = false) : (c.know v).2 = c := by
  unfold CoreM.know at *
  split at h
  · split at h
    · rename_i h1 h2; rw [if_pos h1, if_pos h2]
    · cases h
  · rename_i h1
    rw [if_neg h1]
    split at h
    · rename_i h2; rw [if_pos h2]; simp only [Bool.not_eq_false'] at h; simp [h]
    · rename_i h2
      rw [if_neg h2]
      split at h
      · rename_i h3; rw [if_pos h3]; simp only [Bool.not_eq_false'] at h; simp [h]
      · rename_i h3
        rw [if_neg h3]
        split at h
        · rename_i h4; rw [if_pos h4]; simp only [Bool.not_eq_false'] at h; simp [h]
        · rename_i h4
          rw [if_neg h4]
          split at h
          · rename_i h5; rw [if_pos h5]
          · cases h
theorem apart_new {ρ : Roles} {i n k : Nat} (h : n ≤ k) : (ρ.apart i n k).1 ≠ i := by unfold Roles.apart; rw [if_neg (by omega)]; simp

set_option maxRecDepth 100000 in
set_option maxHeartbeats 2000000 in
/-- Another slot. -/
theorem take_slot {ρ : Roles} {i b fid : Nat} {c : CoreM} {acc : List UInt8 → Bool} {O : Nat → Prop} {A : Option Addr} {n m : Nat} {kind frm slot view valid : Int} {l : List UInt8} (w : World) (h : CoreAt w ρ i b fid c) (hf : c.Fine) (ha : Accepts fid acc)
    (hi : In64 kind ∧ In64 frm ∧ In64 slot ∧ In64 view ∧ In64 valid ∧ l.length ≤ 9223372036854775807) (hp : Bs w O (.slice A n m) l) (h1 : (slot != c.slot) = true) :
    Calls Try.prog 17 #[.pointer (some ⟨b, 0, none⟩), .agg #[.int .i64 kind, .int .i64 frm, .int .i64 slot, .int .i64 view, .int .i64 valid, .slice A n m]] w (KnowPost w ρ i b fid (c.take acc ⟨kind, frm, slot, view, valid, l⟩)) := by
  obtain ⟨vw, vl, vv, bp, b1, b2, b3, bs, bd, h⟩ := h
  have H := hid h
  obtain ⟨W0, hW0, e2, hk0, ⟨q0, q1, q2, q3, q4, q5⟩, hp0⟩ := know_box (k := kind) (f := frm) (s := slot) (v := view) (a := valid) hp
  have hcol := h.apart.below e2
  have d0 := hcol.cell 0
  have d1 := hcol.cell 1
  have d2 := hcol.cell 2
  simp only [coreCells, List.getElem?_toArray, List.getElem?_cons_zero, List.getElem?_cons_succ] at d0 d1 d2
  have hlt0 := hcol.lt
  have hr : c.take acc ⟨kind, frm, slot, view, valid, l⟩ = (false, c) := by unfold CoreM.take; dsimp only; rw [h1]; rfl
  have HC := hid hcol
  have HR := hid hr
  have HI := hid hi
  clear h hr hcol hi
  go_enter Try.func17, Try.ntmps17
  go_wp2_with fail
  rw [← hW0]
  clear hW0
  go_quiet (fail)
  go_wp2
  go_ret
  refine ⟨by rw [HR.out]; rfl, ?_⟩
  rw [HR.out]
  exact Left.of_below ⟨_, _, _, _, _, _, _, _, _, H.out⟩ (Off.drewN (Off.of_below (F := fun _ => False) e2) _).below

set_option maxRecDepth 100000 in
set_option maxHeartbeats 2000000 in
/-- No peer. -/
theorem take_many {ρ : Roles} {i b fid : Nat} {c : CoreM} {acc : List UInt8 → Bool} {O : Nat → Prop} {A : Option Addr} {n m : Nat} {kind frm slot view valid : Int} {l : List UInt8} (w : World) (h : CoreAt w ρ i b fid c) (hf : c.Fine) (ha : Accepts fid acc)
    (hi : In64 kind ∧ In64 frm ∧ In64 slot ∧ In64 view ∧ In64 valid ∧ l.length ≤ 9223372036854775807) (hp : Bs w O (.slice A n m) l) (h1 : (slot != c.slot) = false) (h2 : decide (c.n < frm) = true) :
    Calls Try.prog 17 #[.pointer (some ⟨b, 0, none⟩), .agg #[.int .i64 kind, .int .i64 frm, .int .i64 slot, .int .i64 view, .int .i64 valid, .slice A n m]] w (KnowPost w ρ i b fid (c.take acc ⟨kind, frm, slot, view, valid, l⟩)) := by
  obtain ⟨vw, vl, vv, bp, b1, b2, b3, bs, bd, h⟩ := h
  have H := hid h
  obtain ⟨W0, hW0, e2, hk0, ⟨q0, q1, q2, q3, q4, q5⟩, hp0⟩ := know_box (k := kind) (f := frm) (s := slot) (v := view) (a := valid) hp
  have hcol := h.apart.below e2
  have d0 := hcol.cell 0
  have d1 := hcol.cell 1
  have d2 := hcol.cell 2
  simp only [coreCells, List.getElem?_toArray, List.getElem?_cons_zero, List.getElem?_cons_succ] at d0 d1 d2
  have hlt0 := hcol.lt
  have hr : c.take acc ⟨kind, frm, slot, view, valid, l⟩ = (false, c) := by unfold CoreM.take; dsimp only; rw [h1, h2]; rfl
  have HC := hid hcol
  have HR := hid hr
  have HI := hid hi
  clear h hr hcol hi
  go_enter Try.func17, Try.ntmps17
  go_wp2_with fail
  rw [← hW0]
  clear hW0
  go_quiet (fail)
  go_wp2
  go_ret
  refine ⟨by rw [HR.out]; rfl, ?_⟩
  rw [HR.out]
  exact Left.of_below ⟨_, _, _, _, _, _, _, _, _, H.out⟩ (Off.drewN (Off.of_below (F := fun _ => False) e2) _).below

set_option maxRecDepth 100000 in
set_option maxHeartbeats 2000000 in
/-- Its own. -/
theorem take_own {ρ : Roles} {i b fid : Nat} {c : CoreM} {acc : List UInt8 → Bool} {O : Nat → Prop} {A : Option Addr} {n m : Nat} {kind frm slot view valid : Int} {l : List UInt8} (w : World) (h : CoreAt w ρ i b fid c) (hf : c.Fine) (ha : Accepts fid acc)
    (hi : In64 kind ∧ In64 frm ∧ In64 slot ∧ In64 view ∧ In64 valid ∧ l.length ≤ 9223372036854775807) (hp : Bs w O (.slice A n m) l) (h1 : (slot != c.slot) = false) (h2 : decide (c.n < frm) = false) (h3 : (frm == c.me) = true) :
    Calls Try.prog 17 #[.pointer (some ⟨b, 0, none⟩), .agg #[.int .i64 kind, .int .i64 frm, .int .i64 slot, .int .i64 view, .int .i64 valid, .slice A n m]] w (KnowPost w ρ i b fid (c.take acc ⟨kind, frm, slot, view, valid, l⟩)) := by
  obtain ⟨vw, vl, vv, bp, b1, b2, b3, bs, bd, h⟩ := h
  have H := hid h
  obtain ⟨W0, hW0, e2, hk0, ⟨q0, q1, q2, q3, q4, q5⟩, hp0⟩ := know_box (k := kind) (f := frm) (s := slot) (v := view) (a := valid) hp
  have hcol := h.apart.below e2
  have d0 := hcol.cell 0
  have d1 := hcol.cell 1
  have d2 := hcol.cell 2
  simp only [coreCells, List.getElem?_toArray, List.getElem?_cons_zero, List.getElem?_cons_succ] at d0 d1 d2
  have hlt0 := hcol.lt
  have hr : c.take acc ⟨kind, frm, slot, view, valid, l⟩ = (false, c) := by unfold CoreM.take; dsimp only; rw [h1, h2, h3]; rfl
  have HC := hid hcol
  have HR := hid hr
  have HI := hid hi
  clear h hr hcol hi
  go_enter Try.func17, Try.ntmps17
  go_wp2_with fail
  rw [← hW0]
  clear hW0
  go_quiet (fail)
  go_wp2
  go_ret
  refine ⟨by rw [HR.out]; rfl, ?_⟩
  rw [HR.out]
  exact Left.of_below ⟨_, _, _, _, _, _, _, _, _, H.out⟩ (Off.drewN (Off.of_below (F := fun _ => False) e2) _).below

set_option maxRecDepth 100000 in
set_option maxHeartbeats 2000000 in
/-- It can't be. -/
theorem take_bad {ρ : Roles} {i b fid : Nat} {c : CoreM} {acc : List UInt8 → Bool} {O : Nat → Prop} {A : Option Addr} {n m : Nat} {kind frm slot view valid : Int} {l : List UInt8} (w : World) (h : CoreAt w ρ i b fid c) (hf : c.Fine) (ha : Accepts fid acc)
    (hi : In64 kind ∧ In64 frm ∧ In64 slot ∧ In64 view ∧ In64 valid ∧ l.length ≤ 9223372036854775807) (hp : Bs w O (.slice A n m) l) (h1 : (slot != c.slot) = false) (h2 : decide (c.n < frm) = false) (h3 : (frm == c.me) = false) (h4 : Vote.okB ⟨kind, frm, slot, view, valid, l⟩ = false) :
    Calls Try.prog 17 #[.pointer (some ⟨b, 0, none⟩), .agg #[.int .i64 kind, .int .i64 frm, .int .i64 slot, .int .i64 view, .int .i64 valid, .slice A n m]] w (KnowPost w ρ i b fid (c.take acc ⟨kind, frm, slot, view, valid, l⟩)) := by
  obtain ⟨vw, vl, vv, bp, b1, b2, b3, bs, bd, h⟩ := h
  have H := hid h
  obtain ⟨W0, hW0, e2, hk0, ⟨q0, q1, q2, q3, q4, q5⟩, hp0⟩ := know_box (k := kind) (f := frm) (s := slot) (v := view) (a := valid) hp
  have hcol := h.apart.below e2
  have d0 := hcol.cell 0
  have d1 := hcol.cell 1
  have d2 := hcol.cell 2
  simp only [coreCells, List.getElem?_toArray, List.getElem?_cons_zero, List.getElem?_cons_succ] at d0 d1 d2
  have hlt0 := hcol.lt
  have hr : c.take acc ⟨kind, frm, slot, view, valid, l⟩ = (false, c) := by unfold CoreM.take; rw [h4]; simp
  have HC := hid hcol
  have HR := hid hr
  have HI := hid hi
  clear h hr hcol hi
  go_enter Try.func17, Try.ntmps17
  go_wp2_with fail
  rw [← hW0]
  clear hW0
  go_quiet (fail)
  have e3 : Below w.heap.size w (W0.drewN nq) := (Off.drewN (Off.of_below (F := fun _ => False) e2) _).below
  have e3' : Below W0.heap.size W0 (W0.drewN nq) := (Off.drewN (Off.refl (fun _ => False) W0) _).below
  have hvi : VoteIs (W0.drewN nq) (fun k => k < (W0.drewN nq).heap.size) (.agg #[.int .i64 kind, .int .i64 frm, .int .i64 slot, .int .i64 view, .int .i64 valid, .slice A n m]) ⟨kind, frm, slot, view, valid, l⟩ :=
    ⟨_, rfl, (hp0.drewN _).mono (fun k hk _ => hk), HI.out⟩
  have hcE := encodeVote_any _ _ _ _ hvi (fun _ h => h)
  rw [show EncPost (W0.drewN nq) ⟨kind, frm, slot, view, valid, l⟩ = fun e w' => (∃ v, e = .returned (.tuple #[v, .int .i64 3])) ∧ Below (W0.drewN nq).heap.size (W0.drewN nq) w' from by unfold EncPost; rw [h4]; rfl] at hcE
  clear h4
  go_wp2_with (go_at_call 23; refine hcE.mono ?_; rintro e w4 ⟨⟨v4, rfl⟩, hb4⟩; have k0 := ((e3'.trans (hb4.mono e3'.size)).cell (p := ⟨w.heap.size, 0, none⟩) hk0).trans q0; have k1 := ((e3'.trans (hb4.mono e3'.size)).cell (p := ⟨w.heap.size, 1, none⟩) hk0).trans q1; have k2 := ((e3'.trans (hb4.mono e3'.size)).cell (p := ⟨w.heap.size, 2, none⟩) hk0).trans q2; have k3 := ((e3'.trans (hb4.mono e3'.size)).cell (p := ⟨w.heap.size, 3, none⟩) hk0).trans q3; have k4 := ((e3'.trans (hb4.mono e3'.size)).cell (p := ⟨w.heap.size, 4, none⟩) hk0).trans q4; have k5 := ((e3'.trans (hb4.mono e3'.size)).cell (p := ⟨w.heap.size, 5, none⟩) hk0).trans q5)
  go_ret
  refine ⟨by rw [HR.out]; rfl, ?_⟩
  rw [HR.out]
  exact Left.of_below ⟨_, _, _, _, _, _, _, _, _, H.out⟩ (e3.trans (hb4.mono e3.size))

set_option maxRecDepth 100000 in
set_option maxHeartbeats 2000000 in
/-- It is known. -/
theorem take_known {ρ : Roles} {i b fid : Nat} {c : CoreM} {acc : List UInt8 → Bool} {O : Nat → Prop} {A : Option Addr} {n m : Nat} {kind frm slot view valid : Int} {l : List UInt8} (w : World) (h : CoreAt w ρ i b fid c) (hf : c.Fine) (ha : Accepts fid acc)
    (hi : In64 kind ∧ In64 frm ∧ In64 slot ∧ In64 view ∧ In64 valid ∧ l.length ≤ 9223372036854775807) (hp : Bs w O (.slice A n m) l) (h1 : (slot != c.slot) = false) (h2 : decide (c.n < frm) = false) (h3 : (frm == c.me) = false) (h4 : Vote.okB ⟨kind, frm, slot, view, valid, l⟩ = true) (h5 : (c.know ⟨kind, frm, slot, view, valid, l⟩).1 = false) :
    Calls Try.prog 17 #[.pointer (some ⟨b, 0, none⟩), .agg #[.int .i64 kind, .int .i64 frm, .int .i64 slot, .int .i64 view, .int .i64 valid, .slice A n m]] w (KnowPost w ρ i b fid (c.take acc ⟨kind, frm, slot, view, valid, l⟩)) := by
  obtain ⟨vw, vl, vv, bp, b1, b2, b3, bs, bd, h⟩ := h
  have H := hid h
  obtain ⟨W0, hW0, e2, hk0, ⟨q0, q1, q2, q3, q4, q5⟩, hp0⟩ := know_box (k := kind) (f := frm) (s := slot) (v := view) (a := valid) hp
  have hcol := h.apart.below e2
  have d0 := hcol.cell 0
  have d1 := hcol.cell 1
  have d2 := hcol.cell 2
  simp only [coreCells, List.getElem?_toArray, List.getElem?_cons_zero, List.getElem?_cons_succ] at d0 d1 d2
  have hlt0 := hcol.lt
  have hr : c.take acc ⟨kind, frm, slot, view, valid, l⟩ = (false, c) := by unfold CoreM.take; rw [h4, h5]; simp
  have hk2 : (c.know ⟨kind, frm, slot, view, valid, l⟩).2 = c := know_old h5
  have HC := hid hcol
  have HR := hid hr
  have HI := hid hi
  clear h hr hcol hi
  go_enter Try.func17, Try.ntmps17
  go_wp2_with fail
  rw [← hW0]
  clear hW0
  go_quiet (fail)
  have e3 : Below w.heap.size w (W0.drewN nq) := (Off.drewN (Off.of_below (F := fun _ => False) e2) _).below
  have e3' : Below W0.heap.size W0 (W0.drewN nq) := (Off.drewN (Off.refl (fun _ => False) W0) _).below
  have hvi : VoteIs (W0.drewN nq) (fun k => k < (W0.drewN nq).heap.size) (.agg #[.int .i64 kind, .int .i64 frm, .int .i64 slot, .int .i64 view, .int .i64 valid, .slice A n m]) ⟨kind, frm, slot, view, valid, l⟩ :=
    ⟨_, rfl, (hp0.drewN _).mono (fun k hk _ => hk), HI.out⟩
  have hcE := encodeVote_any _ _ _ _ hvi (fun _ h => h)
  rw [show EncPost (W0.drewN nq) ⟨kind, frm, slot, view, valid, l⟩ = fun e w' => (∃ v, e = .returned (.tuple #[v, .int .i64 0])) ∧ Below (W0.drewN nq).heap.size (W0.drewN nq) w' from by unfold EncPost; rw [h4]; rfl] at hcE
  have H4 := hid h4
  clear h4
  go_wp2_with (first | (go_at_call 23; refine hcE.mono ?_; rintro e w4 ⟨⟨v4, rfl⟩, hb4⟩; have k0 := ((e3'.trans (hb4.mono e3'.size)).cell (p := ⟨w.heap.size, 0, none⟩) hk0).trans q0; have k1 := ((e3'.trans (hb4.mono e3'.size)).cell (p := ⟨w.heap.size, 1, none⟩) hk0).trans q1; have k2 := ((e3'.trans (hb4.mono e3'.size)).cell (p := ⟨w.heap.size, 2, none⟩) hk0).trans q2; have k3 := ((e3'.trans (hb4.mono e3'.size)).cell (p := ⟨w.heap.size, 3, none⟩) hk0).trans q3; have k4 := ((e3'.trans (hb4.mono e3'.size)).cell (p := ⟨w.heap.size, 4, none⟩) hk0).trans q4; have k5 := ((e3'.trans (hb4.mono e3'.size)).cell (p := ⟨w.heap.size, 5, none⟩) hk0).trans q5) | (go_at_call 50; refine (know_any (v := ⟨kind, frm, slot, view, valid, l⟩) w4 ⟨_, _, _, _, _, _, _, _, _, HC.out.below (e3'.trans (hb4.mono e3'.size))⟩ hf.ok (⟨_, rfl, hp0.below (e3'.trans (hb4.mono e3'.size)), HI.out⟩) H4.out).mono ?_; rintro e w5 ⟨rfl, hl5⟩))
  go_ret
  refine ⟨by rw [HR.out]; rfl, ?_⟩
  rw [HR.out]
  rw [hk2] at hl5
  exact Left.after_apart (e3.trans (hb4.mono e3.size)) hl5

theorem zero_int (w : World) : (zeroValue 3).run Try.prog w = .ok (.int .i64 0) w := by kernel_rfl

set_option maxRecDepth 100000 in
set_option maxHeartbeats 2000000 in
/-- A decision is new. -/
theorem take_decided {ρ : Roles} {i b fid : Nat} {c : CoreM} {acc : List UInt8 → Bool} {O : Nat → Prop} {A : Option Addr} {n m : Nat} {kind frm slot view valid : Int} {l : List UInt8} (w : World) (h : CoreAt w ρ i b fid c) (hf : c.Fine) (ha : Accepts fid acc)
    (hi : In64 kind ∧ In64 frm ∧ In64 slot ∧ In64 view ∧ In64 valid ∧ l.length ≤ 9223372036854775807) (hp : Bs w O (.slice A n m) l) (h1 : (slot != c.slot) = false) (h2 : decide (c.n < frm) = false) (h3 : (frm == c.me) = false) (h4 : Vote.okB ⟨kind, frm, slot, view, valid, l⟩ = true) (h5 : (c.know ⟨kind, frm, slot, view, valid, l⟩).1 = true) (h6 : (kind != 4) = false) :
    Calls Try.prog 17 #[.pointer (some ⟨b, 0, none⟩), .agg #[.int .i64 kind, .int .i64 frm, .int .i64 slot, .int .i64 view, .int .i64 valid, .slice A n m]] w (KnowPost w ρ i b fid (c.take acc ⟨kind, frm, slot, view, valid, l⟩)) := by
  obtain ⟨vw, vl, vv, bp, b1, b2, b3, bs, bd, h⟩ := h
  have H := hid h
  obtain ⟨W0, hW0, e2, hk0, ⟨q0, q1, q2, q3, q4, q5⟩, hp0⟩ := know_box (k := kind) (f := frm) (s := slot) (v := view) (a := valid) hp
  have hcol := h.apart.below e2
  have d0 := hcol.cell 0
  have d1 := hcol.cell 1
  have d2 := hcol.cell 2
  simp only [coreCells, List.getElem?_toArray, List.getElem?_cons_zero, List.getElem?_cons_succ] at d0 d1 d2
  have hlt0 := hcol.lt
  have hr : c.take acc ⟨kind, frm, slot, view, valid, l⟩ = (true, CoreM.settle acc (CoreM.see (c.know ⟨kind, frm, slot, view, valid, l⟩).2 ⟨kind, frm, slot, view, valid, l⟩)) := by unfold CoreM.take; rw [h4, h5]; dsimp only; rw [h1, h2, h3]; rfl
  have hfk := hf.know h4
  have hfs := hfk.see h4
  have hse : CoreM.see (c.know ⟨kind, frm, slot, view, valid, l⟩).2 ⟨kind, frm, slot, view, valid, l⟩ = (c.know ⟨kind, frm, slot, view, valid, l⟩).2 := by unfold CoreM.see; rw [if_pos (by simpa using h6)]
  rw [hse] at hr hfs
  have HC := hid hcol
  have HR := hid hr
  have HI := hid hi
  clear h hr hcol hi
  go_enter Try.func17, Try.ntmps17
  go_wp2_with fail
  rw [← hW0]
  clear hW0
  go_quiet (fail)
  have e3 : Below w.heap.size w (W0.drewN nq) := (Off.drewN (Off.of_below (F := fun _ => False) e2) _).below
  have e3' : Below W0.heap.size W0 (W0.drewN nq) := (Off.drewN (Off.refl (fun _ => False) W0) _).below
  have hvi : VoteIs (W0.drewN nq) (fun k => k < (W0.drewN nq).heap.size) (.agg #[.int .i64 kind, .int .i64 frm, .int .i64 slot, .int .i64 view, .int .i64 valid, .slice A n m]) ⟨kind, frm, slot, view, valid, l⟩ :=
    ⟨_, rfl, (hp0.drewN _).mono (fun k hk _ => hk), HI.out⟩
  have hcE := encodeVote_any _ _ _ _ hvi (fun _ h => h)
  rw [show EncPost (W0.drewN nq) ⟨kind, frm, slot, view, valid, l⟩ = fun e w' => (∃ v, e = .returned (.tuple #[v, .int .i64 0])) ∧ Below (W0.drewN nq).heap.size (W0.drewN nq) w' from by unfold EncPost; rw [h4]; rfl] at hcE
  have H4 := hid h4
  clear h4
  go_wp2_with (first | (go_at_call 23; refine hcE.mono ?_; rintro e w4 ⟨⟨v4, rfl⟩, hb4⟩; have k0 := ((e3'.trans (hb4.mono e3'.size)).cell (p := ⟨w.heap.size, 0, none⟩) hk0).trans q0; have k1 := ((e3'.trans (hb4.mono e3'.size)).cell (p := ⟨w.heap.size, 1, none⟩) hk0).trans q1; have k2 := ((e3'.trans (hb4.mono e3'.size)).cell (p := ⟨w.heap.size, 2, none⟩) hk0).trans q2; have k3 := ((e3'.trans (hb4.mono e3'.size)).cell (p := ⟨w.heap.size, 3, none⟩) hk0).trans q3; have k4 := ((e3'.trans (hb4.mono e3'.size)).cell (p := ⟨w.heap.size, 4, none⟩) hk0).trans q4; have k5 := ((e3'.trans (hb4.mono e3'.size)).cell (p := ⟨w.heap.size, 5, none⟩) hk0).trans q5) | (go_at_call 50; refine (know_any (v := ⟨kind, frm, slot, view, valid, l⟩) w4 ⟨_, _, _, _, _, _, _, _, _, HC.out.below (e3'.trans (hb4.mono e3'.size))⟩ hf.ok (⟨_, rfl, hp0.below (e3'.trans (hb4.mono e3'.size)), HI.out⟩) H4.out).mono ?_; rintro e w5 ⟨rfl, hl5⟩; have k0' := (by obtain ⟨ρ5, ha5, _, ho5⟩ := hl5; exact ho5.cell_some k0 (apart_new (Nat.le_refl _)) : w5.cell? ⟨w.heap.size, 0, none⟩ = some (.int .i64 kind))) | (go_at_call 51; refine (act_left hl5 hfk ha).mono ?_; rintro e w6 ⟨rfl, hl6⟩))
  go_ret
  refine ⟨by rw [HR.out]; rfl, ?_⟩
  rw [HR.out]
  exact Left.after_apart (e3.trans (hb4.mono e3.size)) hl6

set_option maxRecDepth 100000 in
set_option maxHeartbeats 2000000 in
/-- It is new. -/
theorem take_new {ρ : Roles} {i b fid : Nat} {c : CoreM} {acc : List UInt8 → Bool} {O : Nat → Prop} {A : Option Addr} {n m : Nat} {kind frm slot view valid : Int} {l : List UInt8} (w : World) (h : CoreAt w ρ i b fid c) (hf : c.Fine) (ha : Accepts fid acc)
    (hi : In64 kind ∧ In64 frm ∧ In64 slot ∧ In64 view ∧ In64 valid ∧ l.length ≤ 9223372036854775807) (hp : Bs w O (.slice A n m) l) (h1 : (slot != c.slot) = false) (h2 : decide (c.n < frm) = false) (h3 : (frm == c.me) = false) (h4 : Vote.okB ⟨kind, frm, slot, view, valid, l⟩ = true) (h5 : (c.know ⟨kind, frm, slot, view, valid, l⟩).1 = true) (h6 : (kind != 4) = true) :
    Calls Try.prog 17 #[.pointer (some ⟨b, 0, none⟩), .agg #[.int .i64 kind, .int .i64 frm, .int .i64 slot, .int .i64 view, .int .i64 valid, .slice A n m]] w (KnowPost w ρ i b fid (c.take acc ⟨kind, frm, slot, view, valid, l⟩)) := by
  obtain ⟨vw, vl, vv, bp, b1, b2, b3, bs, bd, h⟩ := h
  have H := hid h
  obtain ⟨W0, hW0, e2, hk0, ⟨q0, q1, q2, q3, q4, q5⟩, hp0⟩ := know_box (k := kind) (f := frm) (s := slot) (v := view) (a := valid) hp
  have hcol := h.apart.below e2
  have d0 := hcol.cell 0
  have d1 := hcol.cell 1
  have d2 := hcol.cell 2
  simp only [coreCells, List.getElem?_toArray, List.getElem?_cons_zero, List.getElem?_cons_succ] at d0 d1 d2
  have hlt0 := hcol.lt
  have hr : c.take acc ⟨kind, frm, slot, view, valid, l⟩ = (true, CoreM.settle acc (CoreM.see (c.know ⟨kind, frm, slot, view, valid, l⟩).2 ⟨kind, frm, slot, view, valid, l⟩)) := by unfold CoreM.take; rw [h4, h5]; dsimp only; rw [h1, h2, h3]; rfl
  have hfk := hf.know h4
  have hfs := hfk.see h4
  have HC := hid hcol
  have HR := hid hr
  have HI := hid hi
  clear h hr hcol hi
  go_enter Try.func17, Try.ntmps17
  go_wp2_with fail
  rw [← hW0]
  clear hW0
  go_quiet (fail)
  have e3 : Below w.heap.size w (W0.drewN nq) := (Off.drewN (Off.of_below (F := fun _ => False) e2) _).below
  have e3' : Below W0.heap.size W0 (W0.drewN nq) := (Off.drewN (Off.refl (fun _ => False) W0) _).below
  have hvi : VoteIs (W0.drewN nq) (fun k => k < (W0.drewN nq).heap.size) (.agg #[.int .i64 kind, .int .i64 frm, .int .i64 slot, .int .i64 view, .int .i64 valid, .slice A n m]) ⟨kind, frm, slot, view, valid, l⟩ :=
    ⟨_, rfl, (hp0.drewN _).mono (fun k hk _ => hk), HI.out⟩
  have hcE := encodeVote_any _ _ _ _ hvi (fun _ h => h)
  rw [show EncPost (W0.drewN nq) ⟨kind, frm, slot, view, valid, l⟩ = fun e w' => (∃ v, e = .returned (.tuple #[v, .int .i64 0])) ∧ Below (W0.drewN nq).heap.size (W0.drewN nq) w' from by unfold EncPost; rw [h4]; rfl] at hcE
  have H4 := hid h4
  clear h4
  go_wp2_with (first | (go_at_call 23; refine hcE.mono ?_; rintro e w4 ⟨⟨v4, rfl⟩, hb4⟩; have k0 := ((e3'.trans (hb4.mono e3'.size)).cell (p := ⟨w.heap.size, 0, none⟩) hk0).trans q0; have k1 := ((e3'.trans (hb4.mono e3'.size)).cell (p := ⟨w.heap.size, 1, none⟩) hk0).trans q1; have k2 := ((e3'.trans (hb4.mono e3'.size)).cell (p := ⟨w.heap.size, 2, none⟩) hk0).trans q2; have k3 := ((e3'.trans (hb4.mono e3'.size)).cell (p := ⟨w.heap.size, 3, none⟩) hk0).trans q3; have k4 := ((e3'.trans (hb4.mono e3'.size)).cell (p := ⟨w.heap.size, 4, none⟩) hk0).trans q4; have k5 := ((e3'.trans (hb4.mono e3'.size)).cell (p := ⟨w.heap.size, 5, none⟩) hk0).trans q5) | (go_at_call 50; refine (know_any (v := ⟨kind, frm, slot, view, valid, l⟩) w4 ⟨_, _, _, _, _, _, _, _, _, HC.out.below (e3'.trans (hb4.mono e3'.size))⟩ hf.ok (⟨_, rfl, hp0.below (e3'.trans (hb4.mono e3'.size)), HI.out⟩) H4.out).mono ?_; rintro e w5 ⟨rfl, ρ5, ha5, ⟨vw5, vl5, vv5, bp5, c15, c25, c35, bs5, bd5, p5⟩, ho5⟩; have k0' := ho5.cell_some k0 (apart_new (Nat.le_refl _)); have k1' := ho5.cell_some k1 (apart_new (Nat.le_refl _)); have k3' := ho5.cell_some k3 (apart_new (Nat.le_refl _))))
  have hse : CoreM.see (c.know ⟨kind, frm, slot, view, valid, l⟩).2 ⟨kind, frm, slot, view, valid, l⟩ = { (c.know ⟨kind, frm, slot, view, valid, l⟩).2 with seen := put (c.know ⟨kind, frm, slot, view, valid, l⟩).2.seen frm (max (((c.know ⟨kind, frm, slot, view, valid, l⟩).2.seen.lookup frm).getD 0) view) } := by
    unfold CoreM.see; rw [if_neg (by simpa using h6)]
  rw [hse] at hfs
  have HSE := hid hse
  clear hse
  generalize hC1 : (c.know ⟨kind, frm, slot, view, valid, l⟩).2 = c1 at p5 hfk hfs HR HSE
  obtain ⟨s5, hs5⟩ : ∃ s5, s5 = (c1.seen.lookup frm).getD 0 := ⟨_, rfl⟩
  have hsl : (Instr.lookup 96 (.map (some bs5)) (.int .i64 frm) false).run Try.prog w5.drew = .ok (.int .i64 s5) w5.drew := by
    have := p5.seen.2.drew.lookup (P := Try.prog) Try.underlying96 Try.underlying3 (zero_int _) frm false
    rw [lookup_mv] at this
    rw [this, hs5]
    cases c1.seen.lookup frm <;> rfl
  rw [← hs5] at HSE hfs
  obtain ⟨w8, hrun8, hm8, ho8, hs8⟩ := p5.seen.2.drew.update (P := Try.prog) Try.underlying96 Try.underlying3 frm (.int .i64 (max s5 view))
  have g11 := p5.cell 11
  simp only [coreCells, List.getElem?_toArray, List.getElem?_cons_zero, List.getElem?_cons_succ] at g11
  have hS7 : ∀ W, Off (fun k => k = bs5) w5 W → W.cell? ⟨b, 11, none⟩ = some (.map (some bs5)) ∧ W.cell? ⟨w.heap.size, 1, none⟩ = some (.int .i64 frm) ∧ W.cell? ⟨w.heap.size, 3, none⟩ = some (.int .i64 view) ∧ Off (fun k => k = bs5) w5 W := fun W hW =>
    have hnb : ¬ b = bs5 := by rintro rfl; have := p5.role; rw [p5.seen.1] at this; simp at this
    have hn0 : ¬ w.heap.size = bs5 := by rintro rfl; have := p5.seen.1; rw [ha5 _ (Nat.lt_of_lt_of_le hk0 (e3'.trans (hb4.mono e3'.size)).size)] at this; exact apart_new (Nat.le_refl _) (by rw [this])
    ⟨hW.cell_some g11 hnb, hW.cell_some k1' hn0, hW.cell_some k3' hn0, hW⟩
  have HS7 := hid hS7
  have HP5 := hid p5
  have HM8 := hid hm8
  clear hS7 hm8 p5 k0 k1 k2 k3 k4 k5 k0' k1' k3' g11 q0 q1 q2 q3 q4 q5 d0 d1 d2 hs5
  have hmx : (if s5 < view then view else s5) = max s5 view := by omega
  go_region_held3 (fun W => W.cell? ⟨b, 11, none⟩ = some (.map (some bs5)) ∧ W.cell? ⟨w.heap.size, 1, none⟩ = some (.int .i64 frm) ∧ W.cell? ⟨w.heap.size, 3, none⟩ = some (.int .i64 view) ∧ Off (fun k => k = bs5) w5 W)
    (first | exact HS7.out _ (Off.refl _ _).drew | exact HS7.out _ ho8.drew_l)
    (fail)
  all_goals
    have hcc := HP5.out.seen_set (t := put c1.seen frm (max s5 view)) ho8.drew_l (Agr.refl _ _) (fun k _ hk => .inl (by subst hk; rw [HP5.out.seen.1])) ⟨HP5.out.seen.1, by rw [mv_put]; exact HM8.out⟩
    have hl8 : Left w4 w8 (ρ.apart i w.heap.size) i b fid { c1 with seen := put c1.seen frm (max s5 view) } :=
      ⟨ρ5, ha5, ⟨_, _, _, _, _, _, _, _, _, hcc⟩, ho5.trans ho8.drew_l (fun k hk e => by subst e; rw [← ha5 _ hk, HP5.out.seen.1])⟩
    clear hcc
    go_wp2_with (go_at_call 51; refine (act_left hl8 hfs ha).mono ?_; rintro e w6 ⟨rfl, hl6⟩)
    go_ret
    refine ⟨by rw [HR.out]; rfl, ?_⟩
    rw [HR.out]
    dsimp only
    rw [HSE.out]
    exact Left.after_apart (e3.trans (hb4.mono e3.size)) hl6

theorem take_any {ρ : Roles} {i b fid : Nat} {c : CoreM} {acc : List UInt8 → Bool} {O : Nat → Prop} {val : Value} {v : Vote} (w : World) (h : CoreAt w ρ i b fid c) (hf : c.Fine) (ha : Accepts fid acc) (hv : VoteIs w O val v) :
    Calls Try.prog 17 #[.pointer (some ⟨b, 0, none⟩), val] w (KnowPost w ρ i b fid (c.take acc v)) := by
  obtain ⟨s, rfl, hs, hi⟩ := hv
  obtain ⟨A, cap, rfl, _⟩ := id hs
  obtain ⟨kind, frm, slot, view, valid, l⟩ := v
  dsimp only at *
  cases h1 : (slot != c.slot) with
  | true => exact take_slot w h hf ha hi hs h1
  | false =>
    cases h2 : decide (c.n < frm) with
    | true => exact take_many w h hf ha hi hs h1 h2
    | false =>
      cases h3 : (frm == c.me) with
      | true => exact take_own w h hf ha hi hs h1 h2 h3
      | false =>
        cases h4 : Vote.okB ⟨kind, frm, slot, view, valid, l⟩ with
        | false => exact take_bad w h hf ha hi hs h1 h2 h3 h4
        | true =>
          cases h5 : (c.know ⟨kind, frm, slot, view, valid, l⟩).1 with
          | false => exact take_known w h hf ha hi hs h1 h2 h3 h4 h5
          | true =>
            cases h6 : (kind != 4) with
            | false => exact take_decided w h hf ha hi hs h1 h2 h3 h4 h5 h6
            | true => exact take_new w h hf ha hi hs h1 h2 h3 h4 h5 h6
end Go.Proofs.Ytkkmkkgjpmlhaaa
