/- know: what a peer told is known, if it is new. -/
import Derived.Test.YtkkmkkgjpmlhaaaV13
import Derived.Test.YtkkmkkgjpmlhaaaV14
namespace Go.Proofs.Ytkkmkkgjpmlhaaa
open Go.RowKit Go.MapKept

def KnowPost (w : World) (ρ : Roles) (i b fid : Nat) (r : Bool × CoreM) (e : Ending) (w' : World) : Prop := e = .returned (.bool r.1) ∧ Left w w' ρ i b fid r.2

/-- The box that holds the vote. -/
theorem know_box {w : World} {A : Option Addr} {n m : Nat} {k f s v a : Int} {O : Nat → Prop} {l : List UInt8} (hp : Bs w O (.slice A n m) l) : ∃ W0, W0 = w.alloc (.cells #[.int .i64 k, .int .i64 f, .int .i64 s, .int .i64 v, .int .i64 a, .slice A n m] 31) ∧ Below w.heap.size w W0 ∧ w.heap.size < W0.heap.size ∧
    (W0.cell? ⟨w.heap.size, 0, none⟩ = some (.int .i64 k) ∧ W0.cell? ⟨w.heap.size, 1, none⟩ = some (.int .i64 f) ∧ W0.cell? ⟨w.heap.size, 2, none⟩ = some (.int .i64 s) ∧ W0.cell? ⟨w.heap.size, 3, none⟩ = some (.int .i64 v) ∧ W0.cell? ⟨w.heap.size, 4, none⟩ = some (.int .i64 a) ∧ W0.cell? ⟨w.heap.size, 5, none⟩ = some (.slice A n m)) ∧ Bs W0 O (.slice A n m) l :=
  ⟨_, rfl, (Below.refl _ w).alloc (Nat.le_refl _) _, by simp, ⟨cell_alloc_new _ _ _ _ _ rfl, cell_alloc_new _ _ _ _ _ rfl, cell_alloc_new _ _ _ _ _ rfl, cell_alloc_new _ _ _ _ _ rfl, cell_alloc_new _ _ _ _ _ rfl, cell_alloc_new _ _ _ _ _ rfl⟩, hp.below ((Below.refl _ w).alloc (Nat.le_refl _) _)⟩

set_option maxRecDepth 100000 in
set_option maxHeartbeats 2000000 in
theorem know_prepare {ρ : Roles} {i b fid : Nat} {c : CoreM} {O : Nat → Prop} {A : Option Addr} {n m : Nat} {frm slot view valid : Int} {l : List UInt8} (w : World) (h : CoreAt w ρ i b fid c) (hp : Bs w O (.slice A n m) l) (hl : Short l) :
    Calls Try.prog 50 #[.pointer (some ⟨b, 0, none⟩), .agg #[.int .i64 2, .int .i64 frm, .int .i64 slot, .int .i64 view, .int .i64 valid, .slice A n m]] w (KnowPost w ρ i b fid (c.know ⟨2, frm, slot, view, valid, l⟩)) := by
  obtain ⟨vw, vl, vv, bp, b1, b2, b3, bs, bd, h⟩ := h
  have H := hid h
  obtain ⟨W0, hW0, e2, hk0, ⟨q0, q1, _, q3, _, q5⟩, hp0⟩ := know_box (k := 2) (f := frm) (s := slot) (v := view) (a := valid) hp
  have hcol := h.till.below e2
  have d := hcol.cell 8
  simp only [coreCells, List.getElem?_toArray, List.getElem?_cons_zero, List.getElem?_cons_succ] at d
  have hS : ∀ W, Off (fun k => ρ.till i w.heap.size k = (i, 10, 0) ∨ ρ.till i w.heap.size k = (i, 110, view)) W0 W → W.cell? ⟨b, 8, none⟩ = some (.map (some b1)) ∧ W.cell? ⟨w.heap.size, 1, none⟩ = some (.int .i64 frm) ∧ W.cell? ⟨w.heap.size, 3, none⟩ = some (.int .i64 view) ∧ W.cell? ⟨w.heap.size, 5, none⟩ = some (.slice A n m) ∧ Off (fun k => ρ.till i w.heap.size k = (i, 10, 0) ∨ ρ.till i w.heap.size k = (i, 110, view)) W0 W := fun W hW =>
    have hnb : ¬ (ρ.till i w.heap.size b = (i, 10, 0) ∨ ρ.till i w.heap.size b = (i, 110, view)) := by
      unfold Roles.till; rw [if_pos H.out.lt, H.out.role]; simp
    have hn0 : ¬ (ρ.till i w.heap.size w.heap.size = (i, 10, 0) ∨ ρ.till i w.heap.size w.heap.size = (i, 110, view)) := by
      unfold Roles.till; rw [if_neg (by omega)]; simp
    ⟨hW.cell_some d hnb, hW.cell_some q1 hn0, hW.cell_some q3 hn0, hW.cell_some q5 hn0, hW⟩
  have HS := hid hS
  have HO := hid hcol.preps
  have HC := hid hcol
  have hr : c.know ⟨2, frm, slot, view, valid, l⟩ = (!hasT c.preps view frm, if hasT c.preps view frm then c else { c with preps := setT c.preps view frm l }) := rfl
  have HR := hid hr
  clear hS h hr d hcol q1 q3 q5
  go_enter Try.func50, Try.ntmps50
  go_wp2_with fail
  rw [← hW0]
  clear hW0
  go_wp2_with fail
  go_region_held3 (fun W => W.cell? ⟨b, 8, none⟩ = some (.map (some b1)) ∧ W.cell? ⟨w.heap.size, 1, none⟩ = some (.int .i64 frm) ∧ W.cell? ⟨w.heap.size, 3, none⟩ = some (.int .i64 view) ∧ W.cell? ⟨w.heap.size, 5, none⟩ = some (.slice A n m) ∧ Off (fun k => ρ.till i w.heap.size k = (i, 10, 0) ∨ ρ.till i w.heap.size k = (i, 110, view)) W0 W)
    (first | exact HS.out _ (Off.refl _ _).drew | exact HS.out _ ho5.drew_l)
    (first | (go_at_call 70; refine (set_any (l := l) _ (by omega) (HO.out.keep (Off.refl (fun _ => False) _).drew (Agr.refl _ _) (fun _ _ f => f.elim)) hp0.drew hl.lim).mono ?_; rintro e w5 ⟨rfl, ρ5, ha5, hout5, ho5⟩))
  all_goals
    go_wp2
    go_ret
    refine ⟨by rw [HR.out]; rfl, ?_⟩
    rw [HR.out]
    have hcc := HC.out.preps_set ho5.drew_l ha5 (fun k _ hk => hk.elim (fun e => .inl (by rw [e])) (fun e => .inr (by rw [e]))) hout5
    refine Left.after_below e2 ⟨ρ5, ha5, ?_, ho5.drew_l.mono (fun k _ hk => by rcases hk with e | e <;> rw [e])⟩
    dsimp only
    cases hh : hasT c.preps view frm <;> rw [hh] at hcc <;> exact ⟨_, _, _, _, _, _, _, _, _, hcc⟩

set_option maxRecDepth 100000 in
set_option maxHeartbeats 2000000 in
theorem know_commit {ρ : Roles} {i b fid : Nat} {c : CoreM} {O : Nat → Prop} {A : Option Addr} {n m : Nat} {frm slot view valid : Int} {l : List UInt8} (w : World) (h : CoreAt w ρ i b fid c) (hp : Bs w O (.slice A n m) l) (hl : Short l) :
    Calls Try.prog 50 #[.pointer (some ⟨b, 0, none⟩), .agg #[.int .i64 3, .int .i64 frm, .int .i64 slot, .int .i64 view, .int .i64 valid, .slice A n m]] w (KnowPost w ρ i b fid (c.know ⟨3, frm, slot, view, valid, l⟩)) := by
  obtain ⟨vw, vl, vv, bp, b1, b2, b3, bs, bd, h⟩ := h
  have H := hid h
  obtain ⟨W0, hW0, e2, hk0, ⟨q0, q1, _, q3, _, q5⟩, hp0⟩ := know_box (k := 3) (f := frm) (s := slot) (v := view) (a := valid) hp
  have hcol := h.till.below e2
  have d := hcol.cell 9
  simp only [coreCells, List.getElem?_toArray, List.getElem?_cons_zero, List.getElem?_cons_succ] at d
  have hS : ∀ W, Off (fun k => ρ.till i w.heap.size k = (i, 11, 0) ∨ ρ.till i w.heap.size k = (i, 111, view)) W0 W → W.cell? ⟨b, 9, none⟩ = some (.map (some b2)) ∧ W.cell? ⟨w.heap.size, 1, none⟩ = some (.int .i64 frm) ∧ W.cell? ⟨w.heap.size, 3, none⟩ = some (.int .i64 view) ∧ W.cell? ⟨w.heap.size, 5, none⟩ = some (.slice A n m) ∧ Off (fun k => ρ.till i w.heap.size k = (i, 11, 0) ∨ ρ.till i w.heap.size k = (i, 111, view)) W0 W := fun W hW =>
    have hnb : ¬ (ρ.till i w.heap.size b = (i, 11, 0) ∨ ρ.till i w.heap.size b = (i, 111, view)) := by
      unfold Roles.till; rw [if_pos H.out.lt, H.out.role]; simp
    have hn0 : ¬ (ρ.till i w.heap.size w.heap.size = (i, 11, 0) ∨ ρ.till i w.heap.size w.heap.size = (i, 111, view)) := by
      unfold Roles.till; rw [if_neg (by omega)]; simp
    ⟨hW.cell_some d hnb, hW.cell_some q1 hn0, hW.cell_some q3 hn0, hW.cell_some q5 hn0, hW⟩
  have HS := hid hS
  have HO := hid hcol.comms
  have HC := hid hcol
  have hr : c.know ⟨3, frm, slot, view, valid, l⟩ = (!hasT c.comms view frm, if hasT c.comms view frm then c else { c with comms := setT c.comms view frm l }) := rfl
  have HR := hid hr
  clear hS h hr d hcol q1 q3 q5
  go_enter Try.func50, Try.ntmps50
  go_wp2_with fail
  rw [← hW0]
  clear hW0
  go_wp2_with fail
  go_region_held3 (fun W => W.cell? ⟨b, 9, none⟩ = some (.map (some b2)) ∧ W.cell? ⟨w.heap.size, 1, none⟩ = some (.int .i64 frm) ∧ W.cell? ⟨w.heap.size, 3, none⟩ = some (.int .i64 view) ∧ W.cell? ⟨w.heap.size, 5, none⟩ = some (.slice A n m) ∧ Off (fun k => ρ.till i w.heap.size k = (i, 11, 0) ∨ ρ.till i w.heap.size k = (i, 111, view)) W0 W)
    (first | exact HS.out _ (Off.refl _ _).drew | exact HS.out _ ho5.drew_l)
    (first | (go_at_call 70; refine (set_any (l := l) _ (by omega) (HO.out.keep (Off.refl (fun _ => False) _).drew (Agr.refl _ _) (fun _ _ f => f.elim)) hp0.drew hl.lim).mono ?_; rintro e w5 ⟨rfl, ρ5, ha5, hout5, ho5⟩))
  all_goals
    go_wp2
    go_ret
    refine ⟨by rw [HR.out]; rfl, ?_⟩
    rw [HR.out]
    have hcc := HC.out.comms_set ho5.drew_l ha5 (fun k _ hk => hk.elim (fun e => .inl (by rw [e])) (fun e => .inr (by rw [e]))) hout5
    refine Left.after_below e2 ⟨ρ5, ha5, ?_, ho5.drew_l.mono (fun k _ hk => by rcases hk with e | e <;> rw [e])⟩
    dsimp only
    cases hh : hasT c.comms view frm <;> rw [hh] at hcc <;> exact ⟨_, _, _, _, _, _, _, _, _, hcc⟩

set_option maxRecDepth 100000 in
set_option maxHeartbeats 2000000 in
theorem know_turn {ρ : Roles} {i b fid : Nat} {c : CoreM} {O : Nat → Prop} {A : Option Addr} {n m : Nat} {frm slot view valid : Int} {l : List UInt8} (w : World) (h : CoreAt w ρ i b fid c) (hp : Bs w O (.slice A n m) l) (hl : Short l) :
    Calls Try.prog 50 #[.pointer (some ⟨b, 0, none⟩), .agg #[.int .i64 5, .int .i64 frm, .int .i64 slot, .int .i64 view, .int .i64 valid, .slice A n m]] w (KnowPost w ρ i b fid (c.know ⟨5, frm, slot, view, valid, l⟩)) := by
  obtain ⟨vw, vl, vv, bp, b1, b2, b3, bs, bd, h⟩ := h
  have H := hid h
  obtain ⟨W0, hW0, e2, hk0, ⟨q0, q1, _, q3, _, q5⟩, hp0⟩ := know_box (k := 5) (f := frm) (s := slot) (v := view) (a := valid) hp
  have hcol := h.till.below e2
  have d := hcol.cell 10
  simp only [coreCells, List.getElem?_toArray, List.getElem?_cons_zero, List.getElem?_cons_succ] at d
  have hS : ∀ W, Off (fun k => ρ.till i w.heap.size k = (i, 12, 0) ∨ ρ.till i w.heap.size k = (i, 112, view)) W0 W → W.cell? ⟨b, 10, none⟩ = some (.map (some b3)) ∧ W.cell? ⟨w.heap.size, 1, none⟩ = some (.int .i64 frm) ∧ W.cell? ⟨w.heap.size, 3, none⟩ = some (.int .i64 view) ∧ W.cell? ⟨w.heap.size, 5, none⟩ = some (.slice A n m) ∧ Off (fun k => ρ.till i w.heap.size k = (i, 12, 0) ∨ ρ.till i w.heap.size k = (i, 112, view)) W0 W := fun W hW =>
    have hnb : ¬ (ρ.till i w.heap.size b = (i, 12, 0) ∨ ρ.till i w.heap.size b = (i, 112, view)) := by
      unfold Roles.till; rw [if_pos H.out.lt, H.out.role]; simp
    have hn0 : ¬ (ρ.till i w.heap.size w.heap.size = (i, 12, 0) ∨ ρ.till i w.heap.size w.heap.size = (i, 112, view)) := by
      unfold Roles.till; rw [if_neg (by omega)]; simp
    ⟨hW.cell_some d hnb, hW.cell_some q1 hn0, hW.cell_some q3 hn0, hW.cell_some q5 hn0, hW⟩
  have HS := hid hS
  have HO := hid hcol.turns
  have HC := hid hcol
  have hr : c.know ⟨5, frm, slot, view, valid, l⟩ = (!hasT c.turns view frm, if hasT c.turns view frm then c else { c with turns := setT c.turns view frm l }) := rfl
  have HR := hid hr
  clear hS h hr d hcol q1 q3 q5
  go_enter Try.func50, Try.ntmps50
  go_wp2_with fail
  rw [← hW0]
  clear hW0
  go_wp2_with fail
  go_region_held3 (fun W => W.cell? ⟨b, 10, none⟩ = some (.map (some b3)) ∧ W.cell? ⟨w.heap.size, 1, none⟩ = some (.int .i64 frm) ∧ W.cell? ⟨w.heap.size, 3, none⟩ = some (.int .i64 view) ∧ W.cell? ⟨w.heap.size, 5, none⟩ = some (.slice A n m) ∧ Off (fun k => ρ.till i w.heap.size k = (i, 12, 0) ∨ ρ.till i w.heap.size k = (i, 112, view)) W0 W)
    (first | exact HS.out _ (Off.refl _ _).drew | exact HS.out _ ho5.drew_l)
    (first | (go_at_call 70; refine (set_any (l := l) _ (by omega) (HO.out.keep (Off.refl (fun _ => False) _).drew (Agr.refl _ _) (fun _ _ f => f.elim)) hp0.drew hl.lim).mono ?_; rintro e w5 ⟨rfl, ρ5, ha5, hout5, ho5⟩))
  all_goals
    go_wp2
    go_ret
    refine ⟨by rw [HR.out]; rfl, ?_⟩
    rw [HR.out]
    have hcc := HC.out.turns_set ho5.drew_l ha5 (fun k _ hk => hk.elim (fun e => .inl (by rw [e])) (fun e => .inr (by rw [e]))) hout5
    refine Left.after_below e2 ⟨ρ5, ha5, ?_, ho5.drew_l.mono (fun k _ hk => by rcases hk with e | e <;> rw [e])⟩
    dsimp only
    cases hh : hasT c.turns view frm <;> rw [hh] at hcc <;> exact ⟨_, _, _, _, _, _, _, _, _, hcc⟩

/-- A decision is laid. -/
theorem decs_close {w w1 w2 : World} {ρ : Roles} {i b fid : Nat} {c : CoreM} {vw vl vv v' : Value} {bp b1 b2 b3 bs bd : Nat} {l : List UInt8} {who : Int} {z : List (Int × (Value × List UInt8))}
    (h : Parts w ρ i b fid c vw vl vv bp b1 b2 b3 bs bd) (hr : ρ bd = (i, 5, 0)) (hz1 : IMap w bd (mv (·.1) z)) (hz2 : c.decs = mv (·.2) z) (hz3 : ∀ p ∈ z, Bs w (fun k => ρ k = (i, 2, 0)) p.2.1 p.2.2)
    (hb : Below w.heap.size w w1) (hv : Bs w1 (fun k => w.heap.size ≤ k) v' l) (hm : IMap w2 bd (put (mv (·.1) z) who v')) (ho : Off (fun k => k = bd) w1 w2) :
    Left w w2 ρ i b fid { c with decs := put c.decs who l } := by
  have hoff : Off (fun k => k = bd) w w2 := (Off.of_below hb).trans ho (fun _ _ h => h)
  have hbyte : ∀ k, k < w.heap.size → ρ k = (i, 2, 0) → (ρ.fresh i w.heap.size w2.heap.size) k = (i, 2, 0) := fun k hk h => (agr_fresh w ρ i _ k hk).trans h
  refine ⟨ρ.fresh i w.heap.size w2.heap.size, agr_fresh _ _ _ _, ⟨_, _, _, _, _, _, _, _, _, h.decs_set hoff (agr_fresh _ _ _ _) (fun k hk e => .inl (by subst e; rw [hr])) ⟨(agr_fresh _ _ _ _ bd hz1.lt).trans hr, put z who (v', l), ?_, ?_, ?_⟩⟩, hoff.mono (fun k _ e => by subst e; rw [hr])⟩
  · rw [mv_put]; exact hm
  · rw [mv_put, hz2]
  · intro p hp
    rcases mem_put hp with rfl | ⟨hp, _⟩
    · exact bs_fresh hb hz1.lt hv ho
    · exact ((hz3 p hp).mono hbyte).keep hoff (fun k hk hO e => by rw [agr_fresh w ρ i _ k hk, e, hr] at hO; simp at hO)

set_option maxRecDepth 100000 in
set_option maxHeartbeats 2000000 in
/-- There is one. -/
theorem know_propose_there {ρ : Roles} {i b fid : Nat} {c : CoreM} {O : Nat → Prop} {A : Option Addr} {n m : Nat} {frm slot view valid : Int} {l : List UInt8} (w : World) (h : CoreAt w ρ i b fid c) (ok : c.Ok) (hw0 : 0 ≤ view) (hw1 : view ≤ 1048576) (hp : Bs w O (.slice A n m) l) (hl : Short l) (hpr : (c.props.lookup view).isSome = true) :
    Calls Try.prog 50 #[.pointer (some ⟨b, 0, none⟩), .agg #[.int .i64 1, .int .i64 frm, .int .i64 slot, .int .i64 view, .int .i64 valid, .slice A n m]] w (KnowPost w ρ i b fid (c.know ⟨1, frm, slot, view, valid, l⟩)) := by
  have cP := fun W (hW : Below w.heap.size w W) => proposer_any view W (h.below hW) ok hw0 (by omega)
  obtain ⟨vw, vl, vv, bp, b1, b2, b3, bs, bd, h⟩ := h
  have H := hid h
  have HP := hid cP
  obtain ⟨W0, hW0, e2, hk0, ⟨q0, q1, _, q3, q4, q5⟩, hp0⟩ := know_box (k := 1) (f := frm) (s := slot) (v := view) (a := valid) hp
  have hcol := h.till.below e2
  obtain ⟨A1, n1, m1, x1, hf1, _⟩ := hcol.props.find view
  obtain ⟨hr3, z, hz1, hz2, hz3⟩ := id hcol.props
  have d7 := hcol.cell 7
  simp only [coreCells, List.getElem?_toArray, List.getElem?_cons_zero, List.getElem?_cons_succ] at d7
  have hlt0 := hcol.lt
  have hS : ∀ W, Below W0.heap.size W0 W → W.cell? ⟨b, 7, none⟩ = some (.map (some bp)) ∧ W.cell? ⟨w.heap.size, 3, none⟩ = some (.int .i64 view) ∧ (Instr.lookup 94 (.map (some bp)) (.int .i64 view) true).run Try.prog W = .ok (.tuple #[.agg #[.slice A1 n1 m1, .int .i64 x1], .bool (c.props.lookup view).isSome]) W ∧ Below W0.heap.size W0 W := fun W hW =>
    ⟨(hW.cell (p := ⟨b, 7, none⟩) hlt0).trans d7, (hW.cell (p := ⟨w.heap.size, 3, none⟩) hk0).trans q3, hf1 W hW, hW⟩
  have hr : c.know ⟨1, frm, slot, view, valid, l⟩ = (false, c) := by unfold CoreM.know; dsimp only; rw [if_pos rfl, hpr]; rfl
  rw [hpr] at hS
  have HS := hid hS
  have HC := hid hcol
  have HR := hid hr
  clear hS h hr d7 hcol hf1 hpr hz1 hz2 hz3 cP
  go_enter Try.func50, Try.ntmps50
  go_wp2_with fail
  rw [← hW0]
  clear hW0
  go_wp2_with fail
  go_region_held3 (fun W => W.cell? ⟨b, 7, none⟩ = some (.map (some bp)) ∧ W.cell? ⟨w.heap.size, 3, none⟩ = some (.int .i64 view) ∧ (Instr.lookup 94 (.map (some bp)) (.int .i64 view) true).run Try.prog W = .ok (.tuple #[.agg #[.slice A1 n1 m1, .int .i64 x1], .bool true]) W ∧ Below W0.heap.size W0 W)
    (first | exact HS.out _ (Below.refl _ _).drew | exact HS.out _ ((Below.refl _ W0).drew.alloc (Nat.le_refl _) _) | exact HS.out _ (((Below.refl _ W0).drew.alloc (Nat.le_refl _) _).setCell (Nat.le_refl _) _))
    (fail)
  all_goals
    have e3 : Below W0.heap.size W0 (W0.alloc (Obj.cells #[Value.slice A1 n1 m1, Value.int IntKind.i64 x1] 106)).drew := ((Below.refl W0.heap.size W0).alloc (Nat.le_refl _) _).drew
    generalize (W0.alloc (Obj.cells #[Value.slice A1 n1 m1, Value.int IntKind.i64 x1] 106)).drew = W1 at e3 ⊢
    have r1 := (e3.cell (p := ⟨w.heap.size, 1, none⟩) hk0).trans q1
    have r3 := (e3.cell (p := ⟨w.heap.size, 3, none⟩) hk0).trans q3
    have e4 : Below w.heap.size w W1 := e2.trans (e3.mono e2.size)
    go_wp2
    go_quiet (fail)
    go_wp2
    go_ret
    refine ⟨by rw [HR.out]; rfl, ?_⟩
    rw [HR.out]
    exact Left.of_below ⟨_, _, _, _, _, _, _, _, _, H.out⟩ (Off.drewN (Off.of_below (F := fun _ => False) e4) _).below

set_option maxRecDepth 100000 in
set_option maxHeartbeats 2000000 in
/-- It is not the proposer. -/
theorem know_propose_other {ρ : Roles} {i b fid : Nat} {c : CoreM} {O : Nat → Prop} {A : Option Addr} {n m : Nat} {frm slot view valid : Int} {l : List UInt8} (w : World) (h : CoreAt w ρ i b fid c) (ok : c.Ok) (hw0 : 0 ≤ view) (hw1 : view ≤ 1048576) (hp : Bs w O (.slice A n m) l) (hl : Short l) (hpr : (c.props.lookup view).isSome = false) (hq : (frm != c.proposer view) = true) :
    Calls Try.prog 50 #[.pointer (some ⟨b, 0, none⟩), .agg #[.int .i64 1, .int .i64 frm, .int .i64 slot, .int .i64 view, .int .i64 valid, .slice A n m]] w (KnowPost w ρ i b fid (c.know ⟨1, frm, slot, view, valid, l⟩)) := by
  have cP := fun W (hW : Below w.heap.size w W) => proposer_any view W (h.below hW) ok hw0 (by omega)
  obtain ⟨vw, vl, vv, bp, b1, b2, b3, bs, bd, h⟩ := h
  have H := hid h
  have HP := hid cP
  obtain ⟨W0, hW0, e2, hk0, ⟨q0, q1, _, q3, q4, q5⟩, hp0⟩ := know_box (k := 1) (f := frm) (s := slot) (v := view) (a := valid) hp
  have hcol := h.till.below e2
  obtain ⟨A1, n1, m1, x1, hf1, _⟩ := hcol.props.find view
  obtain ⟨hr3, z, hz1, hz2, hz3⟩ := id hcol.props
  have d7 := hcol.cell 7
  simp only [coreCells, List.getElem?_toArray, List.getElem?_cons_zero, List.getElem?_cons_succ] at d7
  have hlt0 := hcol.lt
  have hS : ∀ W, Below W0.heap.size W0 W → W.cell? ⟨b, 7, none⟩ = some (.map (some bp)) ∧ W.cell? ⟨w.heap.size, 3, none⟩ = some (.int .i64 view) ∧ (Instr.lookup 94 (.map (some bp)) (.int .i64 view) true).run Try.prog W = .ok (.tuple #[.agg #[.slice A1 n1 m1, .int .i64 x1], .bool (c.props.lookup view).isSome]) W ∧ Below W0.heap.size W0 W := fun W hW =>
    ⟨(hW.cell (p := ⟨b, 7, none⟩) hlt0).trans d7, (hW.cell (p := ⟨w.heap.size, 3, none⟩) hk0).trans q3, hf1 W hW, hW⟩
  have hr : c.know ⟨1, frm, slot, view, valid, l⟩ = (false, c) := by unfold CoreM.know; dsimp only; rw [if_pos rfl, hpr, hq]; rfl
  rw [hpr] at hS
  have HS := hid hS
  have HC := hid hcol
  have HR := hid hr
  clear hS h hr d7 hcol hf1 hpr hz1 hz2 hz3 cP
  go_enter Try.func50, Try.ntmps50
  go_wp2_with fail
  rw [← hW0]
  clear hW0
  go_wp2_with fail
  go_region_held3 (fun W => W.cell? ⟨b, 7, none⟩ = some (.map (some bp)) ∧ W.cell? ⟨w.heap.size, 3, none⟩ = some (.int .i64 view) ∧ (Instr.lookup 94 (.map (some bp)) (.int .i64 view) true).run Try.prog W = .ok (.tuple #[.agg #[.slice A1 n1 m1, .int .i64 x1], .bool false]) W ∧ Below W0.heap.size W0 W)
    (first | exact HS.out _ (Below.refl _ _).drew | exact HS.out _ ((Below.refl _ W0).drew.alloc (Nat.le_refl _) _) | exact HS.out _ (((Below.refl _ W0).drew.alloc (Nat.le_refl _) _).setCell (Nat.le_refl _) _))
    (fail)
  all_goals
    have e3 : Below W0.heap.size W0 (W0.alloc (Obj.cells #[Value.slice A1 n1 m1, Value.int IntKind.i64 x1] 106)).drew := ((Below.refl W0.heap.size W0).alloc (Nat.le_refl _) _).drew
    generalize (W0.alloc (Obj.cells #[Value.slice A1 n1 m1, Value.int IntKind.i64 x1] 106)).drew = W1 at e3 ⊢
    have r1 := (e3.cell (p := ⟨w.heap.size, 1, none⟩) hk0).trans q1
    have r3 := (e3.cell (p := ⟨w.heap.size, 3, none⟩) hk0).trans q3
    have e4 : Below w.heap.size w W1 := e2.trans (e3.mono e2.size)
    go_wp2
    go_quiet ((go_at_call 53; exact Calls.quiet_of (HP.out _ (Off.drewN (Off.of_below (F := fun _ => False) e4) _).below)))
    go_wp2
    go_ret
    refine ⟨by rw [HR.out]; rfl, ?_⟩
    rw [HR.out]
    exact Left.of_below ⟨_, _, _, _, _, _, _, _, _, H.out⟩ (Off.drewN (Off.of_below (F := fun _ => False) e4) _).below

set_option maxRecDepth 100000 in
set_option maxHeartbeats 2000000 in
/-- It is new. -/
theorem know_propose_new {ρ : Roles} {i b fid : Nat} {c : CoreM} {O : Nat → Prop} {A : Option Addr} {n m : Nat} {frm slot view valid : Int} {l : List UInt8} (w : World) (h : CoreAt w ρ i b fid c) (ok : c.Ok) (hw0 : 0 ≤ view) (hw1 : view ≤ 1048576) (hp : Bs w O (.slice A n m) l) (hl : Short l) (hpr : (c.props.lookup view).isSome = false) (hq : (frm != c.proposer view) = false) :
    Calls Try.prog 50 #[.pointer (some ⟨b, 0, none⟩), .agg #[.int .i64 1, .int .i64 frm, .int .i64 slot, .int .i64 view, .int .i64 valid, .slice A n m]] w (KnowPost w ρ i b fid (c.know ⟨1, frm, slot, view, valid, l⟩)) := by
  have cP := fun W (hW : Below w.heap.size w W) => proposer_any view W (h.below hW) ok hw0 (by omega)
  obtain ⟨vw, vl, vv, bp, b1, b2, b3, bs, bd, h⟩ := h
  have H := hid h
  have HP := hid cP
  obtain ⟨W0, hW0, e2, hk0, ⟨q0, q1, _, q3, q4, q5⟩, hp0⟩ := know_box (k := 1) (f := frm) (s := slot) (v := view) (a := valid) hp
  have hcol := h.till.below e2
  obtain ⟨A1, n1, m1, x1, hf1, _⟩ := hcol.props.find view
  obtain ⟨hr3, z, hz1, hz2, hz3⟩ := id hcol.props
  have d7 := hcol.cell 7
  simp only [coreCells, List.getElem?_toArray, List.getElem?_cons_zero, List.getElem?_cons_succ] at d7
  have hlt0 := hcol.lt
  have hS : ∀ W, Below W0.heap.size W0 W → W.cell? ⟨b, 7, none⟩ = some (.map (some bp)) ∧ W.cell? ⟨w.heap.size, 3, none⟩ = some (.int .i64 view) ∧ (Instr.lookup 94 (.map (some bp)) (.int .i64 view) true).run Try.prog W = .ok (.tuple #[.agg #[.slice A1 n1 m1, .int .i64 x1], .bool (c.props.lookup view).isSome]) W ∧ Below W0.heap.size W0 W := fun W hW =>
    ⟨(hW.cell (p := ⟨b, 7, none⟩) hlt0).trans d7, (hW.cell (p := ⟨w.heap.size, 3, none⟩) hk0).trans q3, hf1 W hW, hW⟩
  have hr : c.know ⟨1, frm, slot, view, valid, l⟩ = (true, { c with props := put c.props view (l, valid) }) := by unfold CoreM.know; dsimp only; rw [if_pos rfl, hpr, hq]; rfl
  have hS6 : ∀ W, Off (fun k => k = bp) W0 W → W.cell? ⟨b, 7, none⟩ = some (.map (some bp)) ∧ W.cell? ⟨w.heap.size, 3, none⟩ = some (.int .i64 view) ∧ W.cell? ⟨w.heap.size, 4, none⟩ = some (.int .i64 valid) ∧ W.cell? ⟨w.heap.size, 5, none⟩ = some (.slice A n m) ∧ Off (fun k => k = bp) W0 W := fun W hW =>
    have hnb : ¬ b = bp := by rintro rfl; have := hcol.role; rw [hr3] at this; simp at this
    have hn0 : ¬ w.heap.size = bp := by rintro rfl; unfold Roles.till at hr3; rw [if_neg (by omega)] at hr3; simp at hr3
    ⟨hW.cell_some d7 hnb, hW.cell_some q3 hn0, hW.cell_some q4 hn0, hW.cell_some q5 hn0, hW⟩
  rw [hpr] at hS
  have HS := hid hS
  have HC := hid hcol
  have HR := hid hr
  have HS6 := hid hS6
  have HZ1 := hid hz1
  have HZ2 := hid hz2
  have HZ3 := hid hz3
  have hbs := hz1.lt
  clear hS6
  clear hS h hr d7 hcol hf1 hpr hz1 hz2 hz3 cP
  go_enter Try.func50, Try.ntmps50
  go_wp2_with fail
  rw [← hW0]
  clear hW0
  go_wp2_with fail
  go_region_held3 (fun W => W.cell? ⟨b, 7, none⟩ = some (.map (some bp)) ∧ W.cell? ⟨w.heap.size, 3, none⟩ = some (.int .i64 view) ∧ (Instr.lookup 94 (.map (some bp)) (.int .i64 view) true).run Try.prog W = .ok (.tuple #[.agg #[.slice A1 n1 m1, .int .i64 x1], .bool false]) W ∧ Below W0.heap.size W0 W)
    (first | exact HS.out _ (Below.refl _ _).drew | exact HS.out _ ((Below.refl _ W0).drew.alloc (Nat.le_refl _) _) | exact HS.out _ (((Below.refl _ W0).drew.alloc (Nat.le_refl _) _).setCell (Nat.le_refl _) _))
    (fail)
  all_goals
    have e3 : Below W0.heap.size W0 (W0.alloc (Obj.cells #[Value.slice A1 n1 m1, Value.int IntKind.i64 x1] 106)).drew := ((Below.refl W0.heap.size W0).alloc (Nat.le_refl _) _).drew
    generalize (W0.alloc (Obj.cells #[Value.slice A1 n1 m1, Value.int IntKind.i64 x1] 106)).drew = W1 at e3 ⊢
    have r1 := (e3.cell (p := ⟨w.heap.size, 1, none⟩) hk0).trans q1
    have r3 := (e3.cell (p := ⟨w.heap.size, 3, none⟩) hk0).trans q3
    have e4 : Below w.heap.size w W1 := e2.trans (e3.mono e2.size)
    go_wp2
    go_quiet ((go_at_call 53; exact Calls.quiet_of (HP.out _ (Off.drewN (Off.of_below (F := fun _ => False) e4) _).below)))
    have e5 : Below W0.heap.size W0 (W1.drewN nq) := (Off.drewN (Off.of_below (F := fun _ => False) e3) _).below
    clear r1 r3 q1 q3 q4 q5
    generalize W1.drewN nq = W2 at e5 ⊢
    go_wp2_with fail
    go_region_held3 (fun W => W.cell? ⟨b, 7, none⟩ = some (.map (some bp)) ∧ W.cell? ⟨w.heap.size, 3, none⟩ = some (.int .i64 view) ∧ W.cell? ⟨w.heap.size, 4, none⟩ = some (.int .i64 valid) ∧ W.cell? ⟨w.heap.size, 5, none⟩ = some (.slice A n m) ∧ Off (fun k => k = bp) W0 W)
      (first
        | exact HS6.out _ (Off.of_below e5).drew
        | exact HS6.out _ (Off.of_below (e5.trans ((below_drew_l hb5).mono e5.size)))
        | exact HS6.out _ ((Off.of_below (e5.trans ((below_drew_l hb5).mono e5.size))).trans ho6 (fun _ _ h => h)))
      (first
        | (go_at_call 52; refine (clone_any _ (hp0.below e5).drew hl.lim).mono ?_; rintro e w5 ⟨v', rfl, hv5, hb5⟩; obtain ⟨A5, cap5, rfl, hvx5⟩ := id hv5; obtain ⟨w6, hrun6, hm6, ho6, hs6⟩ := (HZ1.out.below (e5.trans ((below_drew_l hb5).mono e5.size))).update (P := Try.prog) Try.underlying94 Try.underlying3 view (.agg #[.slice A5 l.length cap5, .int .i64 valid])))
    all_goals
      go_wp2
      go_ret
      refine ⟨by rw [HR.out]; rfl, ?_⟩
      rw [HR.out]
      exact Left.after_below e2 (props_close HC.out hr3 HZ1.out HZ2.out HZ3.out (e5.trans ((below_drew_l hb5).mono e5.size)) (hv5.mono (fun k _ hk => Nat.le_trans e5.size hk)) hm6 ho6)

set_option maxRecDepth 100000 in
set_option maxHeartbeats 2000000 in
/-- It is known. -/
theorem know_decided_there {ρ : Roles} {i b fid : Nat} {c : CoreM} {O : Nat → Prop} {A : Option Addr} {n m : Nat} {frm slot view valid : Int} {l : List UInt8} (w : World) (h : CoreAt w ρ i b fid c) (hp : Bs w O (.slice A n m) l) (hl : Short l) (hpr : (c.decs.lookup frm).isSome = true) :
    Calls Try.prog 50 #[.pointer (some ⟨b, 0, none⟩), .agg #[.int .i64 4, .int .i64 frm, .int .i64 slot, .int .i64 view, .int .i64 valid, .slice A n m]] w (KnowPost w ρ i b fid (c.know ⟨4, frm, slot, view, valid, l⟩)) := by
  obtain ⟨vw, vl, vv, bp, b1, b2, b3, bs, bd, h⟩ := h
  have H := hid h
  obtain ⟨W0, hW0, e2, hk0, ⟨q0, q1, _, q3, q4, q5⟩, hp0⟩ := know_box (k := 4) (f := frm) (s := slot) (v := view) (a := valid) hp
  have hcol := h.till.below e2
  obtain ⟨hr3, z, hz1, hz2, hz3⟩ := id hcol.decs
  have hf1 : ∃ A1 n1 m1, ∀ W, Below W0.heap.size W0 W → (Instr.lookup 98 (.map (some bd)) (.int .i64 frm) true).run Try.prog W = .ok (.tuple #[.slice A1 n1 m1, .bool (c.decs.lookup frm).isSome]) W := by
    have e : ∀ W, Below W0.heap.size W0 W → (Instr.lookup 98 (.map (some bd)) (.int .i64 frm) true).run Try.prog W = .ok (.tuple #[((mv (·.1) z).lookup frm).getD (.slice none 0 0), .bool ((mv (·.1) z).lookup frm).isSome]) W := fun W hW => by
      simpa using (hz1.below hW).lookup (P := Try.prog) Try.underlying98 Try.underlying3 (zero_bytes W) frm true
    cases hz : z.lookup frm with
    | none => exact ⟨none, 0, 0, fun W hW => by rw [e W hW, hz2, lookup_mv, lookup_mv, hz]; rfl⟩
    | some x =>
      obtain ⟨A, cap, hx, _⟩ := id (hz3 _ (lookup_mem hz))
      dsimp only at hx
      exact ⟨A, x.2.length, cap, fun W hW => by rw [e W hW, hz2, lookup_mv, lookup_mv, hz, ← hx]; rfl⟩
  obtain ⟨A1, n1, m1, hf1⟩ := hf1
  have d12 := hcol.cell 12
  simp only [coreCells, List.getElem?_toArray, List.getElem?_cons_zero, List.getElem?_cons_succ] at d12
  have hlt0 := hcol.lt
  have hS : ∀ W, Below W0.heap.size W0 W → W.cell? ⟨b, 12, none⟩ = some (.map (some bd)) ∧ W.cell? ⟨w.heap.size, 1, none⟩ = some (.int .i64 frm) ∧ (Instr.lookup 98 (.map (some bd)) (.int .i64 frm) true).run Try.prog W = .ok (.tuple #[.slice A1 n1 m1, .bool (c.decs.lookup frm).isSome]) W ∧ Below W0.heap.size W0 W := fun W hW =>
    ⟨(hW.cell (p := ⟨b, 12, none⟩) hlt0).trans d12, (hW.cell (p := ⟨w.heap.size, 1, none⟩) hk0).trans q1, hf1 W hW, hW⟩
  have hr : c.know ⟨4, frm, slot, view, valid, l⟩ = (false, c) := by unfold CoreM.know; dsimp only; simp [hpr]
  rw [hpr] at hS
  have HS := hid hS
  have HC := hid hcol
  have HR := hid hr
  clear hS h hr d12 hcol hf1 hpr hz1 hz2 hz3
  go_enter Try.func50, Try.ntmps50
  go_wp2_with fail
  rw [← hW0]
  clear hW0
  go_wp2_with fail
  go_region_held3 (fun W => W.cell? ⟨b, 12, none⟩ = some (.map (some bd)) ∧ W.cell? ⟨w.heap.size, 1, none⟩ = some (.int .i64 frm) ∧ (Instr.lookup 98 (.map (some bd)) (.int .i64 frm) true).run Try.prog W = .ok (.tuple #[.slice A1 n1 m1, .bool true]) W ∧ Below W0.heap.size W0 W)
    (first | exact HS.out _ (Below.refl _ _).drew)
    (fail)
  all_goals
    go_wp2
    go_ret
    refine ⟨by rw [HR.out]; rfl, ?_⟩
    rw [HR.out]
    exact Left.of_below ⟨_, _, _, _, _, _, _, _, _, H.out⟩ e2.drew

set_option maxRecDepth 100000 in
set_option maxHeartbeats 2000000 in
/-- It is new. -/
theorem know_decided_new {ρ : Roles} {i b fid : Nat} {c : CoreM} {O : Nat → Prop} {A : Option Addr} {n m : Nat} {frm slot view valid : Int} {l : List UInt8} (w : World) (h : CoreAt w ρ i b fid c) (hp : Bs w O (.slice A n m) l) (hl : Short l) (hpr : (c.decs.lookup frm).isSome = false) :
    Calls Try.prog 50 #[.pointer (some ⟨b, 0, none⟩), .agg #[.int .i64 4, .int .i64 frm, .int .i64 slot, .int .i64 view, .int .i64 valid, .slice A n m]] w (KnowPost w ρ i b fid (c.know ⟨4, frm, slot, view, valid, l⟩)) := by
  obtain ⟨vw, vl, vv, bp, b1, b2, b3, bs, bd, h⟩ := h
  have H := hid h
  obtain ⟨W0, hW0, e2, hk0, ⟨q0, q1, _, q3, q4, q5⟩, hp0⟩ := know_box (k := 4) (f := frm) (s := slot) (v := view) (a := valid) hp
  have hcol := h.till.below e2
  obtain ⟨hr3, z, hz1, hz2, hz3⟩ := id hcol.decs
  have hf1 : ∃ A1 n1 m1, ∀ W, Below W0.heap.size W0 W → (Instr.lookup 98 (.map (some bd)) (.int .i64 frm) true).run Try.prog W = .ok (.tuple #[.slice A1 n1 m1, .bool (c.decs.lookup frm).isSome]) W := by
    have e : ∀ W, Below W0.heap.size W0 W → (Instr.lookup 98 (.map (some bd)) (.int .i64 frm) true).run Try.prog W = .ok (.tuple #[((mv (·.1) z).lookup frm).getD (.slice none 0 0), .bool ((mv (·.1) z).lookup frm).isSome]) W := fun W hW => by
      simpa using (hz1.below hW).lookup (P := Try.prog) Try.underlying98 Try.underlying3 (zero_bytes W) frm true
    cases hz : z.lookup frm with
    | none => exact ⟨none, 0, 0, fun W hW => by rw [e W hW, hz2, lookup_mv, lookup_mv, hz]; rfl⟩
    | some x =>
      obtain ⟨A, cap, hx, _⟩ := id (hz3 _ (lookup_mem hz))
      dsimp only at hx
      exact ⟨A, x.2.length, cap, fun W hW => by rw [e W hW, hz2, lookup_mv, lookup_mv, hz, ← hx]; rfl⟩
  obtain ⟨A1, n1, m1, hf1⟩ := hf1
  have d12 := hcol.cell 12
  simp only [coreCells, List.getElem?_toArray, List.getElem?_cons_zero, List.getElem?_cons_succ] at d12
  have hlt0 := hcol.lt
  have hS : ∀ W, Below W0.heap.size W0 W → W.cell? ⟨b, 12, none⟩ = some (.map (some bd)) ∧ W.cell? ⟨w.heap.size, 1, none⟩ = some (.int .i64 frm) ∧ (Instr.lookup 98 (.map (some bd)) (.int .i64 frm) true).run Try.prog W = .ok (.tuple #[.slice A1 n1 m1, .bool (c.decs.lookup frm).isSome]) W ∧ Below W0.heap.size W0 W := fun W hW =>
    ⟨(hW.cell (p := ⟨b, 12, none⟩) hlt0).trans d12, (hW.cell (p := ⟨w.heap.size, 1, none⟩) hk0).trans q1, hf1 W hW, hW⟩
  have hr : c.know ⟨4, frm, slot, view, valid, l⟩ = (true, { c with decs := put c.decs frm l }) := by unfold CoreM.know; dsimp only; simp [hpr]
  have hS17 : ∀ W, Off (fun k => k = bd) W0 W → W.cell? ⟨b, 12, none⟩ = some (.map (some bd)) ∧ W.cell? ⟨w.heap.size, 1, none⟩ = some (.int .i64 frm) ∧ W.cell? ⟨w.heap.size, 5, none⟩ = some (.slice A n m) ∧ Off (fun k => k = bd) W0 W := fun W hW =>
    have hnb : ¬ b = bd := by rintro rfl; have := hcol.role; rw [hr3] at this; simp at this
    have hn0 : ¬ w.heap.size = bd := by rintro rfl; unfold Roles.till at hr3; rw [if_neg (by omega)] at hr3; simp at hr3
    ⟨hW.cell_some d12 hnb, hW.cell_some q1 hn0, hW.cell_some q5 hn0, hW⟩
  rw [hpr] at hS
  have HS := hid hS
  have HC := hid hcol
  have HR := hid hr
  have HS17 := hid hS17
  have HZ1 := hid hz1
  have HZ2 := hid hz2
  have HZ3 := hid hz3
  have hbs := hz1.lt
  clear hS17
  clear hS h hr d12 hcol hf1 hpr hz1 hz2 hz3
  go_enter Try.func50, Try.ntmps50
  go_wp2_with fail
  rw [← hW0]
  clear hW0
  go_wp2_with fail
  go_region_held3 (fun W => W.cell? ⟨b, 12, none⟩ = some (.map (some bd)) ∧ W.cell? ⟨w.heap.size, 1, none⟩ = some (.int .i64 frm) ∧ (Instr.lookup 98 (.map (some bd)) (.int .i64 frm) true).run Try.prog W = .ok (.tuple #[.slice A1 n1 m1, .bool false]) W ∧ Below W0.heap.size W0 W)
    (first | exact HS.out _ (Below.refl _ _).drew)
    (fail)
  all_goals
    have e5 : Below W0.heap.size W0 W0.drew := (Below.refl _ _).drew
    clear q1 q3 q4 q5
    go_wp2_with fail
    go_region_held3 (fun W => W.cell? ⟨b, 12, none⟩ = some (.map (some bd)) ∧ W.cell? ⟨w.heap.size, 1, none⟩ = some (.int .i64 frm) ∧ W.cell? ⟨w.heap.size, 5, none⟩ = some (.slice A n m) ∧ Off (fun k => k = bd) W0 W)
      (first
        | exact HS17.out _ (Off.of_below e5).drew
        | exact HS17.out _ (Off.of_below (e5.trans ((below_drew_l hb5).mono e5.size)))
        | exact HS17.out _ ((Off.of_below (e5.trans ((below_drew_l hb5).mono e5.size))).trans ho6 (fun _ _ h => h)))
      (first
        | (go_at_call 52; refine (clone_any _ (hp0.below e5).drew hl.lim).mono ?_; rintro e w5 ⟨v', rfl, hv5, hb5⟩; obtain ⟨A5, cap5, rfl, hvx5⟩ := id hv5; obtain ⟨w6, hrun6, hm6, ho6, hs6⟩ := (HZ1.out.below (e5.trans ((below_drew_l hb5).mono e5.size))).update (P := Try.prog) Try.underlying98 Try.underlying3 frm (.slice A5 l.length cap5)))
    all_goals
      go_wp2
      go_ret
      refine ⟨by rw [HR.out]; rfl, ?_⟩
      rw [HR.out]
      exact Left.after_below e2 (decs_close HC.out hr3 HZ1.out HZ2.out HZ3.out (e5.trans ((below_drew_l hb5).mono e5.size)) (hv5.mono (fun k _ hk => Nat.le_trans e5.size hk)) hm6 ho6)

theorem know_any {ρ : Roles} {i b fid : Nat} {c : CoreM} {O : Nat → Prop} {val : Value} {v : Vote} (w : World) (h : CoreAt w ρ i b fid c) (ok : c.Ok) (hv : VoteIs w O val v) (hk : v.okB = true) :
    Calls Try.prog 50 #[.pointer (some ⟨b, 0, none⟩), val] w (KnowPost w ρ i b fid (c.know v)) := by
  obtain ⟨k0, k1, f0, f1, s0, s1, v0, v1, a0, a1, hl⟩ := (CoreM.okB_iff v).1 hk
  obtain ⟨s, rfl, hs, _⟩ := hv
  obtain ⟨A, cap, rfl, _⟩ := id hs
  obtain ⟨kind, frm, slot, view, valid, l⟩ := v
  dsimp only at *
  have hsh : Short l := by unfold Short; omega
  have hkk : kind = 1 ∨ kind = 2 ∨ kind = 3 ∨ kind = 4 ∨ kind = 5 := by omega
  rcases hkk with rfl | rfl | rfl | rfl | rfl
  · cases hpr : (c.props.lookup view).isSome with
    | true => exact know_propose_there w h ok v0 v1 hs hsh hpr
    | false =>
      cases hq : (frm != c.proposer view) with
      | true => exact know_propose_other w h ok v0 v1 hs hsh hpr hq
      | false => exact know_propose_new w h ok v0 v1 hs hsh hpr hq
  · exact know_prepare w h hs hsh
  · exact know_commit w h hs hsh
  · cases hpr : (c.decs.lookup frm).isSome with
    | true => exact know_decided_there w h hs hsh hpr
    | false => exact know_decided_new w h hs hsh hpr
  · exact know_turn w h hs hsh
end Go.Proofs.Ytkkmkkgjpmlhaaa
