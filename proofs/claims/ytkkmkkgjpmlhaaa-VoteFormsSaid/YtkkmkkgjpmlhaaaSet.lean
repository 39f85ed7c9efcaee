/- The maps of a core as lists; vote.set. -/
import Derived.Test.YtkkmkkgjpmlhaaaLib
import Derived.Test.YtkkmkkgjpmlhaaaModel
import Derived.Test.YtkkmkkgjpmlhaaaLists
import Derived.Deep.RegionHeld3
namespace Go.Proofs.Ytkkmkkgjpmlhaaa
open Go.RowKit Go.MapKept

/-- To each block its owner, its kind, and a view. -/
abbrev Roles := Nat → Nat × Nat × Int
/-- Of the old blocks the roles stay. -/
def Agr (w : World) (ρ ρ' : Roles) : Prop := ∀ k, k < w.heap.size → ρ' k = ρ k
theorem Agr.refl (w : World) (ρ : Roles) : Agr w ρ ρ := fun _ _ => rfl
theorem Agr.trans {w w1 : World} {ρ ρ1 ρ2 : Roles} (h : Agr w ρ ρ1) (k : Agr w1 ρ1 ρ2) (hs : w.heap.size ≤ w1.heap.size) : Agr w ρ ρ2 :=
  fun b hb => (k b (Nat.lt_of_lt_of_le hb hs)).trans (h b hb)

/-- A map of what was told: values by peers. -/
def Told (w : World) (O : Nat → Prop) (b : Nat) (t : List (Int × List UInt8)) : Prop :=
  ∃ z : List (Int × (Value × List UInt8)), IMap w b (mv (·.1) z) ∧ t = mv (·.2) z ∧ ∀ p ∈ z, Bs w O p.2.1 p.2.2

/-- A map of such maps: by views. -/
def Outer (w : World) (ρ : Roles) (i kind b : Nat) (t : List (Int × List (Int × List UInt8))) : Prop :=
  ρ b = (i, kind, 0) ∧ ∃ z : List (Int × (Nat × List (Int × List UInt8))), IMap w b (mv (fun x => .map (some x.1)) z) ∧ t = mv (·.2) z ∧
    ∀ p ∈ z, ρ p.2.1 = (i, kind + 100, p.1) ∧ Told w (fun k => ρ k = (i, 2, 0)) p.2.1 p.2.2

section
variable {w w1 : World} {O O' F : Nat → Prop} {ρ ρ' : Roles} {i kind b : Nat} {t : List (Int × List UInt8)} {tm : List (Int × List (Int × List UInt8))}
theorem Told.lt (h : Told w O b t) : b < w.heap.size := by obtain ⟨z, h, _⟩ := h; exact h.lt
theorem Told.keep (h : Told w O b t) (ho : Off F w w1) (hb : ¬ F b) (hf : ∀ k, k < w.heap.size → O k → ¬ F k) : Told w1 O b t := by
  obtain ⟨z, h1, h2, h3⟩ := h
  exact ⟨z, h1.keep ho hb, h2, fun p hp => (h3 p hp).keep ho hf⟩
theorem Told.mono (h : Told w O b t) (ho : ∀ k, k < w.heap.size → O k → O' k) : Told w O' b t := by
  obtain ⟨z, h1, h2, h3⟩ := h
  exact ⟨z, h1, h2, fun p hp => (h3 p hp).mono ho⟩
theorem Outer.lt (h : Outer w ρ i kind b tm) : b < w.heap.size := by obtain ⟨_, z, h, _⟩ := h; exact h.lt
theorem Outer.keep (h : Outer w ρ i kind b tm) (ho : Off F w w1) (ha : Agr w ρ ρ') (hf : ∀ k, k < w.heap.size → F k → ρ k ≠ (i, kind, 0) ∧ (∀ v, ρ k ≠ (i, kind + 100, v)) ∧ ρ k ≠ (i, 2, 0)) : Outer w1 ρ' i kind b tm := by
  obtain ⟨h0, z, h1, h2, h3⟩ := h
  refine ⟨(ha b h1.lt).trans h0, z, h1.keep ho (fun f => (hf b h1.lt f).1 h0), h2, fun p hp => ?_⟩
  obtain ⟨r1, r2⟩ := h3 p hp
  have hlt := r2.lt
  exact ⟨(ha _ hlt).trans r1, (r2.mono (O' := fun k => ρ' k = (i, 2, 0)) (fun k hk hO => (ha k hk).trans hO)).keep ho (fun f => (hf _ hlt f).2.1 _ r1) (fun k hk hO f => (hf k hk f).2.2 ((ha k hk).symm.trans hO))⟩
end

/-! ### vote.set -/

def SetPost (w : World) (ρ : Roles) (i kind bm : Nat) (t : TM) (view who : Int) (l : List UInt8) (e : Ending) (w' : World) : Prop :=
  e = .returned (.bool (!hasT t view who)) ∧ ∃ ρ', Agr w ρ ρ' ∧ Outer w' ρ' i kind bm (if hasT t view who then t else setT t view who l) ∧
    Off (fun k => ρ k = (i, kind, 0) ∨ ρ k = (i, kind + 100, view)) w w'

theorem zero_told (w : World) : (zeroValue 98).run Try.prog w = .ok (.map none) w := by kernel_rfl
theorem zero_bytes (w : World) : (zeroValue 29).run Try.prog w = .ok (.slice none 0 0) w := by kernel_rfl

/-- A look-up in the nil map. -/
theorem lookup_nil {P : Program} {w : World} {t tk e : TypeId} {z : Value} (ht : P.underlying t = some (.map tk e)) (hk : P.underlying tk = some (.int .i64)) (hz : (zeroValue e).run P w = .ok z w) (k : Int) (c : Bool) :
    (Instr.lookup t (.map none) (.int .i64 k) c).run P w = .ok (if c then .tuple #[z, .bool false] else z) w := by
  have hck := run_checkKey (w := w) (k := .int .i64 k) hk (by simp [IsKey]) true 9999
  have hf := run_findKey (P := P) (w := w) (l := []) (k := .int .i64 k) hk (a := none) rfl
  simp [Instr.lookup, run_underlying ht, hck, hf, hz, Result.andThen]

/-- It is there: nothing turns. -/
theorem set_there {ρ : Roles} {i kind bm : Nat} {t : TM} {view who : Int} {v : Value} {l : List UInt8} (w : World) (h : Outer w ρ i kind bm t) (hh : hasT t view who = true) :
    Calls Try.prog 70 #[.map (some bm), .int .i64 view, .int .i64 who, v] w (SetPost w ρ i kind bm t view who l) := by
  obtain ⟨hr, z, h1, h2, h3⟩ := id h
  have hl1 : ∃ bi ti, z.lookup view = some (bi, ti) := by
    cases hz : z.lookup view with
    | none =>
      have : t.lookup view = none := by rw [h2, lookup_mv, hz]; rfl
      simp [hasT, inner, this] at hh
    | some x => exact ⟨x.1, x.2, rfl⟩
  obtain ⟨bi, ti, hz⟩ := hl1
  obtain ⟨hri, zi, hi1, hi2, hi3⟩ := h3 _ (lookup_mem hz)
  dsimp only at hri hi1 hi2
  have hin : inner t view = ti := by unfold inner; rw [h2, lookup_mv, hz]; rfl
  have hl2 : ∃ vv, zi.lookup who = some vv := by
    cases hz2 : zi.lookup who with
    | none => rw [hasT, hin, hi2, lookup_mv, hz2] at hh; cases hh
    | some x => exact ⟨x, rfl⟩
  obtain ⟨vv, hz2⟩ := hl2
  have e1 := h1.lookup (P := Try.prog) Try.underlying95 Try.underlying3 (zero_told w) view false
  have e2 := hi1.lookup (P := Try.prog) Try.underlying98 Try.underlying3 (zero_bytes w) who true
  rw [lookup_mv, hz] at e1
  rw [lookup_mv, hz2] at e2
  simp only [Option.map_some, Option.getD_some, Option.isSome_some, if_true, Bool.false_eq_true, if_false] at e1 e2
  have H := hid h
  have HH := hid hh
  clear h h1 h2 h3 hri hi1 hi2 hi3 hz hz2 hin hr hh
  go_enter Try.func70, Try.ntmps70
  go_wp2
  go_ret
  exact ⟨by rw [HH.out]; rfl, ρ, Agr.refl _ _, by rw [if_pos HH.out]; exact H.out, Off.refl _ _⟩

/-- The roles, and one more. -/
def Roles.with (ρ : Roles) (k : Nat) (r : Nat × Nat × Int) : Roles := fun j => if j = k then r else ρ j
/-- The roles, and what lies from one size to another is bytes. -/
def Roles.fresh (ρ : Roles) (i a b : Nat) : Roles := fun j => if a ≤ j ∧ j < b then (i, 2, 0) else ρ j

/-- What the store of a peer's value into an inner map leaves. -/
theorem set_close {ρ : Roles} {i kind bm bi : Nat} {t : TM} {view who : Int} {l : List UInt8} {w w1 w2 : World} {z : List (Int × (Nat × List (Int × List UInt8)))} {zi : List (Int × (Value × List UInt8))} {v' : Value}
    (hr : ρ bm = (i, kind, 0)) (h1 : IMap w bm (mv (fun x => .map (some x.1)) z)) (h2 : t = mv (·.2) z) (h3 : ∀ p ∈ z, ρ p.2.1 = (i, kind + 100, p.1) ∧ Told w (fun k => ρ k = (i, 2, 0)) p.2.1 p.2.2)
    (hz : z.lookup view = some (bi, mv (·.2) zi)) (hi3 : ∀ p ∈ zi, Bs w (fun k => ρ k = (i, 2, 0)) p.2.1 p.2.2)
    (hb1 : Bs w1 (fun b => w.heap.size ≤ b) v' l) (hw1 : Off (fun k => k = bi) w w1) (hm2 : IMap w2 bi (put (mv (·.1) zi) who v')) (ho2 : Off (fun k => k = bi) w1 w2) :
    ∃ ρ', Agr w ρ ρ' ∧ Outer w2 ρ' i kind bm (setT t view who l) ∧ Off (fun k => ρ k = (i, kind, 0) ∨ ρ k = (i, kind + 100, view)) w w2 := by
  obtain ⟨hri, _⟩ := h3 _ (lookup_mem hz)
  dsimp only at hri
  have hne : bm ≠ bi := by rintro rfl; rw [hr] at hri; simp at hri
  have hnb : ∀ k, ρ k = (i, 2, 0) → k ≠ bi := by rintro k hk rfl; rw [hk] at hri; simp at hri
  have hoff : Off (fun k => k = bi) w w2 := hw1.trans ho2 (fun _ _ h => h)
  have hag : Agr w ρ (ρ.fresh i w.heap.size w2.heap.size) := fun k hk => by
    unfold Roles.fresh; rw [if_neg (by omega)]
  have hbyte : ∀ k, k < w.heap.size → ρ k = (i, 2, 0) → (ρ.fresh i w.heap.size w2.heap.size) k = (i, 2, 0) := fun k hk h => (hag k hk).trans h
  refine ⟨_, hag, ⟨(hag bm h1.lt).trans hr, put z view (bi, put (mv (·.2) zi) who l), ?_, ?_, ?_⟩, hoff.mono (fun k _ hk => by subst hk; exact .inr hri)⟩
  · rw [mv_put, put_self (by rw [mv_keys]; have := h1.nodup; rwa [mv_keys] at this) (by rw [lookup_mv, hz]; rfl)]
    exact h1.keep hoff hne
  · have hin : inner t view = mv (·.2) zi := by unfold inner; rw [h2, lookup_mv, hz]; rfl
    rw [mv_put, setT, hin, h2]
  · intro p hp
    rcases mem_put hp with rfl | ⟨hp, hpv⟩
    · refine ⟨(hag _ (by have := (h3 _ (lookup_mem hz)).2.lt; exact this)).trans hri, put zi who (v', l), by rw [mv_put]; exact hm2, by rw [mv_put], fun q hq => ?_⟩
      rcases mem_put hq with rfl | ⟨hq, _⟩
      · exact ((hb1.keep ho2 (fun b _ hb e => by subst e; have := (h3 _ (lookup_mem hz)).2.lt; dsimp only at this; omega))).mono (fun b hb hwb => by unfold Roles.fresh; rw [if_pos ⟨hwb, hb⟩])
      · exact ((hi3 q hq).mono hbyte).keep hoff (fun b hb hO => by rw [hag b hb] at hO; exact hnb b hO)
    · obtain ⟨r1, r2⟩ := h3 p hp
      refine ⟨(hag _ r2.lt).trans r1, (r2.mono hbyte).keep hoff (fun e => by rw [e, hri] at r1; simp at r1; exact hpv r1.symm) (fun k hk hO => by rw [hag k hk] at hO; exact hnb k hO)⟩

set_option maxRecDepth 100000 in
/-- The view is there, the peer isn't. -/
theorem set_peer {ρ : Roles} {i kind bm : Nat} {t : TM} {view who : Int} {v : Value} {l : List UInt8} {Ov : Nat → Prop} (w : World) (h : Outer w ρ i kind bm t) (hh : hasT t view who = false) (hv : (t.lookup view).isSome = true)
    (hb : Bs w Ov v l) (hl : l.length ≤ 140737488355328) :
    Calls Try.prog 70 #[.map (some bm), .int .i64 view, .int .i64 who, v] w (SetPost w ρ i kind bm t view who l) := by
  obtain ⟨hr, z, h1, h2, h3⟩ := id h
  have hl1 : ∃ bi ti, z.lookup view = some (bi, ti) := by
    cases hz : z.lookup view with
    | none => rw [h2, lookup_mv, hz] at hv; cases hv
    | some x => exact ⟨x.1, x.2, rfl⟩
  obtain ⟨bi, ti, hz⟩ := hl1
  obtain ⟨hri, zi, hi1, hi2, hi3⟩ := h3 _ (lookup_mem hz)
  dsimp only at hri hi1 hi2
  have hin : inner t view = ti := by unfold inner; rw [h2, lookup_mv, hz]; rfl
  have hz2 : zi.lookup who = none := by
    cases hz2 : zi.lookup who with
    | none => rfl
    | some x => rw [hasT, hin, hi2, lookup_mv, hz2] at hh; cases hh
  have e1 : ∀ W, Off (fun k => k = bi) w W → (Instr.lookup 95 (.map (some bm)) (.int .i64 view) false).run Try.prog W = .ok (.map (some bi)) W := fun W hW => by
    have := (h1.keep hW (by rintro rfl; rw [hr] at hri; simp at hri)).lookup (P := Try.prog) Try.underlying95 Try.underlying3 (zero_told W) view false
    rw [lookup_mv, hz] at this
    simpa using this
  have e2 := hi1.lookup (P := Try.prog) Try.underlying98 Try.underlying3 (zero_bytes w) who true
  rw [lookup_mv, hz2] at e2
  simp only [Option.map_none, Option.getD_none, Option.isSome_none, if_true] at e2
  have e0 := e1 w (Off.refl _ _)
  have H1 := hid e1
  have hm : ∀ W, (binOp .eql 98 (.map (some bi)) (.map none)).run Try.prog W = .ok (.bool false) W := fun W => by kernel_rfl
  have Hz := hid hz
  have HH := hid hh
  clear e1 hz2 hz hin hh
  have Hi := hid hi1
  have H1m := hid h1
  have H2 := hid h2
  have H3 := hid h3
  clear h h1 h2 h3 hi1
  go_enter Try.func70, Try.ntmps70
  go_wp2_with fail
  go_region_held3 (fun W => (Instr.lookup 95 (.map (some bm)) (.int .i64 view) false).run Try.prog W = .ok (.map (some bi)) W ∧ Off (fun k => k = bi) w W)
    (first
      | exact ⟨H1.out _ (Off.refl _ _).drew, (Off.refl _ _).drew⟩
      | exact ⟨H1.out _ (Off.of_below hw1).drew_l, (Off.of_below hw1).drew_l⟩
      | exact ⟨H1.out _ ((Off.of_below hw1).drew_l.trans ho2 (fun _ _ h => h)), (Off.of_below hw1).drew_l.trans ho2 (fun _ _ h => h)⟩)
    (first
      | (go_at_call 52; refine (clone_any _ hb.drew hl).mono ?_; rintro e w1 ⟨v', rfl, hb1, hw1⟩; obtain ⟨w2, hrun2, hm2, ho2, hs2⟩ := (Hi.out.drew.below hw1).update (P := Try.prog) Try.underlying98 Try.underlying3 who v'))
  all_goals
    go_wp2
    go_ret
    refine ⟨by rw [HH.out]; rfl, ?_⟩
    rw [HH.out]
    exact set_close hr H1m.out H2.out H3.out (hi2 ▸ Hz.out) hi3 hb1 (Off.of_below hw1).drew_l hm2 ho2

/-- What the making of a view's map and a store into it leave. -/
theorem view_close {ρ : Roles} {i kind bm : Nat} {t : TM} {view who : Int} {l : List UInt8} {w w1 w2 w3 : World} {z : List (Int × (Nat × List (Int × List UInt8)))} {v' : Value} {o : Obj}
    (h1 : IMap w bm (mv (fun x => .map (some x.1)) z)) (hlt : bm < w.heap.size) (hr : ρ bm = (i, kind, 0)) (h2 : t = mv (·.2) z) (h3 : ∀ p ∈ z, ρ p.2.1 = (i, kind + 100, p.1) ∧ Told w (fun k => ρ k = (i, 2, 0)) p.2.1 p.2.2)
    (hk10 : 10 ≤ kind) (hz : z.lookup view = none) (hm1 : IMap w1 bm (put (mv (fun x => .map (some x.1)) z) view (.map (some w.heap.size)))) (ho1 : Off (fun k => k = bm) (w.alloc o) w1)
    (hb2 : Bs w2 (fun b => w1.heap.size ≤ b) v' l) (hw2 : Off (fun k => k = w.heap.size) w1 w2) (hm3 : IMap w3 w.heap.size (put [] who v')) (ho3 : Off (fun k => k = w.heap.size) w2 w3) :
    ∃ ρ', Agr w ρ ρ' ∧ Outer w3 ρ' i kind bm (setT t view who l) ∧ Off (fun k => ρ k = (i, kind, 0) ∨ ρ k = (i, kind + 100, view)) w w3 := by
  have hoff01 : Off (fun k => k = bm) w w1 := ⟨ho1.os, ho1.tape, ho1.output, Nat.le_trans (by simp) ho1.size, fun b hb hf => (ho1.block b (by simp; omega) hf).trans (Below.heap_alloc w o b hb)⟩
  have hoff13 : Off (fun k => k = w.heap.size) w1 w3 := hw2.trans ho3 (fun _ _ h => h)
  have hoff : Off (fun k => k = bm) w w3 := hoff01.trans hoff13 (fun b hb e => by omega)
  have hsz1 : w.heap.size < w1.heap.size := Nat.lt_of_lt_of_le (by simp) ho1.size
  have hag : Agr w ρ (Roles.with (ρ.fresh i w.heap.size w3.heap.size) w.heap.size (i, kind + 100, view)) := fun k hk => by
    unfold Roles.with Roles.fresh; rw [if_neg (by omega), if_neg (by omega)]
  have hbyte : ∀ k, k < w.heap.size → ρ k = (i, 2, 0) → (Roles.with (ρ.fresh i w.heap.size w3.heap.size) w.heap.size (i, kind + 100, view)) k = (i, 2, 0) := fun k hk h => (hag k hk).trans h
  have hnz : ∀ p ∈ z, p.1 ≠ view := fun p hp e => by
    have h := any_lookup z view
    rw [hz] at h
    simp only [Option.isSome_none, List.any_eq_false] at h
    exact h p hp (by simpa using e)
  refine ⟨_, hag, ⟨(hag bm hlt).trans hr, put z view (w.heap.size, put [] who l), ?_, ?_, ?_⟩, hoff.mono (fun k _ hk => by subst hk; exact .inl hr)⟩
  · rw [mv_put]; exact hm1.keep hoff13 (by omega)
  · have hin : inner t view = [] := by unfold inner; rw [h2, lookup_mv, hz]; rfl
    rw [mv_put, setT, hin, h2]
  · intro p hp
    rcases mem_put hp with rfl | ⟨hp, hpv⟩
    · refine ⟨by unfold Roles.with; simp, put [] who (v', l), by rw [mv_put]; exact hm3, by rw [mv_put]; rfl, fun q hq => ?_⟩
      rcases mem_put hq with rfl | ⟨hq, _⟩
      · exact (hb2.keep ho3 (fun b _ hb e => by omega)).mono (fun b hb hwb => by unfold Roles.with Roles.fresh; rw [if_neg (by omega), if_pos ⟨by omega, hb⟩])
      · cases hq
    · obtain ⟨r1, r2⟩ := h3 p hp
      refine ⟨(hag _ r2.lt).trans r1, (r2.mono hbyte).keep hoff (fun e => by rw [e, hr] at r1; simp at r1) (fun k hk hO e => by rw [hag k hk, e, hr] at hO; simp at hO; omega)⟩

set_option maxRecDepth 100000 in
/-- Nothing is there of the view. -/
theorem set_view {ρ : Roles} {i kind bm : Nat} {t : TM} {view who : Int} {v : Value} {l : List UInt8} {Ov : Nat → Prop} (w : World) (hk10 : 10 ≤ kind) (h : Outer w ρ i kind bm t) (hv : t.lookup view = none)
    (hb : Bs w Ov v l) (hl : l.length ≤ 140737488355328) :
    Calls Try.prog 70 #[.map (some bm), .int .i64 view, .int .i64 who, v] w (SetPost w ρ i kind bm t view who l) := by
  obtain ⟨hr, z, h1, h2, h3⟩ := id h
  have hh : hasT t view who = false := by simp [hasT, inner, hv]
  have hz : z.lookup view = none := by
    cases hz : z.lookup view with
    | none => rfl
    | some x => rw [h2, lookup_mv, hz] at hv; cases hv
  have hlt := h1.lt
  have e0 : (Instr.lookup 95 (.map (some bm)) (.int .i64 view) false).run Try.prog w = .ok (.map none) w := by
    have := h1.lookup (P := Try.prog) Try.underlying95 Try.underlying3 (zero_told w) view false
    rw [lookup_mv, hz] at this
    simpa using this
  have e2 : (Instr.lookup 98 (.map none) (.int .i64 who) true).run Try.prog w = .ok (.tuple #[.slice none 0 0, .bool false]) w := lookup_nil Try.underlying98 Try.underlying3 (zero_bytes w) who true
  have hm : ∀ W, (binOp .eql 98 (.map none) (.map none)).run Try.prog W = .ok (.bool true) W := fun W => by kernel_rfl
  have hmm := @run_makeMap Try.prog
  have HH := hid hh
  have H1 := hid h1
  have H2 := hid h2
  have H3 := hid h3
  have Hz := hid hz
  have Hv := hid hv
  clear h h2 h3 hz hh hv
  go_enter Try.func70, Try.ntmps70
  go_wp2_with (at_mapUpdate; refine wpList_mapUpdate_imap _ rfl _ _ _ 95 rfl 3 98 Try.underlying95 Try.underlying3 bm _ view _ rfl rfl rfl (h1.alloc _) ?_; intro w1 hm1 ho1 hs1; change IMap w1 bm (put _ view (.map (some w.heap.size))) at hm1)
  clear h1
  have hsz : w.heap.size < w1.heap.size := by rw [hs1]; simp
  have hnew : IMap w1 w.heap.size [] := (IMap.made w).keep ho1 (by omega)
  have e1 : ∀ W, Off (fun k => k = w.heap.size) w1 W → (Instr.lookup 95 (.map (some bm)) (.int .i64 view) false).run Try.prog W = .ok (.map (some w.heap.size)) W := fun W hW => by
    have := (hm1.keep hW (by omega)).lookup (P := Try.prog) Try.underlying95 Try.underlying3 (zero_told W) view false
    rw [lookup_put, if_pos rfl] at this
    simpa using this
  have hb1 : Bs w1 Ov v l := (hb.below ((Below.refl _ w).alloc (Nat.le_refl _) _)).keep' ho1 (fun b c hc e => hc (by rw [e]; exact (H1.out.alloc _).nocell c))
  have HE := hid e1
  clear e1
  go_wp2_with fail
  go_region_held3 (fun W => (Instr.lookup 95 (.map (some bm)) (.int .i64 view) false).run Try.prog W = .ok (.map (some w.heap.size)) W ∧ Off (fun k => k = w.heap.size) w1 W)
    (first
      | exact ⟨HE.out _ (Off.refl _ _).drew, (Off.refl _ _).drew⟩
      | exact ⟨HE.out _ (Off.of_below hw2).drew_l, (Off.of_below hw2).drew_l⟩
      | exact ⟨HE.out _ ((Off.of_below hw2).drew_l.trans ho3 (fun _ _ h => h)), (Off.of_below hw2).drew_l.trans ho3 (fun _ _ h => h)⟩)
    (first
      | (go_at_call 52; refine (clone_any _ hb1.drew hl).mono ?_; rintro e w2 ⟨v', rfl, hb2, hw2⟩; obtain ⟨w3, hrun3, hm3, ho3, hs3⟩ := (hnew.drew.below hw2).update (P := Try.prog) Try.underlying98 Try.underlying3 who v'))
  all_goals
    go_wp2
    go_ret
    refine ⟨by rw [HH.out]; rfl, ?_⟩
    rw [HH.out]
    exact view_close H1.out hlt hr H2.out H3.out hk10 Hz.out hm1 ho1 hb2 (Off.of_below hw2).drew_l hm3 ho3
/-- vote.set. -/
theorem set_any {ρ : Roles} {i kind bm : Nat} {t : TM} {view who : Int} {v : Value} {l : List UInt8} {Ov : Nat → Prop} (w : World) (hk10 : 10 ≤ kind) (h : Outer w ρ i kind bm t)
    (hb : Bs w Ov v l) (hl : l.length ≤ 140737488355328) :
    Calls Try.prog 70 #[.map (some bm), .int .i64 view, .int .i64 who, v] w (SetPost w ρ i kind bm t view who l) := by
  cases hv : t.lookup view with
  | none => exact set_view w hk10 h hv hb hl
  | some x =>
    cases hh : hasT t view who with
    | true => exact set_there w h hh
    | false => exact set_peer w h hh (by rw [hv]; rfl) hb hl
end Go.Proofs.Ytkkmkkgjpmlhaaa
