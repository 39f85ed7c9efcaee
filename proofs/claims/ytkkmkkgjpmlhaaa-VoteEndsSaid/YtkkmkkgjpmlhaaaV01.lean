/- The maps of a core as lists; vote.set. 'slices.Sorted(maps.Keys(m))' at a core's maps. Ranging over a map with int keys: each entry comes once. told.count: the first value, by peers, that at least so many told. -/
import Derived.Test.YtkkmkkgjpmlhaaaV00
import Derived.Deep.RegionHeld3
import Derived.Test.YtkkmkkgjpmlhaaaShelf
import Derived.Maps.RangeWalk
import Derived.Deep.LoopGhost
import Derived.LoopTactic
namespace Go.Proofs.Ytkkmkkgjpmlhaaa
open Go.RowKit Go.MapKept

/-- To each block its owner, its kind, and a view. -/
abbrev Roles := Nat → Nat × Nat × Int
/-- Of the old blocks the roles stay. -/
def Agr (w : World) (ρ ρ' : Roles) : Prop := ∀ k, k < w.heap.size → ρ' k = ρ k
theorem Agr.refl (w : World) (ρ : Roles) : Agr w ρ ρ := fun _ _ => rfl
theorem Agr.trans {w w1 : World} {ρ ρ1 ρ2 : Roles} (h : Agr w ρ ρ1) (k : Agr w1 ρ1 ρ2) (hs : w.heap.size ≤ w1.heap.size) : Agr w ρ ρ2 :=
  fun b hb => (k b (Nat.lt_of_lt_of_le hb hs)).trans (h b hb)

/-- A map of what was told: values by peers. -/
def Told (w : World) (O : Nat → Prop) (b : Nat) (t : List (Int × List UInt8)) : Prop :=
  ∃ z : List (Int × (Value × List UInt8)), IMap w b (mv (·.1) z) ∧ t = mv (·.2) z ∧ ∀ p ∈ z, Bs w O p.2.1 p.2.2

/-- A map of such maps: by views. -/
def Outer (w : World) (ρ : Roles) (i kind b : Nat) (t : List (Int × List (Int × List UInt8))) : Prop :=
  ρ b = (i, kind, 0) ∧ ∃ z : List (Int × (Nat × List (Int × List UInt8))), IMap w b (mv (fun x => .map (some x.1)) z) ∧ t = mv (·.2) z ∧
    ∀ p ∈ z, ρ p.2.1 = (i, kind + 100, p.1) ∧ Told w (fun k => ρ k = (i, 2, 0)) p.2.1 p.2.2

section
variable {w w1 : World} {O O' F : Nat → Prop} {ρ ρ' : Roles} {i kind b : Nat} {t : List (Int × List UInt8)} {tm : List (Int × List (Int × List UInt8))}
theorem Told.lt (h : Told w O b t) : b < w.heap.size := by obtain ⟨z, h, _⟩ := h; exact h.lt
theorem Told.keep (h : Told w O b t) (ho : Off F w w1) (hb : ¬ F b) (hf : ∀ k, k < w.heap.size → O k → ¬ F k) : Told w1 O b t := by
  obtain ⟨z, h1, h2, h3⟩ := h
  exact ⟨z, h1.keep ho hb, h2, fun p hp => (h3 p hp).keep ho hf⟩
theorem Told.mono (h : Told w O b t) (ho : ∀ k, k < w.heap.size → O k → O' k) : Told w O' b t := by
  obtain ⟨z, h1, h2, h3⟩ := h
  exact ⟨z, h1, h2, fun p hp => (h3 p hp).mono ho⟩
theorem Outer.lt (h : Outer w ρ i kind b tm) : b < w.heap.size := by obtain ⟨_, z, h, _⟩ := h; exact h.lt
theorem Outer.keep (h : Outer w ρ i kind b tm) (ho : Off F w w1) (ha : Agr w ρ ρ') (hf : ∀ k, k < w.heap.size → F k → ρ k ≠ (i, kind, 0) ∧ (∀ v, ρ k ≠ (i, kind + 100, v)) ∧ ρ k ≠ (i, 2, 0)) : Outer w1 ρ' i kind b tm := by
  obtain ⟨h0, z, h1, h2, h3⟩ := h
  refine ⟨(ha b h1.lt).trans h0, z, h1.keep ho (fun f => (hf b h1.lt f).1 h0), h2, fun p hp => ?_⟩
  obtain ⟨r1, r2⟩ := h3 p hp
  have hlt := r2.lt
  exact ⟨(ha _ hlt).trans r1, (r2.mono (O' := fun k => ρ' k = (i, 2, 0)) (fun k hk hO => (ha k hk).trans hO)).keep ho (fun f => (hf _ hlt f).2.1 _ r1) (fun k hk hO f => (hf k hk f).2.2 ((ha k hk).symm.trans hO))⟩
end

/-! ### vote.set -/

def SetPost (w : World) (ρ : Roles) (i kind bm : Nat) (t : TM) (view who : Int) (l : List UInt8) (e : Ending) (w' : World) : Prop :=
  e = .returned (.bool (!hasT t view who)) ∧ ∃ ρ', Agr w ρ ρ' ∧ Outer w' ρ' i kind bm (if hasT t view who then t else setT t view who l) ∧
    Off (fun k => ρ k = (i, kind, 0) ∨ ρ k = (i, kind + 100, view)) w w'

theorem zero_told (w : World) : (zeroValue 98).run Try.prog w = .ok (.map none) w := by kernel_rfl
theorem zero_bytes (w : World) : (zeroValue 29).run Try.prog w = .ok (.slice none 0 0) w := by kernel_rfl

/-- A look-up in the nil map. -/
theorem lookup_nil {P : Program} {w : World} {t tk e : TypeId} {z : Value} (ht : P.underlying t = some (.map tk e)) (hk : P.underlying tk = some (.int .i64)) (hz : (zeroValue e).run P w = .ok z w) (k : Int) (c : Bool) :
    (Instr.lookup t (.map none) (.int .i64 k) c).run P w = .ok (if c then .tuple #[z, .bool false] else z) w := by
  have hck := run_checkKey (w := w) (k := .int .i64 k) hk (by simp [IsKey]) true 9999
  have hf := run_findKey (P := P) (w := w) (l := []) (k := .int .i64 k) hk (a := none) rfl
  simp [Instr.lookup, run_underlying ht, hck, hf, hz, Result.andThen]

/-- It is there: nothing turns. -/
theorem set_there {ρ : Roles} {i kind bm : Nat} {t : TM} {view who : Int} {v : Value} {l : List UInt8} (w : World) (h : Outer w ρ i kind bm t) (hh : hasT t view who = true) :
    Calls Try.prog 70 #[.map (some bm), .int .i64 view, .int .i64 who, v] w (SetPost w ρ i kind bm t view who l) := by
  obtain ⟨hr, z, h1, h2, h3⟩ := id h
  have hl1 : ∃ bi ti, z.lookup view = some (bi, ti) := by
    cases hz : z.lookup view with
    | none =>
      have : t.lookup view = none := by rw [h2, lookup_mv, hz]; rfl
      simp [hasT, inner, this] at hh
    | some x => exact ⟨x.1, x.2, rfl⟩
  obtain ⟨bi, ti, hz⟩ := hl1
  obtain ⟨hri, zi, hi1, hi2, hi3⟩ := h3 _ (lookup_mem hz)
  dsimp only at hri hi1 hi2
  have hin : inner t view = ti := by unfold inner; rw [h2, lookup_mv, hz]; rfl
  have hl2 : ∃ vv, zi.lookup who = some vv := by
    cases hz2 : zi.lookup who with
    | none => rw [hasT, hin, hi2, lookup_mv, hz2] at hh; cases hh
    | some x => exact ⟨x, rfl⟩
  obtain ⟨vv, hz2⟩ := hl2
  have e1 := h1.lookup (P := Try.prog) Try.underlying95 Try.underlying3 (zero_told w) view false
  have e2 := hi1.lookup (P := Try.prog) Try.underlying98 Try.underlying3 (zero_bytes w) who true
  rw [lookup_mv, hz] at e1
  rw [lookup_mv, hz2] at e2
  simp only [Option.map_some, Option.getD_some, Option.isSome_some, if_true, Bool.false_eq_true, if_false] at e1 e2
  have H := hid h
  have HH := hid hh
  clear h h1 h2 h3 hri hi1 hi2 hi3 hz hz2 hin hr hh
  go_enter Try.func70, Try.ntmps70
  go_wp2
  go_ret
  exact ⟨by rw [HH.out]; rfl, ρ, Agr.refl _ _, by rw [if_pos HH.out]; exact H.out, Off.refl _ _⟩

/-- The roles, and one more. -/
def Roles.with (ρ : Roles) (k : Nat) (r : Nat × Nat × Int) : Roles := fun j => if j = k then r else ρ j
/-- The roles, and what lies from one size to another is bytes. -/
def Roles.fresh (ρ : Roles) (i a b : Nat) : Roles := fun j => if a ≤ j ∧ j < b then (i, 2, 0) else ρ j

/-- What the store of a peer's value into an inner map leaves. -/
theorem set_close {ρ : Roles} {i kind bm bi : Nat} {t : TM} {view who : Int} {l : List UInt8} {w w1 w2 : World} {z : List (Int × (Nat × List (Int × List UInt8)))} {zi : List (Int × (Value × List UInt8))} {v' : Value}
    (hr : ρ bm = (i, kind, 0)) (h1 : IMap w bm (mv (fun x => .map (some x.1)) z)) (h2 : t = mv (·.2) z) (h3 : ∀ p ∈ z, ρ p.2.1 = (i, kind + 100, p.1) ∧ Told w (fun k => ρ k = (i, 2, 0)) p.2.1 p.2.2)
    (hz : z.lookup view = some (bi, mv (·.2) zi)) (hi3 : ∀ p ∈ zi, Bs w (fun k => ρ k = (i, 2, 0)) p.2.1 p.2.2)
    (hb1 : Bs w1 (fun b => w.heap.size ≤ b) v' l) (hw1 : Off (fun k => k = bi) w w1) (hm2 : IMap w2 bi (put (mv (·.1) zi) who v')) (ho2 : Off (fun k => k = bi) w1 w2) :
    ∃ ρ', Agr w ρ ρ' ∧ Outer w2 ρ' i kind bm (setT t view who l) ∧ Off (fun k => ρ k = (i, kind, 0) ∨ ρ k = (i, kind + 100, view)) w w2 := by
  obtain ⟨hri, _⟩ := h3 _ (lookup_mem hz)
  dsimp only at hri
  have hne : bm ≠ bi := by rintro rfl; rw [hr] at hri; simp at hri
  have hnb : ∀ k, ρ k = (i, 2, 0) → k ≠ bi := by rintro k hk rfl; rw [hk] at hri; simp at hri
  have hoff : Off (fun k => k = bi) w w2 := hw1.trans ho2 (fun _ _ h => h)
  have hag : Agr w ρ (ρ.fresh i w.heap.size w2.heap.size) := fun k hk => by
    unfold Roles.fresh; rw [if_neg (by omega)]
  have hbyte : ∀ k, k < w.heap.size → ρ k = (i, 2, 0) → (ρ.fresh i w.heap.size w2.heap.size) k = (i, 2, 0) := fun k hk h => (hag k hk).trans h
  refine ⟨_, hag, ⟨(hag bm h1.lt).trans hr, put z view (bi, put (mv (·.2) zi) who l), ?_, ?_, ?_⟩, hoff.mono (fun k _ hk => by subst hk; exact .inr hri)⟩
  · rw [mv_put, put_self (by rw [mv_keys]; have := h1.nodup; rwa [mv_keys] at this) (by rw [lookup_mv, hz]; rfl)]
    exact h1.keep hoff hne
  · have hin : inner t view = mv (·.2) zi := by unfold inner; rw [h2, lookup_mv, hz]; rfl
    rw [mv_put, setT, hin, h2]
  · intro p hp
    rcases mem_put hp with rfl | ⟨hp, hpv⟩
    · refine ⟨(hag _ (by have := (h3 _ (lookup_mem hz)).2.lt; exact this)).trans hri, put zi who (v', l), by rw [mv_put]; exact hm2, by rw [mv_put], fun q hq => ?_⟩
      rcases mem_put hq with rfl | ⟨hq, _⟩
      · exact ((hb1.keep ho2 (fun b _ hb e => by subst e; have := (h3 _ (lookup_mem hz)).2.lt; dsimp only at this; omega))).mono (fun b hb hwb => by unfold Roles.fresh; rw [if_pos ⟨hwb, hb⟩])
      · exact ((hi3 q hq).mono hbyte).keep hoff (fun b hb hO => by rw [hag b hb] at hO; exact hnb b hO)
    · obtain ⟨r1, r2⟩ := h3 p hp
      refine ⟨(hag _ r2.lt).trans r1, (r2.mono hbyte).keep hoff (fun e => by rw [e, hri] at r1; simp at r1; exact hpv r1.symm) (fun k hk hO => by rw [hag k hk] at hO; exact hnb k hO)⟩

set_option maxRecDepth 100000 in
/-- The view is there, the peer isn't. -/
theorem set_peer {ρ : Roles} {i kind bm : Nat} {t : TM} {view who : Int} {v : Value} {l : List UInt8} {Ov : Nat → Prop} (w : World) (h : Outer w ρ i kind bm t) (hh : hasT t view who = false) (hv : (t.lookup view).isSome = true)
    (hb : Bs w Ov v l) (hl : l.length ≤ 140737488355328) :
    Calls Try.prog 70 #[.map (some bm), .int .i64 view, .int .i64 who, v] w (SetPost w ρ i kind bm t view who l) := by
  obtain ⟨hr, z, h1, h2, h3⟩ := id h
  have hl1 : ∃ bi ti, z.lookup view = some (bi, ti) := by
    cases hz : z.lookup view with
    | none => rw [h2, lookup_mv, hz] at hv; cases hv
    | some x => exact ⟨x.1, x.2, rfl⟩
  obtain ⟨bi, ti, hz⟩ := hl1
  obtain ⟨hri, zi, hi1, hi2, hi3⟩ := h3 _ (lookup_mem hz)
  dsimp only at hri hi1 hi2
  have hin : inner t view = ti := by unfold inner; rw [h2, lookup_mv, hz]; rfl
  have hz2 : zi.lookup who = none := by
    cases hz2 : zi.lookup who with
    | none => rfl
    | some x => rw [hasT, hin, hi2, lookup_mv, hz2] at hh; cases hh
  have e1 : ∀ W, Off (fun k => k = bi) w W → (Instr.lookup 95 (.map (some bm)) (.int .i64 view) false).run Try.prog W = .ok (.map (some bi)) W := fun W hW => by
    have := (h1.keep hW (by rintro rfl; rw [hr] at hri; simp at hri)).lookup (P := Try.prog) Try.underlying95 Try.underlying3 (zero_told W) view false
    rw [lookup_mv, hz] at this
    simpa using this
  have e2 := hi1.lookup (P := Try.prog) Try.underlying98 Try.underlying3 (zero_bytes w) who true
  rw [lookup_mv, hz2] at e2
  simp only [Option.map_none, Option.getD_none, Option.isSome_none, if_true] at e2
  have e0 := e1 w (Off.refl _ _)
  have H1 := hid e1
  have hm : ∀ W, (binOp .eql 98 (.map (some bi)) (.map none)).run Try.prog W = .ok (.bool false) W := fun W => by kernel_rfl
  have Hz := hid hz
  have HH := hid hh
  clear e1 hz2 hz hin hh
  have Hi := hid hi1
  have H1m := hid h1
  have H2 := hid h2
  have H3 := hid h3
  clear h h1 h2 h3 hi1
  go_enter Try.func70, Try.ntmps70
  go_wp2_with fail
  go_region_held3 (fun W => (Instr.lookup 95 (.map (some bm)) (.int .i64 view) false).run Try.prog W = .ok (.map (some bi)) W ∧ Off (fun k => k = bi) w W)
    (first
      | exact ⟨H1.out _ (Off.refl _ _).drew, (Off.refl _ _).drew⟩
      | exact ⟨H1.out _ (Off.of_below hw1).drew_l, (Off.of_below hw1).drew_l⟩
      | exact ⟨H1.out _ ((Off.of_below hw1).drew_l.trans ho2 (fun _ _ h => h)), (Off.of_below hw1).drew_l.trans ho2 (fun _ _ h => h)⟩)
    (first
      | (go_at_call 52; refine (clone_any _ hb.drew hl).mono ?_; rintro e w1 ⟨v', rfl, hb1, hw1⟩; obtain ⟨w2, hrun2, hm2, ho2, hs2⟩ := (Hi.out.drew.below hw1).update (P := Try.prog) Try.underlying98 Try.underlying3 who v'))
  all_goals
    go_wp2
    go_ret
    refine ⟨by rw [HH.out]; rfl, ?_⟩
    rw [HH.out]
    exact set_close hr H1m.out H2.out H3.out (hi2 ▸ Hz.out) hi3 hb1 (Off.of_below hw1).drew_l hm2 ho2

/-- What the making of a view's map and a store into it leave. -/
theorem view_close {ρ : Roles} {i kind bm : Nat} {t : TM} {view who : Int} {l : List UInt8} {w w1 w2 w3 : World} {z : List (Int × (Nat × List (Int × List UInt8)))} {v' : Value} {o : Obj}
    (h1 : IMap w bm (mv (fun x => .map (some x.1)) z)) (hlt : bm < w.heap.size) (hr : ρ bm = (i, kind, 0)) (h2 : t = mv (·.2) z) (h3 : ∀ p ∈ z, ρ p.2.1 = (i, kind + 100, p.1) ∧ Told w (fun k => ρ k = (i, 2, 0)) p.2.1 p.2.2)
    (hk10 : 10 ≤ kind) (hz : z.lookup view = none) (hm1 : IMap w1 bm (put (mv (fun x => .map (some x.1)) z) view (.map (some w.heap.size)))) (ho1 : Off (fun k => k = bm) (w.alloc o) w1)
    (hb2 : Bs w2 (fun b => w1.heap.size ≤ b) v' l) (hw2 : Off (fun k => k = w.heap.size) w1 w2) (hm3 : IMap w3 w.heap.size (put [] who v')) (ho3 : Off (fun k => k = w.heap.size) w2 w3) :
    ∃ ρ', Agr w ρ ρ' ∧ Outer w3 ρ' i kind bm (setT t view who l) ∧ Off (fun k => ρ k = (i, kind, 0) ∨ ρ k = (i, kind + 100, view)) w w3 := by
  have hoff01 : Off (fun k => k = bm) w w1 := ⟨ho1.os, ho1.tape, ho1.output, Nat.le_trans (by simp) ho1.size, fun b hb hf => (ho1.block b (by simp; omega) hf).trans (Below.heap_alloc w o b hb)⟩
  have hoff13 : Off (fun k => k = w.heap.size) w1 w3 := hw2.trans ho3 (fun _ _ h => h)
  have hoff : Off (fun k => k = bm) w w3 := hoff01.trans hoff13 (fun b hb e => by omega)
  have hsz1 : w.heap.size < w1.heap.size := Nat.lt_of_lt_of_le (by simp) ho1.size
  have hag : Agr w ρ (Roles.with (ρ.fresh i w.heap.size w3.heap.size) w.heap.size (i, kind + 100, view)) := fun k hk => by
    unfold Roles.with Roles.fresh; rw [if_neg (by omega), if_neg (by omega)]
  have hbyte : ∀ k, k < w.heap.size → ρ k = (i, 2, 0) → (Roles.with (ρ.fresh i w.heap.size w3.heap.size) w.heap.size (i, kind + 100, view)) k = (i, 2, 0) := fun k hk h => (hag k hk).trans h
  have hnz : ∀ p ∈ z, p.1 ≠ view := fun p hp e => by
    have h := any_lookup z view
    rw [hz] at h
    simp only [Option.isSome_none, List.any_eq_false] at h
    exact h p hp (by simpa using e)
  refine ⟨_, hag, ⟨(hag bm hlt).trans hr, put z view (w.heap.size, put [] who l), ?_, ?_, ?_⟩, hoff.mono (fun k _ hk => by subst hk; exact .inl hr)⟩
  · rw [mv_put]; exact hm1.keep hoff13 (by omega)
  · have hin : inner t view = [] := by unfold inner; rw [h2, lookup_mv, hz]; rfl
    rw [mv_put, setT, hin, h2]
  · intro p hp
    rcases mem_put hp with rfl | ⟨hp, hpv⟩
    · refine ⟨by unfold Roles.with; simp, put [] who (v', l), by rw [mv_put]; exact hm3, by rw [mv_put]; rfl, fun q hq => ?_⟩
      rcases mem_put hq with rfl | ⟨hq, _⟩
      · exact (hb2.keep ho3 (fun b _ hb e => by omega)).mono (fun b hb hwb => by unfold Roles.with Roles.fresh; rw [if_neg (by omega), if_pos ⟨by omega, hb⟩])
      · cases hq
    · obtain ⟨r1, r2⟩ := h3 p hp
      refine ⟨(hag _ r2.lt).trans r1, (r2.mono hbyte).keep hoff (fun e => by rw [e, hr] at r1; simp at r1) (fun k hk hO e => by rw [hag k hk, e, hr] at hO; simp at hO; omega)⟩

set_option maxRecDepth 100000 in
/-- Nothing is there of the view. -/
theorem set_view {ρ : Roles} {i kind bm : Nat} {t : TM} {view who : Int} {v : Value} {l : List UInt8} {Ov : Nat → Prop} (w : World) (hk10 : 10 ≤ kind) (h : Outer w ρ i kind bm t) (hv : t.lookup view = none)
    (hb : Bs w Ov v l) (hl : l.length ≤ 140737488355328) :
    Calls Try.prog 70 #[.map (some bm), .int .i64 view, .int .i64 who, v] w (SetPost w ρ i kind bm t view who l) := by
  obtain ⟨hr, z, h1, h2, h3⟩ := id h
  have hh : hasT t view who = false := by simp [hasT, inner, hv]
  have hz : z.lookup view = none := by
    cases hz : z.lookup view with
    | none => rfl
    | some x => rw [h2, lookup_mv, hz] at hv; cases hv
  have hlt := h1.lt
  have e0 : (Instr.lookup 95 (.map (some bm)) (.int .i64 view) false).run Try.prog w = .ok (.map none) w := by
    have := h1.lookup (P := Try.prog) Try.underlying95 Try.underlying3 (zero_told w) view false
    rw [lookup_mv, hz] at this
    simpa using this
  have e2 : (Instr.lookup 98 (.map none) (.int .i64 who) true).run Try.prog w = .ok (.tuple #[.slice none 0 0, .bool false]) w := lookup_nil Try.underlying98 Try.underlying3 (zero_bytes w) who true
  have hm : ∀ W, (binOp .eql 98 (.map none) (.map none)).run Try.prog W = .ok (.bool true) W := fun W => by kernel_rfl
  have hmm := @run_makeMap Try.prog
  have HH := hid hh
  have H1 := hid h1
  have H2 := hid h2
  have H3 := hid h3
  have Hz := hid hz
  have Hv := hid hv
  clear h h2 h3 hz hh hv
  go_enter Try.func70, Try.ntmps70
  go_wp2_with (at_mapUpdate; refine wpList_mapUpdate_imap _ rfl _ _ _ 95 rfl 3 98 Try.underlying95 Try.underlying3 bm _ view _ rfl rfl rfl (h1.alloc _) ?_; intro w1 hm1 ho1 hs1; change IMap w1 bm (put _ view (.map (some w.heap.size))) at hm1)
  clear h1
  have hsz : w.heap.size < w1.heap.size := by rw [hs1]; simp
  have hnew : IMap w1 w.heap.size [] := (IMap.made w).keep ho1 (by omega)
  have e1 : ∀ W, Off (fun k => k = w.heap.size) w1 W → (Instr.lookup 95 (.map (some bm)) (.int .i64 view) false).run Try.prog W = .ok (.map (some w.heap.size)) W := fun W hW => by
    have := (hm1.keep hW (by omega)).lookup (P := Try.prog) Try.underlying95 Try.underlying3 (zero_told W) view false
    rw [lookup_put, if_pos rfl] at this
    simpa using this
  have hb1 : Bs w1 Ov v l := (hb.below ((Below.refl _ w).alloc (Nat.le_refl _) _)).keep' ho1 (fun b c hc e => hc (by rw [e]; exact (H1.out.alloc _).nocell c))
  have HE := hid e1
  clear e1
  go_wp2_with fail
  go_region_held3 (fun W => (Instr.lookup 95 (.map (some bm)) (.int .i64 view) false).run Try.prog W = .ok (.map (some w.heap.size)) W ∧ Off (fun k => k = w.heap.size) w1 W)
    (first
      | exact ⟨HE.out _ (Off.refl _ _).drew, (Off.refl _ _).drew⟩
      | exact ⟨HE.out _ (Off.of_below hw2).drew_l, (Off.of_below hw2).drew_l⟩
      | exact ⟨HE.out _ ((Off.of_below hw2).drew_l.trans ho3 (fun _ _ h => h)), (Off.of_below hw2).drew_l.trans ho3 (fun _ _ h => h)⟩)
    (first
      | (go_at_call 52; refine (clone_any _ hb1.drew hl).mono ?_; rintro e w2 ⟨v', rfl, hb2, hw2⟩; obtain ⟨w3, hrun3, hm3, ho3, hs3⟩ := (hnew.drew.below hw2).update (P := Try.prog) Try.underlying98 Try.underlying3 who v'))
  all_goals
    go_wp2
    go_ret
    refine ⟨by rw [HH.out]; rfl, ?_⟩
    rw [HH.out]
    exact view_close H1.out hlt hr H2.out H3.out hk10 Hz.out hm1 ho1 hb2 (Off.of_below hw2).drew_l hm3 ho3
/-- vote.set. -/
theorem set_any {ρ : Roles} {i kind bm : Nat} {t : TM} {view who : Int} {v : Value} {l : List UInt8} {Ov : Nat → Prop} (w : World) (hk10 : 10 ≤ kind) (h : Outer w ρ i kind bm t)
    (hb : Bs w Ov v l) (hl : l.length ≤ 140737488355328) :
    Calls Try.prog 70 #[.map (some bm), .int .i64 view, .int .i64 who, v] w (SetPost w ρ i kind bm t view who l) := by
  cases hv : t.lookup view with
  | none => exact set_view w hk10 h hv hb hl
  | some x =>
    cases hh : hasT t view who with
    | true => exact set_there w h hh
    | false => exact set_peer w h hh (by rw [hv]; rfl) hb hl
end Go.Proofs.Ytkkmkkgjpmlhaaa
namespace Go.Proofs.Ytkkmkkgjpmlhaaa
open Go.RowKit Go.MapKept Go.Maps Go.Sort Go.Shelf

/-- A slice of ints in blocks from 'base' on that reads as a list. -/
def Zs (w : World) (base : Nat) (v : Value) (l : List Int) : Prop :=
  ∃ A cap, v = .slice A l.length cap ∧ l.length ≤ cap ∧ (0 < l.length → ∃ b, A = some ⟨b, 0, none⟩ ∧ base ≤ b ∧ ∀ j u, l[j]? = some u → w.cell? ⟨b, j, none⟩ = some (.int .i64 u))

theorem Zs.of_own {w : World} {base n : Nat} {e : TypeId} {v : Value} {l : List Int} (h : w.ownsRow base e 1 v n (l.map encZ)) : Zs w base v l := by
  obtain ⟨hl, h | ⟨g, cap, cur, rfl, hg, hb, hn, _, _, ht⟩⟩ := h
  · obtain ⟨rfl, rfl⟩ := h
    have : l = [] := by simpa using hl
    subst this
    exact ⟨none, 0, rfl, Nat.le_refl _, fun h => absurd h (by simp)⟩
  · have hl' : l.length = n := by simpa using hl
    subst hl'
    refine ⟨some ⟨g, 0, none⟩, cap, rfl, hn, fun _ => ⟨g, rfl, hg, fun j u hu => ?_⟩⟩
    simp only [World.cell?, hb, Option.isSome_none, Bool.false_eq_true, if_false]
    have e1 : (cur.toList.take (l.length * 1))[j]? = some (Value.int .i64 u) := by rw [ht]; simp [hu]
    have hj : j < l.length := (List.getElem?_eq_some_iff.1 hu).1
    rw [List.getElem?_take, if_pos (by omega)] at e1
    simpa using e1
theorem Zs.keep {F : Nat → Prop} {w w1 : World} {base : Nat} {v : Value} {l : List Int} (h : Zs w base v l) (ho : Off F w w1) (hf : ∀ b, b < w.heap.size → base ≤ b → ¬ F b) : Zs w1 base v l := by
  obtain ⟨A, cap, rfl, h1, h2⟩ := h
  refine ⟨A, cap, rfl, h1, fun hl => ?_⟩
  obtain ⟨b, rfl, hb, hc⟩ := h2 hl
  exact ⟨b, rfl, hb, fun j u hu => ho.cell_some (hc j u hu) (hf b (World.block_lt_of_cell? w _ (hc j u hu)) hb)⟩
theorem Zs.below {w w1 : World} {base : Nat} {v : Value} {l : List Int} (h : Zs w base v l) (hb : Below w.heap.size w w1) : Zs w1 base v l := h.keep (Off.of_below (F := fun _ => False) hb) (fun _ _ _ f => f)

/-- How a value of a map reads here: as itself. -/
def asHeld (v : Value) : Option (DataW Value × List MemPlace) := some (.held v, [])

theorem IMap.owns {w : World} {b : Nat} {m : List (Int × Value)} (h : IMap w b m) (hsz : m.length ≤ maxLen) (hwf : ∀ p ∈ m, (Lit.int .i64 p.1).wf = true) :
    ∃ D : DataW Value, w.ownsMap Try.prog 3 asHeld b m.length D ∧ (intKeys D).Perm (m.map (·.1)) ∧ Maps.size D = m.length := by
  obtain ⟨es, clock, hb, hs, hm⟩ := h
  have hlen : es.toList.length = m.length := by simpa using congrArg List.length hm
  have hrd : ∀ x ∈ es.toList, ∃ k : Int, x.key = .int .i64 k ∧ (Lit.int .i64 k).wf = true := fun x hx => by
    have : (x.key, x.val) ∈ m.map (fun p => (Value.int .i64 p.1, p.2)) := by rw [← hm]; exact List.mem_map.2 ⟨x, hx, rfl⟩
    obtain ⟨p, hp, e⟩ := List.mem_map.1 this
    simp only [Prod.mk.injEq] at e
    exact ⟨p.1, e.1.symm, hwf p hp⟩
  have hes : es.size = es.toList.length := by simp
  have hfit : Go.WideElems.Fit Try.prog 3 asHeld es clock := ⟨by omega, hs, fun x hx => by
    obtain ⟨k, hk, hw⟩ := hrd x hx
    exact ⟨_, Go.WideElems.rd_mk (by rw [hk]; exact keyOf_int_mk Try.underlying3 hw) rfl⟩⟩
  refine ⟨_, ⟨es, clock, hb, hfit, by omega, rfl⟩, ?_, ?_⟩
  · show (((es.toList.map (Go.WideElems.rg Try.prog 3 asHeld)).foldr DataW.insert []).map fun p => Go.intOf p.1).Perm _
    refine ((Go.WideShapes.sorted_perm _).map _).trans ?_
    have e : (es.toList.map (Go.WideElems.rg Try.prog 3 (asHeld))).map (fun p => Go.intOf p.1) = m.map (·.1) := by
      rw [List.map_map]
      have e2 : m.map (·.1) = (m.map (fun p => (Value.int .i64 p.1, p.2))).map (fun q => match q.1 with | .int _ k => k | _ => 0) := by
        rw [List.map_map]; apply List.map_congr_left; intro p _; rfl
      rw [e2, ← hm, List.map_map]
      apply List.map_congr_left
      intro x hx
      obtain ⟨k, hk, hw⟩ := hrd x hx
      simp only [Function.comp]
      rw [Go.WideElems.rg_of (Go.WideElems.rd_mk (by rw [hk]; exact keyOf_int_mk Try.underlying3 hw) rfl), hk]
      rfl
    rw [e]
  · show ((es.toList.map (Go.WideElems.rg Try.prog 3 asHeld)).foldr DataW.insert []).length = _
    rw [length_sorted]
    simpa using hlen

/-- slices.Sort's two contracts at this dump. -/
theorem sortsIn (m : Nat) : AnyZI.SortsIn Try.prog Try.sorted_ren Fence.wide m :=
  ⟨fun blk off cap ss W hH hblk hsz => callsIn_wide.2 (AnyM.slices_Sort_int Try.sort blk off cap ss W hH hblk hsz),
   fun p cap W => callsIn_wide.2 (AnyM.slices_Sort_int_none Try.sort p cap W)⟩

def SortedPost {α : Type} (w : World) (m : List (Int × α)) (e : Ending) (w' : World) : Prop :=
  ∃ v, e = .returned v ∧ Zs w' w.heap.size v (CoreM.keys m) ∧ Below w.heap.size w w'

theorem keysM_any (mb : Option Nat) (W : World) : Calls Try.prog 60 #[.map mb] W fun e w' => e = .returned (.func (.func 78) #[] #[.pointer (some ⟨W.heap.size, 0, none⟩)]) ∧ w' = W.alloc (.cells #[.map mb] 95) :=
  (callsIn_wide (n := 5)).1 (AnyZI.keys_in Try.keysM Fence.wide 5 trivial rfl mb W)

set_option maxHeartbeats 1000000 in
theorem sortedM_any (b : Nat) (m : List (Int × Value)) (w : World) (h : IMap w b m) (hsz : m.length ≤ 17592186044416) (hwf : ∀ p ∈ m, (Lit.int .i64 p.1).wf = true) :
    Calls Try.prog 59 #[.func (.func 78) #[] #[.pointer (some ⟨w.heap.size, 0, none⟩)]] (w.alloc (.cells #[.map (some b)] 95)) (SortedPost w m) := by
  obtain ⟨D, hown, hperm, hsize⟩ := h.owns (by unfold maxLen; omega) hwf
  have hlt := h.lt
  refine (callsIn_wide (n := 5)).1 ?_
  have hseq : SeqGives Fence.wide 2 Try.prog 78 #[.pointer (some ⟨w.heap.size, 0, none⟩)] encZ (fun ss => ss.Perm (intKeys D)) (Maps.size D) (w.alloc (.cells #[.map (some b)] 95)) :=
    AnyZI.keys_gives (ρ := Try.keysM_ren) { Try.keysM with } Fence.wide _ trivial rfl (by omega) w.heap.size b _ D _ (by simp) (by simp) (by
      obtain ⟨es, clock, hb, Ft, hs, hD⟩ := hown
      exact ⟨es, clock, (Below.heap_alloc _ _ b hlt).trans hb, Ft, hs, hD⟩)
  have cS := AnyZI.sorted_in Try.sorted Fence.wide 5 trivial trivial trivial trivial rfl (by omega) (sortsIn _) (enters_of Try.func77 (by kernel_rfl) rfl) 78 #[.pointer (some ⟨w.heap.size, 0, none⟩)] trivial (enters_of Try.func78 (by kernel_rfl) rfl) _ _ (by rw [hsize]; unfold maxLen; omega) (by rw [hsize]; omega) _ hseq
  change CallsIn _ _ Try.prog 59 _ _ _ at cS
  refine cS.mono ?_
  rintro e w' ⟨v, ss, rfl, hS, hrow, hnil, hb⟩
  refine ⟨v, rfl, ?_, ((Below.refl _ w).alloc (Nat.le_refl _) _).trans (hb.mono (by simp))⟩
  rw [show ss.mergeSort (fun x y => decide (x ≤ y)) = CoreM.keys m from (mergeSort_of_perm_i (hS.trans hperm)).trans (sortZ_eq _).symm] at hrow
  have := Zs.of_own hrow
  obtain ⟨A, cap, h1, h2, h3⟩ := this
  exact ⟨A, cap, h1, h2, fun hl => by obtain ⟨b, e, hb, hc⟩ := h3 hl; exact ⟨b, e, by simp at hb; omega, hc⟩⟩

theorem keysT_any (mb : Option Nat) (W : World) : Calls Try.prog 97 #[.map mb] W fun e w' => e = .returned (.func (.func 110) #[] #[.pointer (some ⟨W.heap.size, 0, none⟩)]) ∧ w' = W.alloc (.cells #[.map mb] 98) :=
  (callsIn_wide (n := 5)).1 (AnyZI.keys_in Try.keysT Fence.wide 5 trivial rfl mb W)

set_option maxHeartbeats 1000000 in
theorem sortedT_any (b : Nat) (m : List (Int × Value)) (w : World) (h : IMap w b m) (hsz : m.length ≤ 17592186044416) (hwf : ∀ p ∈ m, (Lit.int .i64 p.1).wf = true) :
    Calls Try.prog 59 #[.func (.func 110) #[] #[.pointer (some ⟨w.heap.size, 0, none⟩)]] (w.alloc (.cells #[.map (some b)] 98)) (SortedPost w m) := by
  obtain ⟨D, hown, hperm, hsize⟩ := h.owns (by unfold maxLen; omega) hwf
  have hlt := h.lt
  refine (callsIn_wide (n := 5)).1 ?_
  have hseq : SeqGives Fence.wide 2 Try.prog 110 #[.pointer (some ⟨w.heap.size, 0, none⟩)] encZ (fun ss => ss.Perm (intKeys D)) (Maps.size D) (w.alloc (.cells #[.map (some b)] 98)) :=
    AnyZI.keys_gives (ρ := Try.keysT_ren) { Try.keysT with } Fence.wide _ trivial rfl (by omega) w.heap.size b _ D _ (by simp) (by simp) (by
      obtain ⟨es, clock, hb, Ft, hs, hD⟩ := hown
      exact ⟨es, clock, (Below.heap_alloc _ _ b hlt).trans hb, Ft, hs, hD⟩)
  have cS := AnyZI.sorted_in Try.sorted Fence.wide 5 trivial trivial trivial trivial rfl (by omega) (sortsIn _) (enters_of Try.func77 (by kernel_rfl) rfl) 110 #[.pointer (some ⟨w.heap.size, 0, none⟩)] trivial (enters_of Try.func110 (by kernel_rfl) rfl) _ _ (by rw [hsize]; unfold maxLen; omega) (by rw [hsize]; omega) _ hseq
  change CallsIn _ _ Try.prog 59 _ _ _ at cS
  refine cS.mono ?_
  rintro e w' ⟨v, ss, rfl, hS, hrow, hnil, hb⟩
  refine ⟨v, rfl, ?_, ((Below.refl _ w).alloc (Nat.le_refl _) _).trans (hb.mono (by simp))⟩
  rw [show ss.mergeSort (fun x y => decide (x ≤ y)) = CoreM.keys m from (mergeSort_of_perm_i (hS.trans hperm)).trans (sortZ_eq _).symm] at hrow
  have := Zs.of_own hrow
  obtain ⟨A, cap, h1, h2, h3⟩ := this
  exact ⟨A, cap, h1, h2, fun hl => by obtain ⟨b, e, hb, hc⟩ := h3 hl; exact ⟨b, e, by simp at hb; omega, hc⟩⟩

set_option maxHeartbeats 1000000 in
/-- .. at the nil map. -/
theorem sortedT_nil (w : World) :
    Calls Try.prog 59 #[.func (.func 110) #[] #[.pointer (some ⟨w.heap.size, 0, none⟩)]] (w.alloc (.cells #[.map none] 98)) fun e w' => e = .returned (.slice none 0 0) ∧ Below w.heap.size w w' := by
  refine (callsIn_wide (n := 5)).1 ?_
  have hseq : SeqGives Fence.wide 2 Try.prog 110 #[.pointer (some ⟨w.heap.size, 0, none⟩)] encZ (fun ss : List Int => ss = []) 0 (w.alloc (.cells #[.map none] 98)) :=
    AnyZI.keys_gives_nil (ρ := Try.keysT_ren) { Try.keysT with } Fence.wide _ trivial rfl w.heap.size _ (by simp) (by simp)
  have cS := AnyZI.sorted_in Try.sorted Fence.wide 5 trivial trivial trivial trivial rfl (by omega) (sortsIn _) (enters_of Try.func77 (by kernel_rfl) rfl) 110 #[.pointer (some ⟨w.heap.size, 0, none⟩)] trivial (enters_of Try.func110 (by kernel_rfl) rfl) _ 0 (Nat.zero_le _) (by omega) _ hseq
  change CallsIn _ _ Try.prog 59 _ _ _ at cS
  refine cS.mono ?_
  rintro e w' ⟨v, ss, rfl, rfl, hrow, hnil, hb⟩
  obtain rfl : v = .slice none 0 0 := hnil.2 rfl
  exact ⟨rfl, ((Below.refl _ w).alloc (Nat.le_refl _) _).trans (hb.mono (by simp))⟩
end Go.Proofs.Ytkkmkkgjpmlhaaa
namespace Go.Proofs.Ytkkmkkgjpmlhaaa
open Go.RowKit Go.MapKept

/-- Block r is a walk over the map in block b, whose entries are m; 'left' are to come. -/
def Ranging (w : World) (b r : Nat) (m left : List (Int × Value)) : Prop :=
  ∃ es clock since seen, w.heap[b]? = some (.map es clock) ∧ Stamped es clock ∧ es.toList.map (fun e => (e.key, e.val)) = m.map (fun p => (Value.int .i64 p.1, p.2)) ∧
    w.heap[r]? = some (.mapIter (some b) since seen clock) ∧ (∀ x ∈ es.toList, x.born < since) ∧ since ≤ clock ∧
    ((es.toList.filter fun e => !seen.contains e.born).map fun e => (e.key, e.val)).Perm (left.map fun p => (Value.int .i64 p.1, p.2))

section
variable {P : Program} {w w1 : World} {b r : Nat} {m left : List (Int × Value)}

theorem Ranging.imap (h : Ranging w b r m left) : IMap w b m := by
  obtain ⟨es, clock, since, seen, h1, h2, h3, _⟩ := h
  exact ⟨es, clock, h1, h2, h3⟩
theorem Ranging.ne (h : Ranging w b r m left) : b ≠ r := by
  obtain ⟨es, clock, since, seen, h1, _, _, h4, _⟩ := h
  rintro rfl
  rw [h1] at h4
  cases h4
theorem Ranging.lt (h : Ranging w b r m left) : r < w.heap.size := by
  obtain ⟨es, clock, since, seen, h1, _, _, h4, _⟩ := h
  exact heap_lt h4
theorem Ranging.keep {F : Nat → Prop} (h : Ranging w b r m left) (ho : Off F w w1) (hb : ¬ F b) (hr : ¬ F r) : Ranging w1 b r m left := by
  obtain ⟨es, clock, since, seen, h1, h2, h3, h4, h5⟩ := h
  exact ⟨es, clock, since, seen, ho.heap_some h1 hb, h2, h3, ho.heap_some h4 hr, h5⟩

/-- 'for .. := range m' begins. -/
theorem IMap.range {t k e : TypeId} (h : IMap w b m) (ht : P.underlying t = some (.map k e)) :
    ∃ w', (Instr.range t (.map (some b))).run P w = .ok (.pointer (some ⟨w.heap.size, 0, none⟩)) w' ∧ Ranging w' b w.heap.size m m ∧ Below w.heap.size w w' ∧ w'.heap.size = w.heap.size + 1 := by
  obtain ⟨es, clock, hb, hs, hm⟩ := h
  have hlt := heap_lt hb
  refine ⟨w.alloc (.mapIter (some b) clock #[] clock), by simp [Instr.range, run_underlying ht, MapKept.run_getObj_map hb, Result.andThen], ?_, (Below.refl _ w).alloc (Nat.le_refl _) _, by simp⟩
  refine ⟨es, clock, clock, #[], (Below.heap_alloc w _ b hlt).trans hb, hs, hm, (MapKept.heap_alloc w _).1, hs.1, Nat.le_refl _, ?_⟩
  rw [← hm]
  rw [List.filter_eq_self.2 (fun x _ => by simp)]

theorem filter_push (l : List MapEntry) (seen : Array Nat) (e : MapEntry) (hn : (l.map (·.born)).Nodup) (he : e ∈ l) (hs : seen.contains e.born = false) :
    (l.filter fun x => !seen.contains x.born).Perm (e :: l.filter fun x => !(seen.push e.born).contains x.born) := by
  induction l with
  | nil => cases he
  | cons x l ih =>
    simp only [List.map_cons, List.nodup_cons] at hn
    rcases List.mem_cons.1 he with rfl | he
    · have e1 : (l.filter fun x => !seen.contains x.born) = l.filter fun x => !(seen.push e.born).contains x.born := by
        apply List.filter_congr
        intro y hy
        have : y.born ≠ e.born := fun q => hn.1 (q ▸ List.mem_map.2 ⟨y, hy, rfl⟩)
        simp [this]
      rw [List.filter_cons, List.filter_cons]
      simp only [hs, Bool.not_false, if_true]
      rw [if_neg (by simp), e1]
    · have hne : x.born ≠ e.born := fun q => hn.1 (q ▸ List.mem_map.2 ⟨e, he, rfl⟩)
      have ih := ih hn.2 he
      rw [List.filter_cons, List.filter_cons]
      have e2 : (seen.push e.born).contains x.born = seen.contains x.born := by simp [hne]
      rw [e2]
      cases seen.contains x.born
      · simp only [Bool.not_false, if_true]
        exact (ih.cons x).trans (List.Perm.swap _ _ _)
      · simpa using ih

/-- The walk's step. -/
theorem Ranging.next (h : Ranging w b r m left) (ty : TypeId) :
    (left = [] ∧ (Instr.next (.pointer (some ⟨r, 0, none⟩)) false ty).run P w = .ok (.tuple #[.bool false]) w) ∨
    ∃ p left' w', left.Perm (p :: left') ∧ (Instr.next (.pointer (some ⟨r, 0, none⟩)) false ty).run P w = .ok (.tuple #[.bool true, .int .i64 p.1, p.2]) w' ∧ Ranging w' b r m left' ∧ Off (fun k => k = r) w w' ∧ w'.heap.size = w.heap.size ∧
      (Instr.entry (.pointer (some ⟨r, 0, none⟩))).run P w' = .ok (.tuple #[.int .i64 p.1, p.2]) w' := by
  obtain ⟨es, clock, since, seen, hb, hs, hm, hr, hborn, hsc, hperm⟩ := id h
  have hne := h.ne
  rcases run_next_at (P := P) w ty r b since clock seen es clock hr hb hborn hsc with ⟨h0, hrun⟩ | ⟨e, he, wd, hwd, hrun⟩
  · left
    refine ⟨?_, hrun⟩
    have : (es.toList.filter fun e => !seen.contains e.born) = [] := by
      have : (leftOf es seen).toList = [] := by simpa using h0
      simpa [leftOf] using this
    rw [this] at hperm
    have := hperm.length_eq
    simp at this
    exact List.eq_nil_of_length_eq_zero this.symm
  · right
    have hdr : wd.heap = w.heap := by rcases hwd with rfl | rfl <;> rfl
    have hos : wd.os = w.os ∧ wd.tape = w.tape ∧ wd.output = w.output := by rcases hwd with rfl | rfl <;> exact ⟨rfl, rfl, rfl⟩
    have hmem : e ∈ es.toList ∧ seen.contains e.born = false := by simpa [leftOf] using he
    have hkey : (e.key, e.val) ∈ m.map (fun p => (Value.int .i64 p.1, p.2)) := by rw [← hm]; exact List.mem_map.2 ⟨e, hmem.1, rfl⟩
    obtain ⟨p, hp, hpe⟩ := List.mem_map.1 hkey
    simp only [Prod.mk.injEq] at hpe
    have hpush := filter_push es.toList seen e hs.2.1 hmem.1 hmem.2
    have hleft : (Value.int .i64 p.1, p.2) ∈ left.map fun p => (Value.int .i64 p.1, p.2) := by
      refine hperm.mem_iff.1 ((hpush.map _).mem_iff.2 ?_)
      rw [hpe.1, hpe.2]
      exact List.mem_cons_self
    obtain ⟨q, hq, hqe⟩ := List.mem_map.1 hleft
    simp only [Prod.mk.injEq, Value.int.injEq, true_and] at hqe
    have hqp : q = p := Prod.ext hqe.1 hqe.2
    subst hqp
    obtain ⟨l1, l2, rfl⟩ := List.append_of_mem hq
    have hsb : (Go.ChangeMaps.setBlock wd r (.mapIter (some b) since (seen.push e.born) clock)).heap = w.heap.setIfInBounds r (.mapIter (some b) since (seen.push e.born) clock) := by
      unfold Go.ChangeMaps.setBlock; rw [hdr]
    have hb' : (Go.ChangeMaps.setBlock wd r (.mapIter (some b) since (seen.push e.born) clock)).heap[b]? = some (.map es clock) := by rw [hsb]; exact ((heap_set hr).2 b hne).trans hb
    have hr' : (Go.ChangeMaps.setBlock wd r (.mapIter (some b) since (seen.push e.born) clock)).heap[r]? = some (.mapIter (some b) since (seen.push e.born) clock) := by rw [hsb]; exact (heap_set hr).1
    refine ⟨q, l1 ++ l2, _, List.perm_middle, by rw [hrun, hpe.1, hpe.2], ⟨es, clock, since, seen.push e.born, hb', hs, hm, hr', hborn, hsc, ?_⟩, ⟨hos.1, hos.2.1, hos.2.2, by rw [hsb]; simp, fun k _ hk => by rw [hsb]; exact (heap_set hr).2 k hk⟩, by rw [hsb]; simp, ?_⟩
    · have h2 := (hpush.map fun e => (e.key, e.val)).symm.trans hperm
      have h3 : ((l1 ++ q :: l2).map fun p => (Value.int .i64 p.1, p.2)).Perm ((e.key, e.val) :: (l1 ++ l2).map fun p => (Value.int .i64 p.1, p.2)) := by
        rw [← hpe.1, ← hpe.2]
        exact (List.perm_middle.map _)
      exact (h2.trans h3).cons_inv
    · rw [hpe.1, hpe.2]
      exact run_entry_at _ r b since seen es clock e hr' hb' hmem.1 hs.2.1

variable {ops : Array Oper} {rest : List Oper} {o : Oper} {a : Act} {Q : Exit → Act → World → Prop}

theorem wpList_range_im (hg : o.guard = none) (mo : Operand) (t : TypeId) (hop : o.op = Op.range t mo) (k e : TypeId) (ht : P.underlying t = some (.map k e)) (hm : a.eval mo = .map (some b)) (him : IMap w b m)
    (hK : ∀ w', Ranging w' b w.heap.size m m → Below w.heap.size w w' → w'.heap.size = w.heap.size + 1 → wpList P ops Q rest (a.put o.dst (.pointer (some ⟨w.heap.size, 0, none⟩))) w') : wpList P ops Q (o :: rest) a w := by
  refine wpList_plain hg fun K' hK' => ?_
  obtain ⟨w', hrun, r1, r2, r3⟩ := him.range (P := P) ht
  unfold Oper.wp
  simp [execOp, hop, hm, hrun, Result.andThen]
  exact hK' _ _ (hK w' r1 r2 r3)

theorem wpList_next_im (hg : o.guard = none) (it : Operand) (hop : o.op = Op.next it false) (hit : a.eval it = .pointer (some ⟨r, 0, none⟩)) (h : Ranging w b r m left)
    (hDone : left = [] → wpList P ops Q rest (a.put o.dst (.tuple #[.bool false])) w)
    (hMore : ∀ x c left' w', left.Perm ((x, c) :: left') → Ranging w' b r m left' → Off (fun k => k = r) w w' → w'.heap.size = w.heap.size →
      (Instr.entry (.pointer (some ⟨r, 0, none⟩))).run P w' = .ok (.tuple #[.int .i64 x, c]) w' → wpList P ops Q rest (a.put o.dst (.tuple #[.bool true, .int .i64 x, c])) w') : wpList P ops Q (o :: rest) a w := by
  refine wpList_plain hg fun K' hK' => ?_
  unfold Oper.wp
  rcases h.next (P := P) o.type with ⟨h0, hrun⟩ | ⟨p, left', w', hp, hrun, h1, h2, h3, h4⟩
  · simp [execOp, hop, hit, hrun, Result.andThen]
    exact hK' _ _ (hDone h0)
  · simp [execOp, hop, hit, hrun, Result.andThen]
    exact hK' _ _ (hMore p.1 p.2 left' w' hp h1 h2 h3 h4)

/-- The same over a list that says more than the entries do. -/
def RangingZ {α : Type} (f : α → Value) (w : World) (b r : Nat) (z zl : List (Int × α)) : Prop := ∃ left, Ranging w b r (mv f z) left ∧ left.Perm (mv f zl)

section
variable {α : Type} {f : α → Value} {z zl : List (Int × α)}
theorem RangingZ.imap (h : RangingZ f w b r z zl) : IMap w b (mv f z) := by obtain ⟨left, h, _⟩ := h; exact h.imap
theorem RangingZ.ne (h : RangingZ f w b r z zl) : b ≠ r := by obtain ⟨left, h, _⟩ := h; exact h.ne
theorem RangingZ.lt (h : RangingZ f w b r z zl) : r < w.heap.size := by obtain ⟨left, h, _⟩ := h; exact h.lt
theorem RangingZ.keep {F : Nat → Prop} (h : RangingZ f w b r z zl) (ho : Off F w w1) (hb : ¬ F b) (hr : ¬ F r) : RangingZ f w1 b r z zl := by
  obtain ⟨left, h, hp⟩ := h
  exact ⟨left, h.keep ho hb hr, hp⟩
theorem RangingZ.below (h : RangingZ f w b r z zl) (hb : Below w.heap.size w w1) : RangingZ f w1 b r z zl := h.keep (Off.of_below (F := fun _ => False) hb) (fun f => f) (fun f => f)
theorem RangingZ.len (h : RangingZ f w b r z zl) : w.rangeLeft b r = zl.length := by
  obtain ⟨left, ⟨es, clock, since, seen, h1, _, _, h4, _, _, h7⟩, hp⟩ := h
  have e1 := h7.length_eq
  have e2 := hp.length_eq
  simp only [List.length_map, mv] at e1 e2
  unfold World.rangeLeft
  rw [h1, h4]
  show (leftOf es seen).size = _
  have : (leftOf es seen).size = (es.toList.filter fun e => !seen.contains e.born).length := by
    rw [← Array.length_toList]
    simp [leftOf]
  omega

theorem wpList_range_z (hg : o.guard = none) (mo : Operand) (t : TypeId) (hop : o.op = Op.range t mo) (k e : TypeId) (ht : P.underlying t = some (.map k e)) (hm : a.eval mo = .map (some b)) (f : α → Value) (z : List (Int × α)) (him : IMap w b (mv f z))
    (hK : ∀ w', RangingZ f w' b w.heap.size z z → Below w.heap.size w w' → w'.heap.size = w.heap.size + 1 → wpList P ops Q rest (a.put o.dst (.pointer (some ⟨w.heap.size, 0, none⟩))) w') : wpList P ops Q (o :: rest) a w :=
  wpList_range_im hg mo t hop k e ht hm him (fun w' h1 h2 h3 => hK w' ⟨_, h1, List.Perm.refl _⟩ h2 h3)

theorem wpList_next_z (hg : o.guard = none) (it : Operand) (hop : o.op = Op.next it false) (hit : a.eval it = .pointer (some ⟨r, 0, none⟩)) (h : RangingZ f w b r z zl)
    (hDone : zl = [] → wpList P ops Q rest (a.put o.dst (.tuple #[.bool false])) w)
    (hMore : ∀ x y zl' w', zl.Perm ((x, y) :: zl') → RangingZ f w' b r z zl' → Off (fun k => k = r) w w' → w'.heap.size = w.heap.size →
      (Instr.entry (.pointer (some ⟨r, 0, none⟩))).run P w' = .ok (.tuple #[.int .i64 x, f y]) w' → wpList P ops Q rest (a.put o.dst (.tuple #[.bool true, .int .i64 x, f y])) w') : wpList P ops Q (o :: rest) a w := by
  obtain ⟨left, h, hp⟩ := h
  refine wpList_next_im hg it hop hit h (fun e => hDone ?_) (fun x c left' w' hl h1 h2 h3 h4 => ?_)
  · rw [e] at hp
    have := hp.length_eq
    exact List.eq_nil_of_length_eq_zero (by simpa [mv] using this.symm)
  · have hmem : (x, c) ∈ mv f zl := (hl.symm.trans hp).mem_iff.1 List.mem_cons_self
    obtain ⟨q, hq, hqe⟩ := mem_mv hmem
    simp only [Prod.mk.injEq] at hqe
    obtain ⟨rfl, rfl⟩ := hqe
    obtain ⟨l1, l2, rfl⟩ := List.append_of_mem hq
    have hz : (l1 ++ q :: l2).Perm (q :: (l1 ++ l2)) := List.perm_middle
    refine hMore q.1 q.2 (l1 ++ l2) w' hz ⟨left', h1, ?_⟩ h2 h3 h4
    have h5 : (mv f (l1 ++ q :: l2)).Perm ((q.1, f q.2) :: mv f (l1 ++ l2)) := hz.map _
    exact ((hl.symm.trans hp).trans h5).cons_inv
end
end
end Go.Proofs.Ytkkmkkgjpmlhaaa
namespace Go.Proofs.Ytkkmkkgjpmlhaaa
open Go.RowKit Go.MapKept

def CountPost (w : World) (O : Nat → Prop) (t : List (Int × List UInt8)) (least : Int) (e : Ending) (w' : World) : Prop :=
  ∃ v, e = .returned (.tuple #[v, .bool (CoreM.count t least).isSome]) ∧ Bs w O v ((CoreM.count t least).getD []) ∧ Below w.heap.size w w'

/-- Keys that are ints of Go's. -/
def KeysOk {α : Type} (m : List (Int × α)) : Prop := m.length ≤ 17592186044416 ∧ ∀ p ∈ m, (Lit.int .i64 p.1).wf = true
theorem KeysOk.mv {α β : Type} {f : α → β} {m : List (Int × α)} (h : KeysOk (Ytkkmkkgjpmlhaaa.mv f m)) : KeysOk m := ⟨by simpa [Ytkkmkkgjpmlhaaa.mv] using h.1, fun p hp => h.2 (p.1, f p.2) (List.mem_map.2 ⟨p, hp, rfl⟩)⟩
theorem KeysOk.to_mv {α β : Type} {f : α → β} {m : List (Int × α)} (h : KeysOk m) : KeysOk (Ytkkmkkgjpmlhaaa.mv f m) := ⟨by simpa [Ytkkmkkgjpmlhaaa.mv] using h.1, fun p hp => by obtain ⟨q, hq, rfl⟩ := mem_mv hp; exact h.2 q hq⟩

theorem keys_mv {α β : Type} (f : α → β) (m : List (Int × α)) : CoreM.keys (mv f m) = CoreM.keys m := by unfold CoreM.keys; rw [mv_keys]
theorem mem_keys {α : Type} {m : List (Int × α)} {k : Int} : k ∈ CoreM.keys m ↔ ∃ v, (k, v) ∈ m := by
  unfold CoreM.keys
  rw [(sortZ_perm _).mem_iff, List.mem_map]
  constructor
  · rintro ⟨p, hp, rfl⟩; exact ⟨p.2, hp⟩
  · rintro ⟨v, hv⟩; exact ⟨_, hv, rfl⟩
theorem length_keys {α : Type} (m : List (Int × α)) : (CoreM.keys m).length = m.length := by unfold CoreM.keys; rw [(sortZ_perm _).length_eq, List.length_map]

def zvotes (zl : List (Int × (Value × List UInt8))) (l : List UInt8) : Nat := (zl.filter fun p => p.2.2 == l).length
theorem zvotes_votes (z : List (Int × (Value × List UInt8))) (l : List UInt8) : CoreM.votes (mv (·.2) z) l = zvotes z l := by
  unfold CoreM.votes zvotes mv
  rw [List.filter_map, List.length_map]
  rfl
theorem zvotes_perm {zl zl' : List (Int × (Value × List UInt8))} {p : Int × (Value × List UInt8)} (h : zl.Perm (p :: zl')) (l : List UInt8) : zvotes zl l = (if p.2.2 == l then 1 else 0) + zvotes zl' l := by
  unfold zvotes
  rw [(h.filter _).length_eq, List.filter_cons]
  split <;> simp; omega
theorem zvotes_le (z : List (Int × (Value × List UInt8))) (l : List UInt8) : zvotes z l ≤ z.length := List.length_filter_le _ _

set_option maxRecDepth 100000 in
set_option maxHeartbeats 1000000 in
theorem count_any (b : Nat) (t : List (Int × List UInt8)) (least : Int) (O : Nat → Prop) (w : World) (h : Told w O b t) (hk : KeysOk t) :
    Calls Try.prog 89 #[.map (some b), .int .i64 least] w (CountPost w O t least) := by
  obtain ⟨z, h1, rfl, h3⟩ := id h
  have hk0 := hk.mv
  have cS := sortedT_any b _ w h1 (by simpa [mv] using hk0.1) hk0.to_mv.2
  rw [show SortedPost w (mv (·.1) z) = SortedPost w z from by unfold SortedPost; rw [keys_mv]] at cS
  have HS := hid h1
  have H3 := hid h3
  clear h h1 h3
  go_enter Try.func89, Try.ntmps89
  go_wp2_with (first | (go_at_call 97; refine (keysT_any _ _).mono ?_; rintro e w' ⟨rfl, rfl⟩) | (go_at_call 59; refine cS.mono ?_; rintro e w1 ⟨v, rfl, hz1, hb1⟩; obtain ⟨A, cap, rfl, hcap, hcells⟩ := id hz1))
  have hL : (CoreM.keys z).length ≤ 17592186044416 := by rw [length_keys]; exact hk0.1
  have HC := hid hcells
  have HZ := hid hz1
  clear hcells hz1 cS
  have hb1s := hb1.size
  go_loopw [15] (fun i wr => ∃ k : Nat, i = .int .i64 k ∧ k ≤ (CoreM.keys z).length ∧ ((CoreM.keys z).take k).findSome? (CoreM.cand (mv (·.2) z) least) = none ∧ Below w1.heap.size w1 wr)
    (fun i _ => (CoreM.keys z).length - (intOf i).toNat)
  case atStart => exact ⟨0, rfl, Nat.zero_le _, rfl, Below.refl _ _⟩
  case round =>
    obtain ⟨k, rfl, hkl, hnone, hbr⟩ := hrel
    have hbrs := hbr.size
    by_cases hlt : k < (CoreM.keys z).length
    · obtain ⟨bs, rfl, hbs, hcell⟩ := HC.out (by omega)
      obtain ⟨who, hwho⟩ : ∃ who, (CoreM.keys z)[k]? = some who := ⟨_, List.getElem?_eq_getElem hlt⟩
      have g0 : wr.cell? ⟨bs, k, none⟩ = some (.int .i64 who) := by
        have := hcell k who hwho
        exact (hbr.cell (p := ⟨bs, k, none⟩) (World.block_lt_of_cell? w1 _ this)).trans this
      obtain ⟨y, hy⟩ := mem_keys.1 (List.mem_of_getElem? hwho)
      have him := (HS.out.below hb1).below hbr
      have hnd : (z.map (·.1)).Nodup := by have := HS.out.nodup; rwa [mv_keys] at this
      have hlk : z.lookup who = some y := lookup_of_mem hnd hy
      have e1 : ∀ W, Below wr.heap.size wr W → (Instr.lookup 98 (.map (some b)) (.int .i64 who) false).run Try.prog W = .ok y.1 W := fun W hW => by
        have := (him.below hW).lookup (P := Try.prog) Try.underlying98 Try.underlying3 (zero_bytes W) who false
        rw [lookup_mv, hlk] at this
        simpa using this
      have HE := hid e1
      have HY := hid hy
      have HL := hid hlk
      have HW := hid hwho
      have HN := hid hnone
      clear e1 hy hlk hwho hnone hcell
      go_wp2_with (at_range; refine wpList_range_z rfl _ 98 rfl 3 29 Try.underlying98 rfl (·.1) z him ?_; intro w2 hr2 hb2 hs2)
      go_frame
      obtain ⟨wo, rfl⟩ : ∃ wo : World, wo = wr := ⟨_, rfl⟩
      go_loopw [8] (fun c wi => ∃ (n : Nat) (zl : List (Int × (Value × List UInt8))), c = .int .i64 n ∧ RangingZ (·.1) wi b wo.heap.size z zl ∧ (∀ p ∈ zl, p ∈ z) ∧ n + zvotes zl y.2 = zvotes z y.2 ∧ Below wo.heap.size wo wi ∧ wo.heap.size < wi.heap.size)
        (fun _ wi => wi.rangeLeft b wo.heap.size)
      case atStart => exact ⟨0, z, rfl, hr2, fun p hp => hp, by omega, hb2, by omega⟩
      case round =>
        obtain ⟨n, zl, rfl, hrg, hzl, hcnt, hbi, hsi⟩ := hrel
        have hnb : n ≤ 17592186044416 := by have := zvotes_le z y.2; have := hk0.1; omega
        go_wp2_with (at_next; refine wpList_next_z rfl _ rfl rfl hrg ?_ ?_)
        · intro hz0
          have hcn : n = zvotes z y.2 := by subst hz0; simpa [zvotes] using hcnt
          have hit : CoreM.cand (mv (·.2) z) least who = if (n : Int) ≥ least then some y.2 else none := by
            unfold CoreM.cand; rw [lookup_mv, HL.out]; simp only [Option.map_some]; rw [zvotes_votes, hcn]
          have hby : Bs w O y.1 y.2 := H3.out _ HY.out
          have e1 := HE.out wr hbi
          have HI := hid hit
          clear hit hcnt
          have hbw := (hb1.trans (hbr.mono (by omega))).trans (hbi.mono (by omega))
          by_cases hge : least ≤ (n : Int)
          · have hcount : CoreM.count (mv (·.2) z) least = some y.2 := by
              unfold CoreM.count
              rw [keys_mv]
              rw [← List.take_append_drop k (CoreM.keys z), List.findSome?_append, HN.out, Option.none_or, List.drop_eq_getElem_cons hlt]
              have : (CoreM.keys z)[k] = who := by have := HW.out; rw [List.getElem?_eq_getElem hlt] at this; simpa using this
              rw [List.findSome?_cons, this, HI.out, if_pos hge]
            have HCT := hid hcount
            clear hcount hcn
            go_wp2
            go_ret2
            exact ⟨y.1, by rw [HCT.out]; rfl, by rw [HCT.out]; exact hby, hbw⟩
          · clear hcn
            go_wp2
            go_roundw
            case rel =>
              refine ⟨k + 1, by go_num, hlt, ?_, hbr.trans (hbi.mono hbrs)⟩
              rw [List.take_succ_eq_append_getElem hlt, List.findSome?_append, HN.out, Option.none_or]
              have : (CoreM.keys z)[k] = who := by have := HW.out; rw [List.getElem?_eq_getElem hlt] at this; simpa using this
              rw [List.findSome?_cons, this, HI.out, if_neg hge]
              rfl
            case measure => simp [intOf]; omega
        · intro x yv yl zl' w3 hperm hrg3 ho3 hs3 hen
          have hb3 : Below wo.heap.size wo w3 := below_off_new hbi ho3 (Nat.le_refl _) (Nat.le_refl _)
          have hyy : (x, (yv, yl)) ∈ z := hzl _ (hperm.mem_iff.2 List.mem_cons_self)
          have hbs1 : Bs w3 O yv yl := (((H3.out _ hyy).below hb1).below hbr).below hb3
          have hbs2 : Bs w3 O y.1 y.2 := (((H3.out _ HY.out).below hb1).below hbr).below hb3
          have e1 := HE.out w3 hb3
          have hzl' : ∀ p ∈ zl', p ∈ z := fun p hp => hzl p (hperm.mem_iff.2 (List.mem_cons_of_mem _ hp))
          have hzv := zvotes_perm hperm y.2
          have hml := hrg3.len
          have hml0 := hrg.len
          have hlen := hperm.length_eq
          simp only [List.length_cons] at hlen
          have HV := hid hzv
          have HM := hid hml
          have HM0 := hid hml0
          clear hzv hml hml0 hyy
          cases hq : yl == y.2
          all_goals
            go_wp2_with (go_at_call 61; refine (equal_any _ hbs1 hbs2).mono ?_; rintro e w' ⟨rfl, rfl⟩)
            go_roundw
            case rel =>
              have := HV.out
              simp only [hq, if_true, Bool.false_eq_true, if_false] at this
              first
                | exact ⟨n + 1, zl', by go_num, hrg3, hzl', by omega, hb3, by omega⟩
                | exact ⟨n, zl', rfl, hrg3, hzl', by omega, hb3, by omega⟩
            case measure => rw [HM.out, HM0.out]; omega
    · have hk' : k = (CoreM.keys z).length := by omega
      have hcount : CoreM.count (mv (·.2) z) least = none := by
        unfold CoreM.count
        rw [keys_mv, ← List.take_length (l := CoreM.keys z), ← hk']
        exact hnone
      have HCT := hid hcount
      clear hcount hk' hnone
      go_wp2
      go_ret2
      exact ⟨_, by rw [HCT.out]; rfl, by rw [HCT.out]; exact Bs.nil _ _, hb1.trans (hbr.mono (by omega))⟩

set_option maxRecDepth 100000 in
/-- .. of nobody. -/
theorem count_nil (least : Int) (O : Nat → Prop) (w : World) : Calls Try.prog 89 #[.map none, .int .i64 least] w (CountPost w O [] least) := by
  have cS := sortedT_nil w
  go_enter Try.func89, Try.ntmps89
  go_wp2_with (first | (go_at_call 97; refine (keysT_any _ _).mono ?_; rintro e w' ⟨rfl, rfl⟩) | (go_at_call 59; refine cS.mono ?_; rintro e w1 ⟨rfl, hb1⟩))
  refine wp_loop_rounds 1 ?_
  rw [rounds_succ]
  go_wp2
  go_ret2
  have e0 : CoreM.count [] least = none := rfl
  exact ⟨.slice none 0 0, by rw [e0]; rfl, by rw [e0]; exact Bs.nil _ _, hb1⟩

/-- A told value: the nil map, or a map. -/
def ToldV (w : World) (O : Nat → Prop) (v : Value) (t : List (Int × List UInt8)) : Prop := (v = .map none ∧ t = []) ∨ ∃ b, v = .map (some b) ∧ Told w O b t
theorem count_v (v : Value) (t : List (Int × List UInt8)) (least : Int) (O : Nat → Prop) (w : World) (h : ToldV w O v t) (hk : KeysOk t) : Calls Try.prog 89 #[v, .int .i64 least] w (CountPost w O t least) := by
  rcases h with ⟨rfl, rfl⟩ | ⟨b, rfl, h⟩
  · exact count_nil least O w
  · exact count_any b t least O w h hk
end Go.Proofs.Ytkkmkkgjpmlhaaa
