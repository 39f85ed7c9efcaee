/- wire.EncodeVote: which votes are right. -/
import Derived.Test.YtkkmkkgjpmlhaaaV00
import Derived.Deep.RegionHeld3
import Derived.Deep.RegionLaw
import Derived.Deep.AppendLies
import Derived.BigQuiet
namespace Go.Proofs.Ytkkmkkgjpmlhaaa
open Go.RowKit Go.MapKept

/-- A writer at block b: 'm' bytes are written; 'bad'. -/
def Writer (w : World) (base b : Nat) (bad : Bool) (m : Nat) : Prop :=
  base ≤ b ∧ ∃ sv xs, w.heap[b]? = some (.cells #[sv, .bool bad] 111 (0, 0)) ∧ w.ownsRow base 5 1 sv m xs

theorem row_ne {w : World} {base n b : Nat} {e t : TypeId} {v : Value} {xs : List Value} {cs : Array Value} (h : w.ownsRow base e 1 v n xs) (hb : w.heap[b]? = some (.cells cs t (0, 0))) (hne : e ≠ t) : v.ownBlock ≠ some b := by
  rcases h.2 with ⟨rfl, _⟩ | ⟨g, cap, cur, rfl, _, hh, _⟩
  · simp [Value.ownBlock]
  · intro he
    have : g = b := by simpa [Value.ownBlock] using he
    subst this
    rw [hh] at hb
    injection hb with hb
    injection hb with _ h2
    exact hne h2

theorem grownBy_setCell (w : World) (p : Addr) (u : Value) : w.grownBy (w.setCell p u) (some p.block) :=
  ⟨rfl, rfl, rfl, by simp [World.setCell], fun k _ hk => Below.heap_setCell w p u k (fun e => hk (by rw [e]))⟩
theorem heap_setCell_same {w : World} {b i : Nat} {cs : Array Value} {t : TypeId} (h : w.heap[b]? = some (.cells cs t (0, 0))) (u : Value) : (w.setCell ⟨b, i, none⟩ u).heap[b]? = some (.cells (cs.setIfInBounds i u) t (0, 0)) := by
  simp [World.setCell, Array.getElem?_modify, h]

theorem Writer.push {w : World} {base b n : Nat} {bad : Bool} {sv v : Value} {xs : List Value} (hbb : base ≤ b) (hb : w.heap[b]? = some (.cells #[sv, .bool bad] 111 (0, 0))) (h : w.ownsRow base 5 1 v n xs) :
    Writer (w.setCell ⟨b, 0, none⟩ v) base b bad n :=
  ⟨hbb, v, xs, heap_setCell_same hb v, h.kept (grownBy_setCell w _ _) (.inr (row_ne h hb (by decide)))⟩

set_option maxRecDepth 100000 in
set_option maxHeartbeats 1000000 in
theorem num_any (base b m : Nat) (bad : Bool) (n lo hi : Int) (size : Nat) (w : World) (h : Writer w base b bad m) (hb0 : base ≤ w.heap.size) (hs : size ≤ 8) (hm : m ≤ 1000000)
    (n0 : -9223372036854775808 ≤ n) (n1 : n ≤ 9223372036854775807) :
    Calls Try.prog 54 #[.pointer (some ⟨b, 0, none⟩), .int .i64 n, .int .i64 lo, .int .i64 hi, .int .i64 size] w fun e w' => e = .returned (.tuple #[]) ∧ Writer w' base b (bad || decide (n < lo) || decide (n > hi)) (m + size) ∧ Below base w w' := by
  obtain ⟨hbb, sv, xs, hb, hown⟩ := h
  have c0 : w.cell? ⟨b, 0, none⟩ = some sv := by simp [World.cell?, hb]
  have c1 : w.cell? ⟨b, 1, none⟩ = some (.bool bad) := by simp [World.cell?, hb]
  have f1 : w.frozen? ⟨b, 1, none⟩ = false := by simp [World.frozen?, hb]
  obtain ⟨i0, hi0, hz0, hz1, hz2⟩ := info_parts info_u8
  go_enter Try.func54, Try.ntmps54
  go_wp2_with fail
  all_goals
    go_loopw [10] (fun i wr => ∃ (x : Int) (j : Nat), i = .int .i64 x ∧ -1 ≤ x ∧ x ≤ 7 ∧ x + 1 + j = size ∧ Writer wr base b (bad || decide (n < lo) || decide (n > hi)) (m + j) ∧ Below base w wr) (fun i _ => (intOf i + 1).toNat)
    case atStart =>
      refine ⟨_, 0, rfl, by omega, by omega, by omega, ⟨hbb, sv, xs, ?_, ?_⟩, (Below.refl _ _).setCell (p := ⟨b, 1, none⟩) hbb _⟩
      · rw [heap_setCell_same hb]; simp_all
      · exact hown.kept (grownBy_setCell w _ _) (.inr (row_ne hown hb (by decide)))
    case round =>
      obtain ⟨x, j, rfl, hx0, hx7, hxj, ⟨_, sv', xs', hb', hown'⟩, hbl⟩ := hrel
      have d0 : wr.cell? ⟨b, 0, none⟩ = some sv' := by simp [World.cell?, hb']
      have g0 : wr.frozen? ⟨b, 0, none⟩ = false := by simp [World.frozen?, hb']
      have hblt := heap_lt hb'
      have hne := row_ne hown' hb' (by decide)
      have hsz := hbl.size
      clear c0 c1 f1
      by_cases hx : 0 ≤ x
      · have h8 : 0 ≤ 8 * x := by omega
        have hw8 : IntKind.i64.wrap (8 * x) = 8 * x := by rw [IntKind.wrap_i64]; omega
        go_wp2_with fail
        go_region_law (refine step_append_lies _ (by rfl) _ _ 29 (by rfl) base 5 i0 _ 1 1 Try.underlying29 hi0 hz0 hz1 hz2 rfl (by omega) sv' (m + j) xs' (by rfl) ((hown'.drew).alloc _) ⟨wr.heap.size, 0, none⟩ 1 1 _ (by rfl) (by rfl) (World.news_of_block (t := 5) (fr := (0, 0)) (heap_alloc_new _ _)) (by simp [Value.oneCell']) (by omega) (by unfold maxLen; omega) (by omega) (by simp; omega) (wr.heap.size + 1) (by simp) ?_; intro gg cap w1 hown1 hgrow hat hlt; have hblk := (hgrow.block b (by simp; omega) (Ne.symm hne)).trans ((Below.heap_alloc wr.drew _ b hblt).trans hb'); have q0 : w1.cell? ⟨b, 0, none⟩ = some sv' := (by simp [World.cell?, hblk]); have q1 : w1.frozen? ⟨b, 0, none⟩ = false := (by simp [World.frozen?, hblk]))
        all_goals
          go_wp2
          go_roundw
          case rel => exact ⟨x - 1, j + 1, rfl, by omega, by omega, by omega, Writer.push hbb hblk hown1, ((((hbl.drew).alloc (by simp; omega) _).grown hgrow (by simp; omega) (by intro k hk; exact (hown'.lt k hk).1))).setCell hbb _⟩
          case measure => simp [intOf]; omega
      · go_wp2
        go_end0
        have hj : j = size := by omega
        subst hj
        refine ⟨rfl, ⟨hbb, sv', xs', ?_, hown'⟩, hbl⟩
        rw [hb']; simp_all

theorem Writer.alloc {w : World} {base b n : Nat} {bad : Bool} (h : Writer w base b bad n) (o : Obj) : Writer (w.alloc o) base b bad n := by
  obtain ⟨hbb, sv, xs, hb, hown⟩ := h
  exact ⟨hbb, sv, xs, (Below.heap_alloc w o b (heap_lt hb)).trans hb, hown.alloc o⟩

set_option maxRecDepth 100000 in
set_option maxHeartbeats 1000000 in
theorem text_any (base b m : Nat) (bad : Bool) (v : Value) (l : List UInt8) (O : Nat → Prop) (w : World) (h : Writer w base b bad m) (hb0 : base ≤ w.heap.size) (hm : m ≤ 1000)
    (hv : Bs w O v l) (hO : ∀ k, O k → k < base) (hl : l.length ≤ 9223372036854775807) :
    Calls Try.prog 55 #[.pointer (some ⟨b, 0, none⟩), v, .int .i64 4096] w fun e w' => e = .returned (.tuple #[]) ∧ (∃ m', Writer w' base b (bad || decide (4096 < l.length)) m') ∧ Below base w w' := by
  obtain ⟨A, cap, rfl, hcap, hnil, hc⟩ := id hv
  obtain ⟨i0, hi0, hz0, hz1, hz2⟩ := info_parts info_u8
  clear hc
  by_cases hlt : 4096 < l.length
  · obtain ⟨hbb, sv, xs, hb, hown⟩ := h
    have c1 : w.cell? ⟨b, 1, none⟩ = some (.bool bad) := by simp [World.cell?, hb]
    have f1 : w.frozen? ⟨b, 1, none⟩ = false := by simp [World.frozen?, hb]
    have hlt' : (4096 : Int) < (l.length : Int) := by omega
    go_enter Try.func55, Try.ntmps55
    go_wp2
    refine bodyPost_ret (results_none rfl _ _ _) rfl ?_
    refine ⟨rfl, ⟨m, hbb, sv, xs, ?_, hown.kept (grownBy_setCell w _ _) (.inr (row_ne hown hb (by decide)))⟩, (Below.refl _ _).setCell (p := ⟨b, 1, none⟩) hbb _⟩
    rw [heap_setCell_same hb]; simp [hlt]
  · have hlt' : ¬ (4096 : Int) < (l.length : Int) := by omega
    go_enter Try.func55, Try.ntmps55
    go_wp2_with (first | (at_builtin; refine wpList_append_bs _ rfl _ _ 29 rfl base 5 i0 Try.underlying29 hi0 hz0 hz1 hz2 sv (m + 2) xs rfl hown O _ l rfl (hv.keep (Off.of_low hbl) (fun k _ hk => Nat.not_le.2 (hO k hk))) (by omega) (by have := hbl.size; omega) ?_; intro A2 c2 w2 hown2 hgrow2 hat2; have hblk2 := (hgrow2.block b (heap_lt hb) (Ne.symm (row_ne hown hb (by decide)))).trans hb; have q0 : w2.cell? ⟨b, 0, none⟩ = some sv := (by simp [World.cell?, hblk2]); have q1 : w2.frozen? ⟨b, 0, none⟩ = false := (by simp [World.frozen?, hblk2])) | (go_at_call 54; refine (num_any base b m bad _ _ _ 2 _ h hb0 (by omega) (by omega) (by omega) (by omega)).mono ?_; rintro e w1 ⟨rfl, ⟨hbb, sv, xs, hb, hown⟩, hbl⟩; have p0 : w1.cell? ⟨b, 0, none⟩ = some sv := (by simp [World.cell?, hb])))
    go_end0
    refine ⟨rfl, ⟨m + 2 + l.length, Writer.push (sv := sv) hbb ?_ hown2⟩, (hbl.grown hgrow2 (by have := hbl.size; omega) (fun k hk => (hown.lt k hk).1)).setCell hbb _⟩
    have e1 : decide ((l.length : Int) < 0) = false := decide_eq_false (by omega)
    have e2 : decide ((l.length : Int) > 4096) = decide (4096 < l.length) := by rw [decide_eq_false hlt]; exact decide_eq_false (by omega)
    rw [hblk2, e1, e2, Bool.or_false]

def In64 (n : Int) : Prop := -9223372036854775808 ≤ n ∧ n ≤ 9223372036854775807
/-- The Go value reads as the vote. -/
def VoteIs (w : World) (O : Nat → Prop) (v : Value) (x : Vote) : Prop :=
  ∃ s, v = .agg #[.int .i64 x.kind, .int .i64 x.frm, .int .i64 x.slot, .int .i64 x.view, .int .i64 x.valid, s] ∧ Bs w O s x.value ∧ In64 x.kind ∧ In64 x.frm ∧ In64 x.slot ∧ In64 x.view ∧ In64 x.valid ∧ x.value.length ≤ 9223372036854775807

def EncPost (w : World) (x : Vote) (e : Ending) (w' : World) : Prop :=
  (∃ v, e = .returned (.tuple #[v, .int .i64 (if x.okB then 0 else 3)])) ∧ Below w.heap.size w w'

theorem heap_alloc_at (w : World) (o : Obj) (k : Nat) (h : k = w.heap.size) : (w.alloc o).heap[k]? = some o := by subst h; exact heap_alloc_new w o
theorem Writer.below {w w1 : World} {base b n : Nat} {bad : Bool} (h : Writer w base b bad n) (hb : Below w.heap.size w w1) : Writer w1 base b bad n := by
  obtain ⟨hbb, sv, xs, h1, hown⟩ := h
  exact ⟨hbb, sv, xs, (hb.block b (heap_lt h1)).trans h1, hown.kept (row := none) ⟨hb.os, hb.tape, hb.output, hb.size, fun k hk _ => hb.block k hk⟩ (by cases v : sv.ownBlock <;> simp)⟩

set_option maxRecDepth 100000 in
set_option maxHeartbeats 2000000 in
theorem encodeVote_any (O : Nat → Prop) (v : Value) (x : Vote) (w : World) (h : VoteIs w O v x) (hO : ∀ k, O k → k < w.heap.size) :
    Calls Try.prog 23 #[v] w (EncPost w x) := by
  obtain ⟨s, rfl, hs, ⟨k0, k1⟩, ⟨f0, f1⟩, ⟨s0, s1⟩, ⟨v0, v1⟩, ⟨a0, a1⟩, hl⟩ := h
  obtain ⟨A, cap, rfl, hcap, hnil, hc⟩ := id hs
  clear hc
  have hW : Writer (((w.alloc (.cells #[.int .i64 x.kind, .int .i64 x.frm, .int .i64 x.slot, .int .i64 x.view, .int .i64 x.valid, .slice A x.value.length cap] 31)).alloc (.cells #[.int .u8 86] 5)).alloc
      (.cells #[.slice (some ⟨w.heap.size + 1, 0, none⟩) 1 1, .bool false] 111)) (w.heap.size + 1) (w.heap.size + 2) false 1 := by
    refine ⟨by omega, _, [.int .u8 86], by rw [heap_alloc_at]; simp, ?_⟩
    exact ⟨by simp, .inr ⟨w.heap.size + 1, 1, #[.int .u8 86], rfl, Nat.le_refl _, by rw [Below.heap_alloc _ _ _ (by simp)]; exact (heap_alloc_at _ _ _ (by simp)), by simp, by unfold maxLen; omega, by simp, by simp⟩⟩
  by_cases hv1 : x.valid < -1
  · have hk : x.okB = false := by simp only [Vote.okB]; rw [show decide (-1 ≤ x.valid) = false from decide_eq_false (by omega)]; simp
    have HK := hid hk
    clear hk
    go_enter Try.func23, Try.ntmps23
    go_wp2_with fail
    refine (num_any (w.heap.size + 1) (w.heap.size + 2) 1 false _ _ _ 1 _ hW (by first | (simp; done) | (have := hW.1; omega)) (by omega) (by omega) (by omega) (by omega)).mono ?_
    rintro e w1 ⟨rfl, hW1, hb1⟩
    have q1 : ∀ j, w1.cell? ⟨w.heap.size, j, none⟩ = _ := fun j => hb1.cell (p := ⟨w.heap.size, j, none⟩) (Nat.lt_succ_self _)
    have hz1 : w.heap.size + 1 ≤ w1.heap.size := by have := hb1.size; simp at this; omega
    go_wp2_with fail
    refine (num_any (w.heap.size + 1) (w.heap.size + 2) (1 + 1) _ _ _ _ 1 _ hW1 (by first | (simp; done) | (have := hz1; omega)) (by omega) (by omega) (by omega) (by omega)).mono ?_
    rintro e w2 ⟨rfl, hW2, hb2⟩
    have q2 : ∀ j, w2.cell? ⟨w.heap.size, j, none⟩ = _ := fun j => hb2.cell (p := ⟨w.heap.size, j, none⟩) (Nat.lt_succ_self _)
    have hz2 : w.heap.size + 1 ≤ w2.heap.size := by have := hb2.size; omega
    go_wp2_with fail
    refine (num_any (w.heap.size + 1) (w.heap.size + 2) (1 + 1 + 1) _ _ _ _ 4 _ hW2 (by first | (simp; done) | (have := hz2; omega)) (by omega) (by omega) (by omega) (by omega)).mono ?_
    rintro e w3 ⟨rfl, hW3, hb3⟩
    have q3 : ∀ j, w3.cell? ⟨w.heap.size, j, none⟩ = _ := fun j => hb3.cell (p := ⟨w.heap.size, j, none⟩) (Nat.lt_succ_self _)
    have hz3 : w.heap.size + 1 ≤ w3.heap.size := by have := hb3.size; omega
    go_wp2_with fail
    refine (num_any (w.heap.size + 1) (w.heap.size + 2) (1 + 1 + 1 + 4) _ _ _ _ 4 _ hW3 (by first | (simp; done) | (have := hz3; omega)) (by omega) (by omega) (by omega) (by omega)).mono ?_
    rintro e w4 ⟨rfl, hW4, hb4⟩
    have q4 : ∀ j, w4.cell? ⟨w.heap.size, j, none⟩ = _ := fun j => hb4.cell (p := ⟨w.heap.size, j, none⟩) (Nat.lt_succ_self _)
    have hz4 : w.heap.size + 1 ≤ w4.heap.size := by have := hb4.size; omega
    go_wp2
    go_ret2
    refine ⟨⟨_, by rw [HK.out]; rfl⟩, (((((Below.refl w.heap.size w).alloc (Nat.le_refl _) _).alloc (by simp) _).alloc (by simp; omega) _).trans (hb1.mono (Nat.le_succ _))).trans ((hb2.mono (Nat.le_succ _)).trans ((hb3.mono (Nat.le_succ _)).trans (hb4.mono (Nat.le_succ _))))⟩
  by_cases hv2 : 1048576 < x.valid
  · have hk : x.okB = false := by simp only [Vote.okB]; rw [show decide (x.valid ≤ 1048576) = false from decide_eq_false (by omega)]; simp
    have HK := hid hk
    clear hk
    go_enter Try.func23, Try.ntmps23
    go_wp2_with fail
    refine (num_any (w.heap.size + 1) (w.heap.size + 2) 1 false _ _ _ 1 _ hW (by first | (simp; done) | (have := hW.1; omega)) (by omega) (by omega) (by omega) (by omega)).mono ?_
    rintro e w1 ⟨rfl, hW1, hb1⟩
    have q1 : ∀ j, w1.cell? ⟨w.heap.size, j, none⟩ = _ := fun j => hb1.cell (p := ⟨w.heap.size, j, none⟩) (Nat.lt_succ_self _)
    have hz1 : w.heap.size + 1 ≤ w1.heap.size := by have := hb1.size; simp at this; omega
    go_wp2_with fail
    refine (num_any (w.heap.size + 1) (w.heap.size + 2) (1 + 1) _ _ _ _ 1 _ hW1 (by first | (simp; done) | (have := hz1; omega)) (by omega) (by omega) (by omega) (by omega)).mono ?_
    rintro e w2 ⟨rfl, hW2, hb2⟩
    have q2 : ∀ j, w2.cell? ⟨w.heap.size, j, none⟩ = _ := fun j => hb2.cell (p := ⟨w.heap.size, j, none⟩) (Nat.lt_succ_self _)
    have hz2 : w.heap.size + 1 ≤ w2.heap.size := by have := hb2.size; omega
    go_wp2_with fail
    refine (num_any (w.heap.size + 1) (w.heap.size + 2) (1 + 1 + 1) _ _ _ _ 4 _ hW2 (by first | (simp; done) | (have := hz2; omega)) (by omega) (by omega) (by omega) (by omega)).mono ?_
    rintro e w3 ⟨rfl, hW3, hb3⟩
    have q3 : ∀ j, w3.cell? ⟨w.heap.size, j, none⟩ = _ := fun j => hb3.cell (p := ⟨w.heap.size, j, none⟩) (Nat.lt_succ_self _)
    have hz3 : w.heap.size + 1 ≤ w3.heap.size := by have := hb3.size; omega
    go_wp2_with fail
    refine (num_any (w.heap.size + 1) (w.heap.size + 2) (1 + 1 + 1 + 4) _ _ _ _ 4 _ hW3 (by first | (simp; done) | (have := hz3; omega)) (by omega) (by omega) (by omega) (by omega)).mono ?_
    rintro e w4 ⟨rfl, hW4, hb4⟩
    have q4 : ∀ j, w4.cell? ⟨w.heap.size, j, none⟩ = _ := fun j => hb4.cell (p := ⟨w.heap.size, j, none⟩) (Nat.lt_succ_self _)
    have hz4 : w.heap.size + 1 ≤ w4.heap.size := by have := hb4.size; omega
    go_wp2
    go_ret2
    refine ⟨⟨_, by rw [HK.out]; rfl⟩, (((((Below.refl w.heap.size w).alloc (Nat.le_refl _) _).alloc (by simp) _).alloc (by simp; omega) _).trans (hb1.mono (Nat.le_succ _))).trans ((hb2.mono (Nat.le_succ _)).trans ((hb3.mono (Nat.le_succ _)).trans (hb4.mono (Nat.le_succ _))))⟩
  go_enter Try.func23, Try.ntmps23
  go_wp2_with fail
  refine (num_any (w.heap.size + 1) (w.heap.size + 2) 1 false _ _ _ 1 _ hW (by first | (simp; done) | (have := hW.1; omega)) (by omega) (by omega) (by omega) (by omega)).mono ?_
  rintro e w1 ⟨rfl, hW1, hb1⟩
  have q1 : ∀ j, w1.cell? ⟨w.heap.size, j, none⟩ = _ := fun j => hb1.cell (p := ⟨w.heap.size, j, none⟩) (Nat.lt_succ_self _)
  have hz1 : w.heap.size + 1 ≤ w1.heap.size := by have := hb1.size; simp at this; omega
  go_wp2_with fail
  refine (num_any (w.heap.size + 1) (w.heap.size + 2) (1 + 1) _ _ _ _ 1 _ hW1 (by first | (simp; done) | (have := hz1; omega)) (by omega) (by omega) (by omega) (by omega)).mono ?_
  rintro e w2 ⟨rfl, hW2, hb2⟩
  have q2 : ∀ j, w2.cell? ⟨w.heap.size, j, none⟩ = _ := fun j => hb2.cell (p := ⟨w.heap.size, j, none⟩) (Nat.lt_succ_self _)
  have hz2 : w.heap.size + 1 ≤ w2.heap.size := by have := hb2.size; omega
  go_wp2_with fail
  refine (num_any (w.heap.size + 1) (w.heap.size + 2) (1 + 1 + 1) _ _ _ _ 4 _ hW2 (by first | (simp; done) | (have := hz2; omega)) (by omega) (by omega) (by omega) (by omega)).mono ?_
  rintro e w3 ⟨rfl, hW3, hb3⟩
  have q3 : ∀ j, w3.cell? ⟨w.heap.size, j, none⟩ = _ := fun j => hb3.cell (p := ⟨w.heap.size, j, none⟩) (Nat.lt_succ_self _)
  have hz3 : w.heap.size + 1 ≤ w3.heap.size := by have := hb3.size; omega
  go_wp2_with fail
  refine (num_any (w.heap.size + 1) (w.heap.size + 2) (1 + 1 + 1 + 4) _ _ _ _ 4 _ hW3 (by first | (simp; done) | (have := hz3; omega)) (by omega) (by omega) (by omega) (by omega)).mono ?_
  rintro e w4 ⟨rfl, hW4, hb4⟩
  have q4 : ∀ j, w4.cell? ⟨w.heap.size, j, none⟩ = _ := fun j => hb4.cell (p := ⟨w.heap.size, j, none⟩) (Nat.lt_succ_self _)
  have hz4 : w.heap.size + 1 ≤ w4.heap.size := by have := hb4.size; omega
  go_wp2_with fail
  refine (num_any (w.heap.size + 1) (w.heap.size + 2) (1 + 1 + 1 + 4 + 4) _ _ _ _ 4 _ hW4 (by first | (simp; done) | (have := hz4; omega)) (by omega) (by omega) (by omega) (by omega)).mono ?_
  rintro e w5 ⟨rfl, hW5, hb5⟩
  have q5 : ∀ j, w5.cell? ⟨w.heap.size, j, none⟩ = _ := fun j => hb5.cell (p := ⟨w.heap.size, j, none⟩) (Nat.lt_succ_self _)
  have hz5 : w.heap.size + 1 ≤ w5.heap.size := by have := hb5.size; omega
  go_wp2_with fail
  have hbw : Below w.heap.size w w5 := (((((Below.refl w.heap.size w).alloc (Nat.le_refl _) _).alloc (by simp) _).alloc (by simp; omega) _).trans (hb1.mono (Nat.le_succ _))).trans ((hb2.mono (Nat.le_succ _)).trans ((hb3.mono (Nat.le_succ _)).trans ((hb4.mono (Nat.le_succ _)).trans (hb5.mono (Nat.le_succ _)))))
  refine (text_any (w.heap.size + 1) (w.heap.size + 2) _ _ _ x.value O _ hW5 hz5 (by omega) (hs.below hbw) (fun k hk => Nat.lt_succ_of_lt (hO k hk)) hl).mono ?_
  rintro e w6 ⟨rfl, ⟨m6, hW6⟩, hb6⟩
  generalize hB : (false || decide (x.kind < 1) || decide (x.kind > 5) || decide (x.frm < 1) || decide (x.frm > 64) || decide (x.slot < 0) || decide (x.slot > 256) || decide (x.view < 0) || decide (x.view > 1048576) || decide (x.valid + 1 < 0) || decide (x.valid + 1 > 1048577) || decide (4096 < x.value.length)) = B at hW6
  have hok : x.okB = !B := by
    rw [← hB, Vote.okB, Bool.eq_iff_iff]
    simp
    omega
  obtain ⟨hbb6, sv6, xs6, hblk6, hown6⟩ := hW6
  have r0 : w6.cell? ⟨w.heap.size + 2, 0, none⟩ = some sv6 := by simp [World.cell?, hblk6]
  have r1 : w6.cell? ⟨w.heap.size + 2, 1, none⟩ = some (.bool B) := by simp [World.cell?, hblk6]
  obtain ⟨A6, c6, rfl⟩ := ownsRow_slice hown6
  have HK := hid hok
  clear hok hB hblk6 hown6
  cases B
  all_goals
    go_wp2
    go_ret2
    exact ⟨⟨_, by rw [HK.out]; rfl⟩, hbw.trans (hb6.mono (Nat.le_succ _))⟩
end Go.Proofs.Ytkkmkkgjpmlhaaa
