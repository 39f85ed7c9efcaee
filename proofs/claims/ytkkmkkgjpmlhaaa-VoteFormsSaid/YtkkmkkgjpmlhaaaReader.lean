/- The reader of what Bytes wrote. -/
import Derived.Test.YtkkmkkgjpmlhaaaBytes
namespace Go.Proofs.Ytkkmkkgjpmlhaaa
open Go.RowKit Go.MapKept

/-- A reader at block br: what is left, and whether there wasn't enough. -/
def Reader (w : World) (O : Nat → Prop) (br : Nat) (l : List UInt8) (bad : Bool) : Prop := ∃ v, w.heap[br]? = some (.cells #[v, .bool bad] 116 (0, 0)) ∧ Bs w (fun k => k ≠ br ∧ O k) v l

theorem Bs.take {w : World} {O : Nat → Prop} {A : Option Addr} {cap n : Nat} {l : List UInt8} (h : Bs w O (.slice A l.length cap) l) (hn : n ≤ l.length) : Bs w O (.slice A n cap) (l.take n) := by
  obtain ⟨A', cap', e, h1, h2, h3⟩ := h
  cases e
  have hl : (l.take n).length = n := by rw [List.length_take]; omega
  refine ⟨A, cap, by rw [hl], by omega, h2, fun h0 => ?_⟩
  rw [hl] at h0
  obtain ⟨b, off, e, hb, hc⟩ := h3 (by omega)
  refine ⟨b, off, e, hb, fun j u hu => hc j u ?_⟩
  rw [List.getElem?_take] at hu
  split at hu
  · exact hu
  · cases hu

theorem Bs.drop {w : World} {O : Nat → Prop} {A : Option Addr} {cap n : Nat} {l : List UInt8} (h : Bs w O (.slice A l.length cap) l) (hn : n ≤ l.length) : Bs w O (.slice (Option.map (fun x => x.add n) A) (l.length - n) (cap - n)) (l.drop n) := by
  obtain ⟨A', cap', e, h1, h2, h3⟩ := h
  cases e
  have hl : (l.drop n).length = l.length - n := List.length_drop
  have hA : Option.map (fun x => x.add n) A = none → cap - n = 0 := fun hA => by
    cases A with
    | none => rw [h2 rfl]; simp
    | some a => cases hA
  refine ⟨Option.map (fun x => x.add n) A, cap - n, by rw [hl], by omega, hA, fun h0 => ?_⟩
  rw [hl] at h0
  obtain ⟨b, off, e, hb, hc⟩ := h3 (by omega)
  subst e
  refine ⟨b, off + n, by simp [Addr.add_lit], hb, fun j u hu => ?_⟩
  rw [List.getElem?_drop] at hu
  have := hc (n + j) u hu
  rwa [← Nat.add_assoc] at this
theorem Bs.ended {w : World} {O : Nat → Prop} {A : Option Addr} {cap n : Nat} {l : List UInt8} (h : Bs w O (.slice A l.length cap) l) (hn : n ≤ l.length) (hc : cap = n) (k : Nat) (hk : A = none → k = 0) : Bs w O (.slice A (l.length - n) k) (l.drop n) := by
  obtain ⟨A', cap', e, h1, h2, h3⟩ := h
  cases e
  have hl : (l.drop n).length = 0 := by rw [List.length_drop]; omega
  exact ⟨A, k, by rw [hl]; congr 1; omega, by omega, hk, fun h0 => by omega⟩

theorem take_close {O : Nat → Prop} {br n : Nat} {l : List UInt8} {bad : Bool} {w w1 : World} {v v' v2 : Value} (hb : w.heap[br]? = some (.cells #[v, .bool bad] 116 (0, 0))) (hv1 : Bs w1 (fun k => w.heap.size ≤ k) v' (l.take n)) (hb1 : Below w.heap.size w w1)
    (hv2 : Bs w (fun k => k ≠ br ∧ O k) v2 (l.drop n)) :
    Bs (w1.setCell ⟨br, 0, none⟩ v2) (fun k => w.heap.size ≤ k) v' (l.take n) ∧ Reader (w1.setCell ⟨br, 0, none⟩ v2) O br (l.drop n) bad ∧ Off (fun k => k = br) w (w1.setCell ⟨br, 0, none⟩ v2) := by
  have ho := Off.setOne w1 ⟨br, 0, none⟩ v2
  have hlt := heap_lt hb
  refine ⟨hv1.keep ho (fun k _ hk e => by dsimp only at e; omega), ⟨v2, heap_setCell_cells ((hb1.block _ hlt).trans hb) v2, (hv2.below hb1).keep ho (fun k _ hk e => hk.1 e)⟩, (Off.of_below hb1).trans ho (fun _ _ e => e)⟩

set_option maxRecDepth 100000 in
set_option maxHeartbeats 1000000 in
theorem take_enough {O : Nat → Prop} (br : Nat) (l : List UInt8) (bad : Bool) (n : Nat) (w : World) (h : Reader w O br l bad) (hn : n ≤ l.length) (hl : l.length ≤ 140737488355328) :
    Calls Try.prog 58 #[.pointer (some ⟨br, 0, none⟩), .int .i64 n] w fun e w' => ∃ v', e = .returned v' ∧ Bs w' (fun k => w.heap.size ≤ k) v' (l.take n) ∧ Reader w' O br (l.drop n) bad ∧ Off (fun k => k = br) w w' := by
  obtain ⟨v, hb, hv⟩ := h
  obtain ⟨A, cap, rfl, hcap, hnil, hc⟩ := id hv
  have c0 : w.cell? ⟨br, 0, none⟩ = some (.slice A l.length cap) := by simp [World.cell?, hb]
  have hn1 : (n : Int) ≤ (l.length : Int) := by omega
  have hn2 : (n : Int) ≤ (cap : Int) := by omega
  have hn0 : (0 : Int) ≤ (n : Int) := by omega
  clear hc
  go_enter Try.func58, Try.ntmps58
  go_wp2_with (go_at_call 52; refine (clone_any _ (hv.take hn) (by rw [List.length_take]; omega)).mono ?_; rintro e w1 ⟨v', rfl, hv1, hb1⟩; obtain ⟨A1, cap1, rfl, _⟩ := id hv1; have d0 : w1.cell? ⟨br, 0, none⟩ = some (.slice A l.length cap) := (hb1.cell (p := ⟨br, 0, none⟩) (heap_lt hb)).trans c0; have f0 : w1.frozen? ⟨br, 0, none⟩ = false := (by simp [World.frozen?, hb1.block _ (heap_lt hb), hb]))
  all_goals
    go_ret
  all_goals
    first
      | exact ⟨_, rfl, take_close hb (by simpa [List.length_take, Nat.min_eq_left hn] using hv1) hb1 (hv.drop hn)⟩
      | exact ⟨_, rfl, take_close hb (by simpa [List.length_take, Nat.min_eq_left hn] using hv1) hb1 (hv.ended hn (by assumption) _ (fun _ => by omega))⟩

set_option maxRecDepth 100000 in
set_option maxHeartbeats 1000000 in
theorem take_short {O : Nat → Prop} (br : Nat) (l : List UInt8) (bad : Bool) (n : Nat) (w : World) (h : Reader w O br l bad) (hn : l.length < n) (hl : l.length ≤ 140737488355328) :
    Calls Try.prog 58 #[.pointer (some ⟨br, 0, none⟩), .int .i64 n] w fun e w' => ∃ v', e = .returned v' ∧ Bs w' (fun k => w.heap.size ≤ k) v' [] ∧ Reader w' O br l true ∧ Off (fun k => k = br) w w' := by
  obtain ⟨v, hb, hv⟩ := h
  obtain ⟨A, cap, rfl, hcap, hnil, hc⟩ := id hv
  have c0 : w.cell? ⟨br, 0, none⟩ = some (.slice A l.length cap) := by simp [World.cell?, hb]
  have c1 : w.cell? ⟨br, 1, none⟩ = some (.bool bad) := by simp [World.cell?, hb]
  have f1 : w.frozen? ⟨br, 1, none⟩ = false := by simp [World.frozen?, hb]
  have hb2 : (w.setCell ⟨br, 1, none⟩ (.bool true)).heap[br]? = some (.cells #[.slice A l.length cap, .bool true] 116 (0, 0)) := heap_setCell_cells hb _
  have ho2 := Off.setOne w ⟨br, 1, none⟩ (.bool true)
  have hv2 : Bs (w.setCell ⟨br, 1, none⟩ (.bool true)) (fun k => k ≠ br ∧ O k) (.slice A l.length cap) l := hv.keep ho2 (fun k _ hk e => hk.1 e)
  have hn1 : ¬ (n : Int) ≤ (l.length : Int) := by omega
  have hn2 : (0 : Int) ≤ (cap : Int) := by omega
  have hz : Bs (w.setCell ⟨br, 1, none⟩ (.bool true)) (fun k => k ≠ br ∧ O k) (.slice A 0 cap) (l.take 0) := hv2.take (Nat.zero_le _)
  have hsz : (w.setCell ⟨br, 1, none⟩ (.bool true)).heap.size = w.heap.size := by simp [World.setCell]
  clear hc
  go_enter Try.func58, Try.ntmps58
  go_wp2_with (go_at_call 52; refine (clone_any _ hz (by simp)).mono ?_; rintro e w1 ⟨v', rfl, hv1, hb1⟩; obtain ⟨A1, cap1, rfl, _⟩ := id hv1; have d0 : w1.cell? ⟨br, 0, none⟩ = some (.slice A l.length cap) := (hb1.cell (p := ⟨br, 0, none⟩) (heap_lt hb2)).trans (by simp [World.cell?, hb2]); have f0 : w1.frozen? ⟨br, 0, none⟩ = false := (by simp [World.frozen?, hb1.block _ (heap_lt hb2), hb2]))
  all_goals
    go_ret
  all_goals
    obtain ⟨k1, k2, k3⟩ := take_close (n := 0) (l := l) (v2 := .slice A l.length cap) hb2 (by simpa using hv1) hb1 (by simpa using hv2)
    exact ⟨_, rfl, by simpa [hsz] using k1, by simpa using k2, ho2.trans k3 (fun _ _ e => e)⟩

/-- What is taken, what is left, and whether there wasn't enough. -/
def takeR (r : List UInt8 × Bool) (n : Nat) : List UInt8 × (List UInt8 × Bool) := if n ≤ r.1.length then (r.1.take n, (r.1.drop n, r.2)) else ([], (r.1, true))
theorem rtake_any {O : Nat → Prop} (br : Nat) (r : List UInt8 × Bool) (n : Nat) (w : World) (h : Reader w O br r.1 r.2) (hl : r.1.length ≤ 140737488355328) :
    Calls Try.prog 58 #[.pointer (some ⟨br, 0, none⟩), .int .i64 n] w fun e w' => ∃ v', e = .returned v' ∧ Bs w' (fun k => w.heap.size ≤ k) v' (takeR r n).1 ∧ Reader w' O br (takeR r n).2.1 (takeR r n).2.2 ∧ Off (fun k => k = br) w w' := by
  unfold takeR
  split
  · rename_i hn; exact take_enough br r.1 r.2 n w h hn hl
  · rename_i hn; exact take_short br r.1 r.2 n w h (by omega) hl
end Go.Proofs.Ytkkmkkgjpmlhaaa
