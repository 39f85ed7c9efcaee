/- The reader of what Bytes wrote. reader.four. reader.votes. A core that begins anew, as plain data; how long its bytes are. What a core wrote is read back. No program in sight. -/
import Derived.Test.YtkkmkkgjpmlhaaaV22
import Derived.LoopTactic
import Derived.Laws.Bits64
import Derived.Test.YtkkmkkgjpmlhaaaV03
namespace Go.Proofs.Ytkkmkkgjpmlhaaa
open Go.RowKit Go.MapKept

/-- A reader at block br: what is left, and whether there wasn't enough. -/
def Reader (w : World) (O : Nat → Prop) (br : Nat) (l : List UInt8) (bad : Bool) : Prop := ∃ v, w.heap[br]? = some (.cells #[v, .bool bad] 116 (0, 0)) ∧ Bs w (fun k => k ≠ br ∧ O k) v l

theorem Bs.take {w : World} {O : Nat → Prop} {A : Option Addr} {cap n : Nat} {l : List UInt8} (h : Bs w O (.slice A l.length cap) l) (hn : n ≤ l.length) : Bs w O (.slice A n cap) (l.take n) := by
  obtain ⟨A', cap', e, h1, h2, h3⟩ := h
  cases e
  have hl : (l.take n).length = n := by rw [List.length_take]; omega
  refine ⟨A, cap, by rw [hl], by omega, h2, fun h0 => ?_⟩
  rw [hl] at h0
  obtain ⟨b, off, e, hb, hc⟩ := h3 (by omega)
  refine ⟨b, off, e, hb, fun j u hu => hc j u ?_⟩
  rw [List.getElem?_take] at hu
  split at hu
  · exact hu
  · cases hu

theorem Bs.drop {w : World} {O : Nat → Prop} {A : Option Addr} {cap n : Nat} {l : List UInt8} (h : Bs w O (.slice A l.length cap) l) (hn : n ≤ l.length) : Bs w O (.slice (Option.map (fun x => x.add n) A) (l.length - n) (cap - n)) (l.drop n) := by
  obtain ⟨A', cap', e, h1, h2, h3⟩ := h
  cases e
  have hl : (l.drop n).length = l.length - n := List.length_drop
  have hA : Option.map (fun x => x.add n) A = none → cap - n = 0 := fun hA => by
    cases A with
    | none => rw [h2 rfl]; simp
    | some a => cases hA
  refine ⟨Option.map (fun x => x.add n) A, cap - n, by rw [hl], by omega, hA, fun h0 => ?_⟩
  rw [hl] at h0
  obtain ⟨b, off, e, hb, hc⟩ := h3 (by omega)
  subst e
  refine ⟨b, off + n, by simp [Addr.add_lit], hb, fun j u hu => ?_⟩
  rw [List.getElem?_drop] at hu
  have := hc (n + j) u hu
  rwa [← Nat.add_assoc] at this
theorem Bs.ended {w : World} {O : Nat → Prop} {A : Option Addr} {cap n : Nat} {l : List UInt8} (h : Bs w O (.slice A l.length cap) l) (hn : n ≤ l.length) (hc : cap = n) (k : Nat) (hk : A = none → k = 0) : Bs w O (.slice A (l.length - n) k) (l.drop n) := by
  obtain ⟨A', cap', e, h1, h2, h3⟩ := h
  cases e
  have hl : (l.drop n).length = 0 := by rw [List.length_drop]; omega
  exact ⟨A, k, by rw [hl]; congr 1; omega, by omega, hk, fun h0 => by omega⟩

theorem take_close {O : Nat → Prop} {br n : Nat} {l : List UInt8} {bad : Bool} {w w1 : World} {v v' v2 : Value} (hb : w.heap[br]? = some (.cells #[v, .bool bad] 116 (0, 0))) (hv1 : Bs w1 (fun k => w.heap.size ≤ k) v' (l.take n)) (hb1 : Below w.heap.size w w1)
    (hv2 : Bs w (fun k => k ≠ br ∧ O k) v2 (l.drop n)) :
    Bs (w1.setCell ⟨br, 0, none⟩ v2) (fun k => w.heap.size ≤ k) v' (l.take n) ∧ Reader (w1.setCell ⟨br, 0, none⟩ v2) O br (l.drop n) bad ∧ Off (fun k => k = br) w (w1.setCell ⟨br, 0, none⟩ v2) := by
  have ho := Off.setOne w1 ⟨br, 0, none⟩ v2
  have hlt := heap_lt hb
  refine ⟨hv1.keep ho (fun k _ hk e => by dsimp only at e; omega), ⟨v2, heap_setCell_cells ((hb1.block _ hlt).trans hb) v2, (hv2.below hb1).keep ho (fun k _ hk e => hk.1 e)⟩, (Off.of_below hb1).trans ho (fun _ _ e => e)⟩

set_option maxRecDepth 100000 in
set_option maxHeartbeats 1000000 in
theorem take_enough {O : Nat → Prop} (br : Nat) (l : List UInt8) (bad : Bool) (n : Nat) (w : World) (h : Reader w O br l bad) (hn : n ≤ l.length) (hl : l.length ≤ 140737488355328) :
    Calls Try.prog 58 #[.pointer (some ⟨br, 0, none⟩), .int .i64 n] w fun e w' => ∃ v', e = .returned v' ∧ Bs w' (fun k => w.heap.size ≤ k) v' (l.take n) ∧ Reader w' O br (l.drop n) bad ∧ Off (fun k => k = br) w w' := by
  obtain ⟨v, hb, hv⟩ := h
  obtain ⟨A, cap, rfl, hcap, hnil, hc⟩ := id hv
  have c0 : w.cell? ⟨br, 0, none⟩ = some (.slice A l.length cap) := by simp [World.cell?, hb]
  have hn1 : (n : Int) ≤ (l.length : Int) := by omega
  have hn2 : (n : Int) ≤ (cap : Int) := by omega
  have hn0 : (0 : Int) ≤ (n : Int) := by omega
  clear hc
  go_enter Try.func58, Try.ntmps58
  go_wp2_with (go_at_call 52; refine (clone_any _ (hv.take hn) (by rw [List.length_take]; omega)).mono ?_; rintro e w1 ⟨v', rfl, hv1, hb1⟩; obtain ⟨A1, cap1, rfl, _⟩ := id hv1; have d0 : w1.cell? ⟨br, 0, none⟩ = some (.slice A l.length cap) := (hb1.cell (p := ⟨br, 0, none⟩) (heap_lt hb)).trans c0; have f0 : w1.frozen? ⟨br, 0, none⟩ = false := (by simp [World.frozen?, hb1.block _ (heap_lt hb), hb]))
  all_goals
    go_ret
  all_goals
    first
      | exact ⟨_, rfl, take_close hb (by simpa [List.length_take, Nat.min_eq_left hn] using hv1) hb1 (hv.drop hn)⟩
      | exact ⟨_, rfl, take_close hb (by simpa [List.length_take, Nat.min_eq_left hn] using hv1) hb1 (hv.ended hn (by assumption) _ (fun _ => by omega))⟩

set_option maxRecDepth 100000 in
set_option maxHeartbeats 1000000 in
theorem take_short {O : Nat → Prop} (br : Nat) (l : List UInt8) (bad : Bool) (n : Nat) (w : World) (h : Reader w O br l bad) (hn : l.length < n) (hl : l.length ≤ 140737488355328) :
    Calls Try.prog 58 #[.pointer (some ⟨br, 0, none⟩), .int .i64 n] w fun e w' => ∃ v', e = .returned v' ∧ Bs w' (fun k => w.heap.size ≤ k) v' [] ∧ Reader w' O br l true ∧ Off (fun k => k = br) w w' := by
  obtain ⟨v, hb, hv⟩ := h
  obtain ⟨A, cap, rfl, hcap, hnil, hc⟩ := id hv
  have c0 : w.cell? ⟨br, 0, none⟩ = some (.slice A l.length cap) := by simp [World.cell?, hb]
  have c1 : w.cell? ⟨br, 1, none⟩ = some (.bool bad) := by simp [World.cell?, hb]
  have f1 : w.frozen? ⟨br, 1, none⟩ = false := by simp [World.frozen?, hb]
  have hb2 : (w.setCell ⟨br, 1, none⟩ (.bool true)).heap[br]? = some (.cells #[.slice A l.length cap, .bool true] 116 (0, 0)) := heap_setCell_cells hb _
  have ho2 := Off.setOne w ⟨br, 1, none⟩ (.bool true)
  have hv2 : Bs (w.setCell ⟨br, 1, none⟩ (.bool true)) (fun k => k ≠ br ∧ O k) (.slice A l.length cap) l := hv.keep ho2 (fun k _ hk e => hk.1 e)
  have hn1 : ¬ (n : Int) ≤ (l.length : Int) := by omega
  have hn2 : (0 : Int) ≤ (cap : Int) := by omega
  have hz : Bs (w.setCell ⟨br, 1, none⟩ (.bool true)) (fun k => k ≠ br ∧ O k) (.slice A 0 cap) (l.take 0) := hv2.take (Nat.zero_le _)
  have hsz : (w.setCell ⟨br, 1, none⟩ (.bool true)).heap.size = w.heap.size := by simp [World.setCell]
  clear hc
  go_enter Try.func58, Try.ntmps58
  go_wp2_with (go_at_call 52; refine (clone_any _ hz (by simp)).mono ?_; rintro e w1 ⟨v', rfl, hv1, hb1⟩; obtain ⟨A1, cap1, rfl, _⟩ := id hv1; have d0 : w1.cell? ⟨br, 0, none⟩ = some (.slice A l.length cap) := (hb1.cell (p := ⟨br, 0, none⟩) (heap_lt hb2)).trans (by simp [World.cell?, hb2]); have f0 : w1.frozen? ⟨br, 0, none⟩ = false := (by simp [World.frozen?, hb1.block _ (heap_lt hb2), hb2]))
  all_goals
    go_ret
  all_goals
    obtain ⟨k1, k2, k3⟩ := take_close (n := 0) (l := l) (v2 := .slice A l.length cap) hb2 (by simpa using hv1) hb1 (by simpa using hv2)
    exact ⟨_, rfl, by simpa [hsz] using k1, by simpa using k2, ho2.trans k3 (fun _ _ e => e)⟩

/-- What is taken, what is left, and whether there wasn't enough. -/
def takeR (r : List UInt8 × Bool) (n : Nat) : List UInt8 × (List UInt8 × Bool) := if n ≤ r.1.length then (r.1.take n, (r.1.drop n, r.2)) else ([], (r.1, true))
theorem rtake_any {O : Nat → Prop} (br : Nat) (r : List UInt8 × Bool) (n : Nat) (w : World) (h : Reader w O br r.1 r.2) (hl : r.1.length ≤ 140737488355328) :
    Calls Try.prog 58 #[.pointer (some ⟨br, 0, none⟩), .int .i64 n] w fun e w' => ∃ v', e = .returned v' ∧ Bs w' (fun k => w.heap.size ≤ k) v' (takeR r n).1 ∧ Reader w' O br (takeR r n).2.1 (takeR r n).2.2 ∧ Off (fun k => k = br) w w' := by
  unfold takeR
  split
  · rename_i hn; exact take_enough br r.1 r.2 n w h hn hl
  · rename_i hn; exact take_short br r.1 r.2 n w h (by omega) hl
end Go.Proofs.Ytkkmkkgjpmlhaaa
namespace Go.Proofs.Ytkkmkkgjpmlhaaa
open Go.RowKit Go.MapKept

def num4 (l : List UInt8) : Nat := l.foldl (fun n x => n * 256 + x.toNat) 0
theorem num4_snoc (l : List UInt8) (x : UInt8) : num4 (l ++ [x]) = num4 l * 256 + x.toNat := by simp [num4, List.foldl_append]
theorem num4_lt : ∀ (l : List UInt8), num4 l < 256 ^ l.length := fun l => by
  suffices h : ∀ (l : List UInt8) (a : Nat), l.foldl (fun n x => n * 256 + x.toNat) a < (a + 1) * 256 ^ l.length by simpa [num4] using h l 0
  intro l
  induction l with
  | nil => intro a; simp
  | cons x l ih =>
    intro a
    rw [List.foldl_cons, List.length_cons, Nat.pow_succ]
    have h1 := ih (a * 256 + x.toNat)
    have h2 : (a * 256 + x.toNat + 1) * 256 ^ l.length ≤ (a + 1) * (256 ^ l.length * 256) := by
      have : a * 256 + x.toNat + 1 ≤ (a + 1) * 256 := by have := x.toNat_lt; omega
      calc (a * 256 + x.toNat + 1) * 256 ^ l.length ≤ (a + 1) * 256 * 256 ^ l.length := Nat.mul_le_mul_right _ this
        _ = (a + 1) * (256 ^ l.length * 256) := by rw [Nat.mul_assoc, Nat.mul_comm 256]
    omega

theorem bits_or_byte (m x : Nat) (hm : m < 16777216) (hx : x < 256) : bits .or .i64 ((m : Int) * 256) (x : Int) = ((m * 256 + x : Nat) : Int) := by
  have e : m * 256 ||| x = m * 256 + x := by
    have := Nat.shiftLeft_add_eq_or_of_lt (b := x) (i := 8) (by omega) m
    rw [Nat.shiftLeft_eq] at this
    exact this.symm
  rw [show ((m : Int) * 256) = ((m * 256 : Nat) : Int) from by omega]
  have h1 : (BitVec.ofInt 64 ((m * 256 : Nat) : Int)).toNat = m * 256 := by
    rw [BitVec.ofInt_natCast, BitVec.toNat_ofNat]; exact Nat.mod_eq_of_lt (by omega)
  have h2 : (BitVec.ofInt 64 (x : Int)).toNat = x := by
    rw [BitVec.ofInt_natCast, BitVec.toNat_ofNat]; exact Nat.mod_eq_of_lt (by omega)
  show IntKind.i64.wrap ((BitVec.ofInt 64 ((m * 256 : Nat) : Int) ||| BitVec.ofInt 64 (x : Int)).toNat : Int) = _
  rw [BitVec.toNat_or, h1, h2, e, IntKind.wrap_i64]
  omega

/-- The next four bytes as a number. -/
def fourR (r : List UInt8 × Bool) : Nat × (List UInt8 × Bool) := (num4 (takeR r 4).1, (takeR r 4).2)

set_option maxRecDepth 100000 in
set_option maxHeartbeats 1000000 in
theorem rfour_any {O : Nat → Prop} (br : Nat) (r : List UInt8 × Bool) (w : World) (h : Reader w O br r.1 r.2) (hl : r.1.length ≤ 140737488355328) :
    Calls Try.prog 56 #[.pointer (some ⟨br, 0, none⟩)] w fun e w' => e = .returned (.int .i64 (fourR r).1) ∧ Reader w' O br (fourR r).2.1 (fourR r).2.2 ∧ Off (fun k => k = br) w w' := by
  have cT := rtake_any br r 4 w h hl
  unfold fourR
  have hlen : (takeR r 4).1.length ≤ 4 := by unfold takeR; split <;> simp; omega
  generalize (takeR r 4).1 = l at cT hlen ⊢
  generalize (takeR r 4).2 = r2 at cT ⊢
  clear h
  go_enter Try.func56, Try.ntmps56
  go_wp2_with (go_at_call 58; refine cT.mono ?_; rintro e w1 ⟨v1, rfl, hb1, hr1, ho1⟩; obtain ⟨A, cap, rfl, hcap, hnil, hc⟩ := id hb1)
  have HC := hid hc
  clear hc
  go_loopw [3, 9] (fun n i wr => ∃ k : Nat, i = .int .i64 k ∧ k ≤ l.length ∧ n = .int .i64 (num4 (l.take k) : Nat) ∧ wr = w1)
    (fun _ i _ => l.length - (intOf i).toNat)
  case atStart => exact ⟨0, rfl, Nat.zero_le _, rfl, rfl⟩
  case round =>
    obtain ⟨k, rfl, hkl, rfl, rfl⟩ := hrel
    by_cases hlt : k < l.length
    · obtain ⟨bb, off, rfl, hO, hcell⟩ := HC.out (by omega)
      obtain ⟨x, hx⟩ : ∃ x, l[k]? = some x := ⟨_, List.getElem?_eq_getElem hlt⟩
      have g0 := hcell k x hx
      have hsn : num4 (l.take (k + 1)) = num4 (l.take k) * 256 + x.toNat := by
        obtain ⟨hj, e⟩ := List.getElem?_eq_some_iff.1 hx
        rw [List.take_succ_eq_append_getElem hj, e, num4_snoc]
      have hlt4 : num4 (l.take k) < 16777216 := by
        have h1 := num4_lt (l.take k)
        have h2 : (l.take k).length ≤ 3 := by rw [List.length_take]; omega
        exact Nat.lt_of_lt_of_le h1 (Nat.pow_le_pow_right (n := 256) (by omega) h2)
      have hx8 := x.toNat_lt
      have HSN := hid hsn
      generalize num4 (l.take k) = m at hlt4 HSN ⊢
      have hor := bits_or_byte m x.toNat hlt4 (by omega)
      clear hcell hx hsn
      go_wp2
      go_roundw
      case rel => exact ⟨k + 1, by go_num, hlt, by rw [HSN.out]; simp, trivial⟩
      case measure => simp [intOf]; omega
    · have hke : k = l.length := by omega
      subst hke
      rw [List.take_length]
      go_wp2
      go_ret
      exact ⟨rfl, hr1, ho1⟩
end Go.Proofs.Ytkkmkkgjpmlhaaa
namespace Go.Proofs.Ytkkmkkgjpmlhaaa
open Go.RowKit Go.MapKept

/-- The votes that are read: the map, and what is left. -/
def votesR (me vmax : Int) : Nat → Int → TM → List UInt8 × Bool → TM × (List UInt8 × Bool)
  | 0, _, t, r => (t, r)
  | k + 1, last, t, r =>
    if (takeR (fourR (fourR r).2).2 (fourR (fourR r).2).1).2.2 || decide (((fourR r).1 : Int) ≤ last) || decide (vmax < ((fourR r).1 : Int)) then (t, ((takeR (fourR (fourR r).2).2 (fourR (fourR r).2).1).2.1, true))
    else votesR me vmax k (fourR r).1 (if hasT t (fourR r).1 me then t else setT t (fourR r).1 me (takeR (fourR (fourR r).2).2 (fourR (fourR r).2).1).1) (takeR (fourR (fourR r).2).2 (fourR (fourR r).2).1).2

theorem votesR_succ (me vmax : Int) (k : Nat) (last : Int) (t : TM) (r : List UInt8 × Bool) : votesR me vmax (k + 1) last t r =
    if (takeR (fourR (fourR r).2).2 (fourR (fourR r).2).1).2.2 || decide (((fourR r).1 : Int) ≤ last) || decide (vmax < ((fourR r).1 : Int)) then (t, ((takeR (fourR (fourR r).2).2 (fourR (fourR r).2).1).2.1, true))
    else votesR me vmax k (fourR r).1 (if hasT t (fourR r).1 me then t else setT t (fourR r).1 me (takeR (fourR (fourR r).2).2 (fourR (fourR r).2).1).1) (takeR (fourR (fourR r).2).2 (fourR (fourR r).2).1).2 := rfl

theorem takeR_len (r : List UInt8 × Bool) (n : Nat) : (takeR r n).2.1.length ≤ r.1.length ∧ (takeR r n).1.length ≤ r.1.length := by
  unfold takeR; split <;> simp <;> omega
theorem fourR_len (r : List UInt8 × Bool) : (fourR r).2.1.length ≤ r.1.length := (takeR_len r 4).1
theorem fourR_lt (r : List UInt8 × Bool) : (fourR r).1 < 4294967296 := by
  have h1 := num4_lt (takeR r 4).1
  have h2 : (takeR r 4).1.length ≤ 4 := by unfold takeR; split <;> simp; omega
  exact Nat.lt_of_lt_of_le h1 (Nat.pow_le_pow_right (n := 256) (by omega) h2)

theorem Reader.bad {O : Nat → Prop} {w : World} {br : Nat} {l : List UInt8} {bad : Bool} (h : Reader w O br l bad) : w.cell? ⟨br, 1, none⟩ = some (.bool bad) ∧ w.frozen? ⟨br, 1, none⟩ = false ∧ br < w.heap.size := by
  obtain ⟨v, hb, _⟩ := h
  exact ⟨by simp [World.cell?, hb], by simp [World.frozen?, hb], heap_lt hb⟩
theorem Reader.spoil {O : Nat → Prop} {w : World} {br : Nat} {l : List UInt8} {bad : Bool} (h : Reader w O br l bad) : Reader (w.setCell ⟨br, 1, none⟩ (.bool true)) O br l true := by
  obtain ⟨v, hb, hv⟩ := h
  exact ⟨v, heap_setCell_cells hb _, hv.keep (Off.setOne w ⟨br, 1, none⟩ (.bool true)) (fun k _ hk e => hk.1 e)⟩
theorem Reader.keep {F O : Nat → Prop} {w w1 : World} {br : Nat} {l : List UInt8} {bad : Bool} (h : Reader w O br l bad) (ho : Off F w w1) (hb : ¬ F br) (hf : ∀ k, k < w.heap.size → O k → ¬ F k) : Reader w1 O br l bad := by
  obtain ⟨v, h1, hv⟩ := h
  exact ⟨v, ho.heap_some h1 hb, hv.keep ho (fun k hk hO => hf k hk hO.2)⟩

/-- The blocks that reading votes into a map may change. -/
def RF (ρ : Roles) (i kk br : Nat) : Nat → Prop := fun k => k = br ∨ ((ρ k).1 = i ∧ ((ρ k).2.1 = kk ∨ (ρ k).2.1 = kk + 100))

def VotesPost (w : World) (ρ : Roles) (i kk bm br : Nat) (O : Nat → Prop) (t : TM) (r : List UInt8 × Bool) (e : Ending) (w' : World) : Prop :=
  e = .returned (.tuple #[]) ∧ ∃ ρ', Agr w ρ ρ' ∧ Outer w' ρ' i kk bm t ∧ Reader w' O br r.1 r.2 ∧ Off (RF ρ i kk br) w w'

set_option maxRecDepth 100000 in
set_option maxHeartbeats 4000000 in
theorem votes_any {O : Nat → Prop} {ρ : Roles} {i kk b br bm : Nat} {cs : Array Value} {me vmax : Int} {t : TM} (r : List UInt8 × Bool) (w : World) (hk : 10 ≤ kk) (hb : w.heap[b]? = some (.cells cs 100 (0, 0))) (hrb : ρ b = (i, 1, 0))
    (hme : cs[1]? = some (.int .i64 me)) (hvm : cs[4]? = some (.int .i64 vmax)) (hm : Outer w ρ i kk bm t) (hr : Reader w O br r.1 r.2) (hbr : (ρ br).1 ≠ i) (hO : ∀ k, O k → k < w.heap.size ∧ (ρ k).1 ≠ i) (hl : r.1.length ≤ 268435456) (hv0 : -1 ≤ vmax ∧ vmax ≤ 4294967296) :
    Calls Try.prog 57 #[.pointer (some ⟨br, 0, none⟩), .pointer (some ⟨b, 0, none⟩), .map (some bm)] w (VotesPost w ρ i kk bm br O (votesR me vmax (fourR r).1 (-1) t (fourR r).2).1 (votesR me vmax (fourR r).1 (-1) t (fourR r).2).2) := by
  have hlt := heap_lt hb
  have hltr := hr.bad.2.2
  have hbne : b ≠ br := by rintro rfl; rw [hrb] at hbr; exact hbr rfl
  have cF := rfour_any br r w hr (by omega)
  have hn4 := fourR_lt r
  have hle4 := fourR_len r
  obtain ⟨n, hn⟩ : ∃ n, n = (fourR r).1 := ⟨_, rfl⟩
  obtain ⟨r1, hr1⟩ : ∃ r1, r1 = (fourR r).2 := ⟨_, rfl⟩
  rw [← hn, ← hr1] at cF
  rw [← hn] at hn4 ⊢
  rw [← hr1] at hle4 ⊢
  have HM := hid hm
  have HO := hid hO
  clear hr hm hn hr1 hO
  go_enter Try.func57, Try.ntmps57
  go_wp2_with (go_at_call 56; refine cF.mono ?_; rintro e w1 ⟨rfl, hrd1, ho1⟩)
  have hRF1 : Off (RF ρ i kk br) w w1 := ho1.mono (fun k _ e => .inl e)
  have hm1 : Outer w1 ρ i kk bm t := HM.out.keep ho1 (Agr.refl _ _) (fun k _ e => by subst e; exact ⟨fun e => hbr (by rw [e]), fun v e => hbr (by rw [e]), fun e => hbr (by rw [e])⟩)
  go_loopw [6, 11] (fun l j wr => ∃ (k : Nat) (last : Int) (ρr : Roles) (tr : TM) (rr : List UInt8 × Bool), l = .int .i64 last ∧ j = .int .i64 k ∧ k ≤ n ∧ -1 ≤ last ∧ last ≤ 4294967296 ∧ Agr w ρ ρr ∧ Outer wr ρr i kk bm tr ∧ Reader wr O br rr.1 rr.2 ∧ Off (RF ρ i kk br) w wr ∧ rr.1.length ≤ 268435456 ∧ Hid (votesR me vmax (n - k) last tr rr = votesR me vmax n (-1) t r1))
    (fun _ j _ => n - (intOf j).toNat)
  case atStart => exact ⟨0, -1, ρ, t, r1, rfl, rfl, Nat.zero_le _, by omega, by omega, Agr.refl _ _, hm1, hrd1, hRF1, by omega, hid rfl⟩
  case round =>
    obtain ⟨k, last, ρr, tr, rr, rfl, rfl, hkn, hl0, hl1, hag, hmr, hrr, hoff, hlr, heq⟩ := hrel
    by_cases hlt2 : k < n
    · obtain ⟨m, hm⟩ : ∃ m, n - k = m + 1 := ⟨n - k - 1, by omega⟩
      have hnk : n - (k + 1) = m := by omega
      have hq := heq.out
      rw [hm] at hq
      rw [votesR_succ] at hq
      have cA := rfour_any br rr wr hrr (by omega)
      have hlA := fourR_len rr
      have hltA := fourR_lt rr
      obtain ⟨view, hview⟩ : ∃ v, v = (fourR rr).1 := ⟨_, rfl⟩
      obtain ⟨ra, hra⟩ : ∃ v, v = (fourR rr).2 := ⟨_, rfl⟩
      rw [← hview] at cA hltA hq
      rw [← hra] at cA hlA hq
      have hlB := fourR_len ra
      have hltB := fourR_lt ra
      obtain ⟨len, hlen⟩ : ∃ v, v = (fourR ra).1 := ⟨_, rfl⟩
      obtain ⟨rb, hrb'⟩ : ∃ v, v = (fourR ra).2 := ⟨_, rfl⟩
      have cB := fun W (hW : Reader W O br ra.1 ra.2) => rfour_any br ra W hW (by omega)
      rw [← hlen] at hltB hq
      rw [← hrb'] at hlB hq
      have cB' : ∀ W, Reader W O br ra.1 ra.2 → Calls Try.prog 56 #[.pointer (some ⟨br, 0, none⟩)] W fun e w' => e = .returned (.int .i64 (len : Nat)) ∧ Reader w' O br rb.1 rb.2 ∧ Off (fun k => k = br) W w' := fun W hW => by rw [hlen, hrb']; exact cB W hW
      have hlD := takeR_len rb len
      obtain ⟨val, hval⟩ : ∃ v, v = (takeR rb len).1 := ⟨_, rfl⟩
      obtain ⟨rd, hrd⟩ : ∃ v, v = (takeR rb len).2 := ⟨_, rfl⟩
      have cD : ∀ W, Reader W O br rb.1 rb.2 → Calls Try.prog 58 #[.pointer (some ⟨br, 0, none⟩), .int .i64 (len : Nat)] W fun e w' => ∃ v', e = .returned v' ∧ Bs w' (fun k => W.heap.size ≤ k) v' val ∧ Reader w' O br rd.1 rd.2 ∧ Off (fun k => k = br) W w' := fun W hW => by rw [hval, hrd]; exact rtake_any br rb len W hW (by omega)
      rw [← hval] at hlD hq
      rw [← hrd] at hlD hq
      have HQ := hid hq
      have HB := hid cB'
      have HD := hid cD
      clear hview hra hlen hrb' hval hrd cB cB' cD hq heq hm
      have hnb : ¬ RF ρ i kk br b := by
        rintro (e | ⟨_, e | e⟩)
        · exact hbne e
        · rw [hrb] at e; dsimp only at e; omega
        · rw [hrb] at e; dsimp only at e; omega
      have hbrr : (ρr br).1 ≠ i := by rw [hag br hltr]; exact hbr
      have HMR := hid hmr
      have HAG := hid hag
      clear hmr hag hrr
      cases hbad : rd.2 with
      | true =>
        have hres : (tr, (rd.1, true)) = votesR me vmax n (-1) t r1 := by have h9 := HQ.out; rw [hbad] at h9; simpa using h9
        have HR := hid hres
        clear hres
        go_wp2_with (first | (go_at_call 58; refine (HD.out w3 hrd3).mono ?_; rintro e w4 ⟨v4, rfl, hv4, hrd4, ho4⟩; rw [hbad] at hrd4; obtain ⟨gb, fb, _⟩ := hrd4.bad; have hoX := (ho2.trans ho3 (fun _ _ e => e)).trans ho4 (fun _ _ e => e); have hoff4 := hoff.trans hoX (fun y _ e => Or.inl e); have g1 : w4.cell? ⟨b, 1, none⟩ = some (.int .i64 me) := (by have h9 := hoff4.heap_some hb hnb; simp [World.cell?, h9, hme]); have g4 : w4.cell? ⟨b, 4, none⟩ = some (.int .i64 vmax) := (by have h9 := hoff4.heap_some hb hnb; simp [World.cell?, h9, hvm])) | (go_at_call 56; refine (HB.out w2 hrd2).mono ?_; rintro e w3 ⟨rfl, hrd3, ho3⟩) | (go_at_call 56; refine cA.mono ?_; rintro e w2 ⟨rfl, hrd2, ho2⟩))
        refine bodyPost_ret (results_none rfl _ _ _) rfl ?_
        have hoS := hoX.trans (Off.setOne w4 ⟨br, 1, none⟩ (.bool true)) (fun _ _ e => e)
        refine ⟨rfl, ρr, HAG.out, ?_, ?_, hoff.trans hoS (fun y _ e => Or.inl e)⟩
        · rw [← HR.out]; exact HMR.out.keep hoS (Agr.refl _ _) (fun y _ e => by subst e; exact ⟨fun e => hbrr (by rw [e]), fun v e => hbrr (by rw [e]), fun e => hbrr (by rw [e])⟩)
        · rw [← HR.out]; exact hrd4.spoil
      | false =>
        by_cases hv1 : (view : Int) ≤ last
        · have hres : (tr, (rd.1, true)) = votesR me vmax n (-1) t r1 := by have h9 := HQ.out; rw [hbad, decide_eq_true hv1] at h9; simpa using h9
          have HR := hid hres
          clear hres
          go_wp2_with (first | (go_at_call 58; refine (HD.out w3 hrd3).mono ?_; rintro e w4 ⟨v4, rfl, hv4, hrd4, ho4⟩; rw [hbad] at hrd4; obtain ⟨gb, fb, _⟩ := hrd4.bad; have hoX := (ho2.trans ho3 (fun _ _ e => e)).trans ho4 (fun _ _ e => e); have hoff4 := hoff.trans hoX (fun y _ e => Or.inl e); have g1 : w4.cell? ⟨b, 1, none⟩ = some (.int .i64 me) := (by have h9 := hoff4.heap_some hb hnb; simp [World.cell?, h9, hme]); have g4 : w4.cell? ⟨b, 4, none⟩ = some (.int .i64 vmax) := (by have h9 := hoff4.heap_some hb hnb; simp [World.cell?, h9, hvm])) | (go_at_call 56; refine (HB.out w2 hrd2).mono ?_; rintro e w3 ⟨rfl, hrd3, ho3⟩) | (go_at_call 56; refine cA.mono ?_; rintro e w2 ⟨rfl, hrd2, ho2⟩))
          refine bodyPost_ret (results_none rfl _ _ _) rfl ?_
          have hoS := hoX.trans (Off.setOne w4 ⟨br, 1, none⟩ (.bool true)) (fun _ _ e => e)
          refine ⟨rfl, ρr, HAG.out, ?_, ?_, hoff.trans hoS (fun y _ e => Or.inl e)⟩
          · rw [← HR.out]; exact HMR.out.keep hoS (Agr.refl _ _) (fun y _ e => by subst e; exact ⟨fun e => hbrr (by rw [e]), fun v e => hbrr (by rw [e]), fun e => hbrr (by rw [e])⟩)
          · rw [← HR.out]; exact hrd4.spoil
        · by_cases hv2 : vmax < (view : Int)
          · have hres : (tr, (rd.1, true)) = votesR me vmax n (-1) t r1 := by have h9 := HQ.out; rw [hbad, decide_eq_true hv2] at h9; simpa using h9
            have HR := hid hres
            have hv1' : decide ((view : Int) ≤ last) = false := decide_eq_false hv1
            clear hres
            go_wp2_with (first | (go_at_call 58; refine (HD.out w3 hrd3).mono ?_; rintro e w4 ⟨v4, rfl, hv4, hrd4, ho4⟩; rw [hbad] at hrd4; obtain ⟨gb, fb, _⟩ := hrd4.bad; have hoX := (ho2.trans ho3 (fun _ _ e => e)).trans ho4 (fun _ _ e => e); have hoff4 := hoff.trans hoX (fun y _ e => Or.inl e); have g1 : w4.cell? ⟨b, 1, none⟩ = some (.int .i64 me) := (by have h9 := hoff4.heap_some hb hnb; simp [World.cell?, h9, hme]); have g4 : w4.cell? ⟨b, 4, none⟩ = some (.int .i64 vmax) := (by have h9 := hoff4.heap_some hb hnb; simp [World.cell?, h9, hvm])) | (go_at_call 56; refine (HB.out w2 hrd2).mono ?_; rintro e w3 ⟨rfl, hrd3, ho3⟩) | (go_at_call 56; refine cA.mono ?_; rintro e w2 ⟨rfl, hrd2, ho2⟩))
            refine bodyPost_ret (results_none rfl _ _ _) rfl ?_
            have hoS := hoX.trans (Off.setOne w4 ⟨br, 1, none⟩ (.bool true)) (fun _ _ e => e)
            refine ⟨rfl, ρr, HAG.out, ?_, ?_, hoff.trans hoS (fun y _ e => Or.inl e)⟩
            · rw [← HR.out]; exact HMR.out.keep hoS (Agr.refl _ _) (fun y _ e => by subst e; exact ⟨fun e => hbrr (by rw [e]), fun v e => hbrr (by rw [e]), fun e => hbrr (by rw [e])⟩)
            · rw [← HR.out]; exact hrd4.spoil
          · have hres : votesR me vmax m view (if hasT tr view me then tr else setT tr view me val) rd = votesR me vmax n (-1) t r1 := by
              have h9 := HQ.out; rw [hbad, decide_eq_false hv1, decide_eq_false hv2] at h9; simpa using h9
            have HR := hid hres
            have hv1' : decide ((view : Int) ≤ last) = false := decide_eq_false hv1
            have hv2' : decide (vmax < (view : Int)) = false := decide_eq_false hv2
            clear hres
            go_wp2_with (first | (go_at_call 70; refine (set_any (l := val) w4 hk (HMR.out.keep hoX (Agr.refl _ _) (fun y _ e => by subst e; exact ⟨fun e => hbrr (by rw [e]), fun v e => hbrr (by rw [e]), fun e => hbrr (by rw [e])⟩)) hv4 (by omega)).mono ?_; rintro e w5 ⟨rfl, ρ5, ha5, hout5, ho5⟩) | (go_at_call 58; refine (HD.out w3 hrd3).mono ?_; rintro e w4 ⟨v4, rfl, hv4, hrd4, ho4⟩; rw [hbad] at hrd4; obtain ⟨gb, fb, _⟩ := hrd4.bad; have hoX := (ho2.trans ho3 (fun _ _ e => e)).trans ho4 (fun _ _ e => e); have hoff4 := hoff.trans hoX (fun y _ e => Or.inl e); have g1 : w4.cell? ⟨b, 1, none⟩ = some (.int .i64 me) := (by have h9 := hoff4.heap_some hb hnb; simp [World.cell?, h9, hme]); have g4 : w4.cell? ⟨b, 4, none⟩ = some (.int .i64 vmax) := (by have h9 := hoff4.heap_some hb hnb; simp [World.cell?, h9, hvm])) | (go_at_call 56; refine (HB.out w2 hrd2).mono ?_; rintro e w3 ⟨rfl, hrd3, ho3⟩) | (go_at_call 56; refine cA.mono ?_; rintro e w2 ⟨rfl, hrd2, ho2⟩))
            have hcl : ∀ y, y < w.heap.size → (ρr y = (i, kk, 0) ∨ ρr y = (i, kk + 100, (view : Int))) → RF ρ i kk br y := fun y hy e => by
              rw [HAG.out y hy] at e
              rcases e with e | e
              · exact .inr ⟨by rw [e], .inl (by rw [e])⟩
              · exact .inr ⟨by rw [e], .inr (by rw [e])⟩
            have hrd5 : Reader w5 O br rd.1 rd.2 := by
              rw [hbad]
              refine hrd4.keep ho5 (fun e => hbrr (by rcases e with e | e <;> rw [e])) (fun y _ hy e => ?_)
              obtain ⟨h1, h2⟩ := HO.out y hy
              rw [HAG.out y h1] at e
              exact h2 (by rcases e with e | e <;> rw [e])
            have hag5 : Agr w ρ ρ5 := HAG.out.trans ha5 hoff4.size
            have hoff5 := hoff4.trans ho5 hcl
            have HR5 := hid hrd5
            clear hrd5 hcl
            go_roundw
            case rel => exact ⟨k + 1, view, ρ5, _, rd, rfl, by go_num, hlt2, by omega, by omega, hag5, hout5, HR5.out, hoff5, by omega, hid (by rw [hnk]; exact HR.out)⟩
            case measure => simp [intOf]; omega
    · have hke : k = n := by omega
      subst hke
      have hres := heq.out
      rw [Nat.sub_self] at hres
      have HR := hid hres
      clear hres heq
      go_wp2
      go_end0
      refine ⟨rfl, ρr, hag, ?_, ?_, hoff⟩
      · rw [← HR.out]; exact hmr
      · rw [← HR.out]; exact hrr
end Go.Proofs.Ytkkmkkgjpmlhaaa
namespace Go.Proofs.Ytkkmkkgjpmlhaaa

/-- How many bytes the values of a map of maps take. -/
def tsize (t : TM) : Nat := (t.map fun p => (p.2.map fun q => 8 + q.2.length).sum).sum

theorem sum_put {α : Type} (f : Int × α → Nat) (m : List (Int × α)) (k : Int) (v : α) (hn : (m.map (·.1)).Nodup) :
    ((put m k v).map f).sum + (match m.lookup k with | some u => f (k, u) | none => 0) = (m.map f).sum + f (k, v) := by
  induction m with
  | nil => simp [put]
  | cons p m ih =>
    simp only [List.map_cons, List.nodup_cons] at hn
    by_cases e : p.1 = k
    · have hl : (p :: m).lookup k = some p.2 := by simp [List.lookup, e]
      have hput : put (p :: m) k v = (k, v) :: m := by
        unfold put
        rw [if_pos (by simp [e])]
        simp only [List.map_cons, e, beq_self_eq_true, if_true, List.cons.injEq, true_and]
        conv => rhs; rw [← List.map_id m]
        apply List.map_congr_left
        intro q hq
        rw [if_neg]
        · rfl
        · intro h; exact hn.1 (List.mem_map.2 ⟨q, hq, by rw [e]; simpa using h⟩)
      rw [hl, hput]
      have hp : f (k, p.2) = f p := by rw [← e]
      simp only [List.map_cons, List.sum_cons, hp]
      omega
    · have hl : (p :: m).lookup k = m.lookup k := by
        simp only [List.lookup]; rw [show (k == p.1) = false from by simpa using Ne.symm e]
      have hput : put (p :: m) k v = p :: put m k v := by
        unfold put
        simp only [List.any_cons, show (p.1 == k) = false from by simpa using e, Bool.false_or]
        split <;> simp [e]
      rw [hl, hput]
      have := ih hn.2
      simp only [List.map_cons, List.sum_cons]
      omega

theorem tsize_setT {t : TM} (h : TMFine t) (view who : Int) (l : List UInt8) : tsize (setT t view who l) ≤ tsize t + 8 + l.length := by
  unfold tsize setT
  have h1 := sum_put (fun p : Int × List (Int × List UInt8) => (p.2.map fun q => 8 + q.2.length).sum) t view (put (inner t view) who l) h.1.1
  have h2 := sum_put (fun q : Int × List UInt8 => 8 + q.2.length) (inner t view) who l (h.inner view).1.1
  have h3 : ((inner t view).map fun q => 8 + q.2.length).sum ≤ (match t.lookup view with | some u => (u.map fun q => 8 + q.2.length).sum | none => 0) := by
    unfold inner
    cases t.lookup view with
    | none => simp
    | some u => simp
  dsimp only at h1 h2
  split at h1 <;> split at h3 <;> simp_all <;> omega

theorem takeR_false {r : List UInt8 × Bool} {n : Nat} (h : (takeR r n).2.2 = false) : n ≤ r.1.length ∧ r.2 = false ∧ (takeR r n).1.length = n ∧ (takeR r n).2.1.length = r.1.length - n := by
  unfold takeR at *
  split at h
  · rename_i hn
    rw [if_pos hn]
    exact ⟨hn, h, by simp; omega, by simp⟩
  · cases h

theorem votesR_fine {me vmax : Int} (hm : 0 ≤ me ∧ me ≤ 4294967296) : ∀ (k : Nat) (last : Int) (t : TM) (r : List UInt8 × Bool), TMFine t → r.1.length ≤ 268435456 →
    TMFine (votesR me vmax k last t r).1 ∧ tsize (votesR me vmax k last t r).1 + (votesR me vmax k last t r).2.1.length ≤ tsize t + r.1.length
  | 0, _, t, r, ht, _ => ⟨ht, Nat.le_refl _⟩
  | k + 1, last, t, r, ht, hl => by
    rw [votesR_succ]
    have l1 := fourR_len r
    have l2 := fourR_len (fourR r).2
    have l3 := takeR_len (fourR (fourR r).2).2 (fourR (fourR r).2).1
    split
    · exact ⟨ht, by dsimp only; omega⟩
    · rename_i hc
      simp only [Bool.or_eq_true, not_or, Bool.not_eq_true] at hc
      obtain ⟨h1, h2, h3, h4⟩ := takeR_false hc.1.1
      obtain ⟨g1, g2, _, g4⟩ := takeR_false (n := 4) h2
      obtain ⟨f1, _, _, f4⟩ := takeR_false (n := 4) g2
      have hlt := fourR_lt r
      have ht' : TMFine (if hasT t (fourR r).1 me then t else setT t (fourR r).1 me (takeR (fourR (fourR r).2).2 (fourR (fourR r).2).1).1) := by
        split
        · exact ht
        · exact ht.setT (by omega) (by omega) hm.1 hm.2 (by unfold Short; omega)
      have hs' : tsize (if hasT t (fourR r).1 me then t else setT t (fourR r).1 me (takeR (fourR (fourR r).2).2 (fourR (fourR r).2).1).1) ≤ tsize t + 8 + (takeR (fourR (fourR r).2).2 (fourR (fourR r).2).1).1.length := by
        split
        · omega
        · exact tsize_setT ht _ _ _
      obtain ⟨k1, k2⟩ := votesR_fine hm k (fourR r).1 _ (takeR (fourR (fourR r).2).2 (fourR (fourR r).2).1).2 ht' (by omega)
      refine ⟨k1, Nat.le_trans k2 ?_⟩
      have e4 : (fourR (fourR r).2).2.1.length = (fourR r).2.1.length - 4 := g4
      have e5 : (fourR r).2.1.length = r.1.length - 4 := f4
      have e6 : 4 ≤ (fourR r).2.1.length := g1
      omega

theorem mine_size {c : CoreM} {kind : Int} {t : TM} (ht : TMFine t) : (votesBytes (c.mine kind t)).length ≤ tsize t := by
  have hp : ((CoreM.keys t).filterMap (c.mineAt kind t)).Perm ((t.map (·.1)).filterMap (c.mineAt kind t)) := (sortZ_perm _).filterMap _
  have hl : (votesBytes (c.mine kind t)).length = (votesBytes ((t.map (·.1)).filterMap (c.mineAt kind t))).length := by
    unfold votesBytes CoreM.mine
    exact (hp.flatMap_right _).length_eq
  rw [hl]
  have hall : ∀ p ∈ t, inner t p.1 = p.2 := fun p hp => by unfold inner; rw [lookup_of_mem ht.1.1 hp]; rfl
  unfold tsize votesBytes
  generalize hT : t = T at hall
  have key : ∀ (s : TM), (∀ p ∈ s, inner T p.1 = p.2) → (((s.map (·.1)).filterMap (c.mineAt kind T)).flatMap voteBytes).length ≤ (s.map fun p => (p.2.map fun q => 8 + q.2.length).sum).sum := by
    intro s
    induction s with
    | nil => intro _; simp
    | cons p s ih =>
      intro hs
      have hi := ih (fun q hq => hs q (List.mem_cons_of_mem _ hq))
      have hp := hs p List.mem_cons_self
      simp only [List.map_cons, List.sum_cons, List.filterMap_cons]
      have hin : ∀ (u : List (Int × List UInt8)) (l : List UInt8), u.lookup c.me = some l → 8 + l.length ≤ (u.map fun q => 8 + q.2.length).sum := by
        intro u
        induction u with
        | nil => intro l h; cases h
        | cons q u ihu =>
          intro l h
          simp only [List.lookup] at h
          simp only [List.map_cons, List.sum_cons]
          split at h
          · cases h; omega
          · have := ihu l h; omega
      unfold CoreM.mineAt
      rw [hp]
      cases hlk : p.2.lookup c.me with
      | none => simp only [Option.map_none]; exact Nat.le_trans hi (Nat.le_add_left _ _)
      | some l =>
        have h8 := hin _ _ hlk
        have hvb : (voteBytes ⟨kind, c.me, c.slot, p.1, -1, l⟩).length = 8 + l.length := by unfold voteBytes; rw [List.length_append, List.length_append, be4_len, be4_len]
        simp only [Option.map_some, List.flatMap_cons, List.length_append, hvb]
        exact Nat.add_le_add h8 hi
  exact key T hall

/-- The lock is the last Commit. -/
def CoreM.withLock (c : CoreM) : CoreM := match (CoreM.keys c.comms).getLast? with
  | none => c
  | some view => { c with lock := view, locked := ((inner c.comms view).lookup c.me).getD [] }

/-- The parts that are read. -/
structure Read where
  view : Nat
  preps : TM
  comms : TM
  kind : List UInt8
  value : List UInt8
  rest : List UInt8 × Bool

def readAll (me : Int) (l : List UInt8) : Read :=
  let a := fourR (l, false)
  let p := votesR me a.1 (fourR a.2).1 (-1) [] (fourR a.2).2
  let q := votesR me a.1 (fourR p.2).1 (-1) [] (fourR p.2).2
  let k := takeR q.2 1
  let d := fourR k.2
  let v := takeR d.2 d.1
  ⟨a.1, p.1, q.1, k.1, v.1, v.2⟩

def Read.wrong (r : Read) : Bool := r.rest.2 || decide (1048576 < (r.view : Int)) || (r.kind.length != 1) || decide (1 < (r.kind.headD 0).toNat)
def Read.core (r : Read) (n me slot : Int) : CoreM := { n := n, me := me, slot := slot, view := r.view, preps := r.preps, comms := r.comms, value := r.value, decided := r.kind.headD 0 == 1 }
/-- Of. -/
def ofM (n me slot : Int) (l : List UInt8) : Option CoreM :=
  if (readAll me l).wrong then none
  else if ((readAll me l).core n me slot).withLock.bytes == l then some ((readAll me l).core n me slot).withLock else none

theorem ofM_bytes {n me slot : Int} {l : List UInt8} {c : CoreM} (h : ofM n me slot l = some c) : c.bytes = l := by
  unfold ofM at h
  split at h
  · cases h
  · split at h
    · cases h; rename_i hb; simpa using hb
    · cases h

theorem readAll_fine {n me slot : Int} {l : List UInt8} (h : 4 ≤ n ∧ n ≤ 64 ∧ 1 ≤ me ∧ me ≤ n ∧ 0 ≤ slot ∧ slot ≤ 256) (hl : l.length ≤ 268435456) :
    TMFine (readAll me l).preps ∧ TMFine (readAll me l).comms ∧ tsize (readAll me l).preps + tsize (readAll me l).comms + (readAll me l).value.length ≤ l.length ∧ (readAll me l).view < 4294967296 ∧ (readAll me l).kind.length ≤ 1 := by
  have hm : 0 ≤ me ∧ me ≤ 4294967296 := by omega
  have l1 := fourR_len (l, false)
  have l2 := fourR_len (fourR (l, false)).2
  obtain ⟨p1, p2⟩ := votesR_fine (vmax := (fourR (l, false)).1) hm (fourR (fourR (l, false)).2).1 (-1) [] (fourR (fourR (l, false)).2).2 TMFine.nil (by simp only at l1; omega)
  have hz : tsize [] = 0 := rfl
  simp only at l1
  rw [hz] at p2
  unfold readAll
  dsimp only
  generalize votesR me (fourR (l, false)).1 (fourR (fourR (l, false)).2).1 (-1) [] (fourR (fourR (l, false)).2).2 = p at p1 p2 ⊢
  have l3 := fourR_len p.2
  obtain ⟨q1, q2⟩ := votesR_fine (vmax := (fourR (l, false)).1) hm (fourR p.2).1 (-1) [] (fourR p.2).2 TMFine.nil (by omega)
  rw [hz] at q2
  generalize votesR me (fourR (l, false)).1 (fourR p.2).1 (-1) [] (fourR p.2).2 = q at q1 q2 ⊢
  have l4 := takeR_len q.2 1
  have l5 := fourR_len (takeR q.2 1).2
  have l6 := takeR_len (fourR (takeR q.2 1).2).2 (fourR (takeR q.2 1).2).1
  refine ⟨p1, q1, by omega, fourR_lt _, ?_⟩
  unfold takeR
  split <;> simp <;> omega

theorem withLock_same (c : CoreM) : c.withLock.n = c.n ∧ c.withLock.me = c.me ∧ c.withLock.slot = c.slot ∧ c.withLock.view = c.view ∧ c.withLock.preps = c.preps ∧ c.withLock.comms = c.comms ∧ c.withLock.decided = c.decided ∧ c.withLock.value = c.value := by
  unfold CoreM.withLock
  split <;> exact ⟨rfl, rfl, rfl, rfl, rfl, rfl, rfl, rfl⟩

theorem withLock_fine {c : CoreM} (h : c.Fine) : c.withLock.Fine := by
  unfold CoreM.withLock
  split
  · exact h
  · rename_i view hv
    obtain ⟨v, hm⟩ := mem_keys.1 (List.mem_of_getLast? hv)
    have hk := h.comms.1.2 _ hm
    have hs : Short (((inner c.comms view).lookup c.me).getD []) := by
      cases hl : (inner c.comms view).lookup c.me with
      | none => exact show (0 : Nat) ≤ 268435456 by decide
      | some l => exact (h.comms.inner view).lookup hl
    obtain ⟨a, b1, b2, b3, b4, b5, b6, b7, b8, b9, b10, b11, b12, b13⟩ := h
    dsimp only at hk
    exact ⟨⟨a.1, a.2, a.3, a.4, a.5, a.6, a.7, a.8⟩, b1, hs, b3, b4, b5, b6, b7, b8, b9, b10, b11, show -1 ≤ view by omega, hk.2⟩

theorem read_fine (r : Read) {n me slot : Int} (h : 4 ≤ n ∧ n ≤ 64 ∧ 1 ≤ me ∧ me ≤ n ∧ 0 ≤ slot ∧ slot ≤ 256) (h1 : TMFine r.preps) (h2 : TMFine r.comms) (h3 : r.value.length ≤ 268435456) (h4 : r.view < 4294967296) : (r.core n me slot).Fine := by
  obtain ⟨n0, n1, m0, m1, s0, s1⟩ := h
  exact {
    ok := ⟨n0, n1, m0, m1, s0, s1, Int.natCast_nonneg r.view, show (r.view : Int) ≤ 4294967296 by omega⟩
    wish := show (0 : Nat) ≤ 268435456 by decide
    locked := show (0 : Nat) ≤ 268435456 by decide
    value := h3
    props := KeysFine.nil
    propsV := fun p hp => (List.not_mem_nil hp).elim
    preps := h1
    comms := h2
    turns := TMFine.nil
    seen := KeysFine.nil
    seenV := fun p hp => (List.not_mem_nil hp).elim
    decs := ToldFine.nil
    lock0 := show (-1 : Int) ≤ -1 by decide
    lock1 := show (-1 : Int) ≤ 4294967296 by decide }
theorem core_fine {n me slot : Int} {l : List UInt8} (h : 4 ≤ n ∧ n ≤ 64 ∧ 1 ≤ me ∧ me ≤ n ∧ 0 ≤ slot ∧ slot ≤ 256) (hl : l.length ≤ 268435456) : ((readAll me l).core n me slot).Fine := by
  obtain ⟨h1, h2, h3, h4, h5⟩ := readAll_fine h hl
  exact read_fine _ h h1 h2 (by omega) h4

theorem block_len (l : List Vote) : (block l).length = 4 + (votesBytes l).length := by unfold block; rw [List.length_append, be4_len]
theorem bytes_len {c : CoreM} (h : c.Fine) : c.bytes.length ≤ 17 + tsize c.preps + tsize c.comms + c.value.length := by
  have h1 := mine_size (c := c) (kind := 2) h.preps
  have h2 := mine_size (c := c) (kind := 3) h.comms
  unfold CoreM.bytes
  rw [List.length_append, List.length_append, List.length_append, be4_len, block_len, block_len]
  split
  · rw [List.length_cons, List.length_append, be4_len]; omega
  · rw [List.length_cons, be4_len]; omega
theorem read_len (r : Read) {n me slot : Int} {m : Nat} (hf : (r.core n me slot).Fine) (hs : tsize r.preps + tsize r.comms + r.value.length ≤ m) : (r.core n me slot).withLock.bytes.length ≤ 17 + m := by
  have h1 := bytes_len (withLock_fine hf)
  obtain ⟨_, _, _, _, e1, e2, _, e3⟩ := withLock_same (r.core n me slot)
  rw [e1, e2, e3] at h1
  simp only [Read.core] at h1
  simp only [Read.core]
  omega
theorem ofCore_len {n me slot : Int} {l : List UInt8} (h : 4 ≤ n ∧ n ≤ 64 ∧ 1 ≤ me ∧ me ≤ n ∧ 0 ≤ slot ∧ slot ≤ 256) (hl : l.length ≤ 268435456) : ((readAll me l).core n me slot).withLock.bytes.length ≤ 4294967295 :=
  Nat.le_trans (read_len _ (core_fine h hl) (readAll_fine h hl).2.2.1) (by omega)
theorem ofM_fine {n me slot : Int} {l : List UInt8} {c : CoreM} (h : 4 ≤ n ∧ n ≤ 64 ∧ 1 ≤ me ∧ me ≤ n ∧ 0 ≤ slot ∧ slot ≤ 256) (hl : l.length ≤ 268435456) (ho : ofM n me slot l = some c) : c.Fine := by
  unfold ofM at ho
  split at ho
  · cases ho
  · split at ho
    · cases ho; exact withLock_fine (core_fine h hl)
    · cases ho
end Go.Proofs.Ytkkmkkgjpmlhaaa
namespace Go.Proofs.Ytkkmkkgjpmlhaaa

theorem be4_byte (m : Nat) : (UInt8.ofNat (((m : Int) % 256).toNat)).toNat = m % 256 := by
  have e : ((m : Int) % 256).toNat = m % 256 := by omega
  rw [e]
  simp
theorem num4_be4 (n : Int) (h0 : 0 ≤ n) (h1 : n < 4294967296) : num4 (be4 n) = n.toNat := by
  obtain ⟨m, rfl⟩ : ∃ m : Nat, n = m := ⟨n.toNat, by omega⟩
  have e1 : (m : Int) / 16777216 = ((m / 16777216 : Nat) : Int) := by omega
  have e2 : (m : Int) / 65536 = ((m / 65536 : Nat) : Int) := by omega
  have e3 : (m : Int) / 256 = ((m / 256 : Nat) : Int) := by omega
  unfold be4 num4
  rw [e1, e2, e3]
  simp only [List.foldl_cons, List.foldl_nil, be4_byte]
  omega
theorem takeR_app (l rest : List UInt8) (bad : Bool) : takeR (l ++ rest, bad) l.length = (l, (rest, bad)) := by
  unfold takeR
  rw [if_pos (by simp)]
  simp
theorem fourR_app {n : Int} (h0 : 0 ≤ n) (h1 : n < 4294967296) (rest : List UInt8) (bad : Bool) : fourR (be4 n ++ rest, bad) = (n.toNat, (rest, bad)) := by
  have e := takeR_app (be4 n) rest bad
  rw [be4_len] at e
  unfold fourR
  rw [e]
  dsimp only
  rw [num4_be4 n h0 h1]

theorem filterMap_same {α β : Type} {f g : α → Option β} : ∀ {l : List α}, (∀ x ∈ l, f x = g x) → l.filterMap f = l.filterMap g
  | [], _ => rfl
  | x :: l, h => by
    rw [List.filterMap_cons, List.filterMap_cons, h x List.mem_cons_self, filterMap_same (fun y hy => h y (List.mem_cons_of_mem _ hy))]
/-- A map that holds the votes of one peer alone. -/
def ownMap (me : Int) (l : List Vote) : TM := l.map fun x => (x.view, [(me, x.value)])
theorem inner_none {t : TM} {v : Int} (h : t.lookup v = none) : inner t v = [] := by unfold inner; rw [h]; rfl
theorem setT_new {t : TM} {v me : Int} {l : List UInt8} (h : t.lookup v = none) : setT t v me l = t ++ [(v, [(me, l)])] := by
  unfold setT
  rw [inner_none h]
  have e : put ([] : List (Int × List UInt8)) me l = [(me, l)] := rfl
  rw [e]
  unfold put
  rw [any_lookup, h]
  rfl
theorem lookup_none {α : Type} {m : List (Int × α)} {k : Int} (h : ∀ p ∈ m, p.1 ≠ k) : m.lookup k = none := by
  cases hl : m.lookup k with
  | none => rfl
  | some v => exact absurd rfl (h _ (lookup_mem hl))
theorem votesR_back (me vmax : Int) : ∀ (l done : List Vote) (last : Int) (rest : List UInt8), (∀ x ∈ l, 0 ≤ x.view ∧ x.view ≤ vmax ∧ x.view < 4294967296 ∧ x.value.length < 4294967296) → l.Pairwise (fun x y => x.view < y.view) →
    (∀ x ∈ l, last < x.view) → (∀ x ∈ l, ∀ y ∈ done, y.view ≠ x.view) → votesR me vmax l.length last (ownMap me done) (votesBytes l ++ rest, false) = (ownMap me (done ++ l), (rest, false))
  | [], done, last, rest, _, _, _, _ => by simp [votesR, votesBytes]
  | x :: l, done, last, rest, hb, hp, hl, hd => by
    obtain ⟨b0, b1, b2, b3⟩ := hb x List.mem_cons_self
    have h1 := hl x List.mem_cons_self
    have hp2 := List.pairwise_cons.1 hp
    have e : votesBytes (x :: l) ++ rest = be4 x.view ++ (be4 x.value.length ++ (x.value ++ (votesBytes l ++ rest))) := by
      unfold votesBytes voteBytes
      simp [List.append_assoc]
    have e1 := fourR_app b0 b2 (be4 x.value.length ++ (x.value ++ (votesBytes l ++ rest))) false
    have e2 := fourR_app (Int.natCast_nonneg x.value.length) (by omega) (x.value ++ (votesBytes l ++ rest)) false
    rw [Int.toNat_natCast] at e2
    have e3 := takeR_app x.value (votesBytes l ++ rest) false
    have ev : ((x.view.toNat : Nat) : Int) = x.view := by omega
    have hnone : (ownMap me done).lookup x.view = none := lookup_none (fun p hp => by
      obtain ⟨y, hy, rfl⟩ := List.mem_map.1 hp
      exact hd x List.mem_cons_self y hy)
    have hh : hasT (ownMap me done) x.view me = false := by unfold hasT; rw [inner_none hnone]; rfl
    rw [List.length_cons, votesR_succ, e, e1]
    dsimp only
    rw [e2]
    dsimp only
    rw [e3, ev]
    dsimp only
    rw [hh, if_neg (by simp; omega), if_neg (by decide), setT_new hnone]
    have em : ownMap me done ++ [(x.view, [(me, x.value)])] = ownMap me (done ++ [x]) := by unfold ownMap; simp
    rw [em, votesR_back me vmax l (done ++ [x]) x.view rest (fun y hy => hb y (List.mem_cons_of_mem _ hy)) hp2.2 (fun y hy => hp2.1 y hy) (fun y hy z hz => by
      rcases List.mem_append.1 hz with hz | hz
      · exact hd y (List.mem_cons_of_mem _ hy) z hz
      · rw [List.mem_singleton.1 hz]
        have := hp2.1 y hy
        omega)]
    simp

/-! ### The keys rise -/
theorem sortZ_of_sorted {l : List Int} (h : l.Pairwise (· ≤ ·)) : sortZ l = l :=
  List.Perm.eq_of_pairwise (le := fun a b => a ≤ b) (fun a b _ _ h1 h2 => Int.le_antisymm h1 h2) (sortZ_sorted l) h (sortZ_perm l)
theorem keys_rise {α : Type} {m : List (Int × α)} (hn : (m.map (·.1)).Nodup) : (CoreM.keys m).Pairwise (· < ·) := by
  have h1 : (CoreM.keys m).Nodup := ((sortZ_perm _).nodup_iff).2 hn
  have h2 : (CoreM.keys m).Pairwise (· ≤ ·) := sortZ_sorted _
  exact (List.Pairwise.and h1 h2).imp (fun h => by omega)
section
variable {c : CoreM} {kind : Int} {t : TM}
theorem mine_rise (ht : TMFine t) : (c.mine kind t).Pairwise (fun x y => x.view < y.view) := by
  unfold CoreM.mine
  rw [List.pairwise_filterMap]
  refine (keys_rise ht.1.1).imp (fun {a b} hab x hx y hy => ?_)
  unfold CoreM.mineAt at hx hy
  obtain ⟨_, _, rfl⟩ := Option.map_eq_some_iff.1 hx
  obtain ⟨_, _, rfl⟩ := Option.map_eq_some_iff.1 hy
  exact hab
theorem mine_has (ht : TMFine t) {v : Int} {l : List UInt8} (h : (inner t v).lookup c.me = some l) : (⟨kind, c.me, c.slot, v, -1, l⟩ : Vote) ∈ c.mine kind t := by
  unfold CoreM.mine
  refine List.mem_filterMap.2 ⟨v, mem_keys.2 ?_, by unfold CoreM.mineAt; rw [h]; rfl⟩
  unfold inner at h
  cases hl : t.lookup v with
  | none => rw [hl] at h; cases h
  | some u => exact ⟨u, lookup_mem hl⟩
theorem mine_form {x : Vote} (h : x ∈ c.mine kind t) : x = ⟨kind, c.me, c.slot, x.view, -1, x.value⟩ := by
  obtain ⟨h1, h2, h3, h4, _⟩ := mine_mem h
  cases x
  simp_all
end
theorem ownMap_keys {me : Int} {l : List Vote} (h : l.Pairwise (fun x y => x.view < y.view)) : CoreM.keys (ownMap me l) = l.map (·.view) := by
  unfold CoreM.keys ownMap
  rw [List.map_map]
  apply sortZ_of_sorted
  exact List.pairwise_map.2 (h.imp (fun e => Int.le_of_lt e))
theorem ownMap_lookup {me : Int} {l : List Vote} (h : l.Pairwise (fun x y => x.view < y.view)) {x : Vote} (hx : x ∈ l) : (ownMap me l).lookup x.view = some [(me, x.value)] := by
  refine lookup_of_mem ?_ (List.mem_map.2 ⟨x, hx, rfl⟩)
  unfold ownMap
  rw [List.map_map, List.Nodup]
  exact List.pairwise_map.2 (h.imp (fun e e2 => by dsimp at e2; omega))
theorem ownMap_inner {me : Int} {l : List Vote} (h : l.Pairwise (fun x y => x.view < y.view)) {x : Vote} (hx : x ∈ l) : inner (ownMap me l) x.view = [(me, x.value)] := by
  unfold inner; rw [ownMap_lookup h hx]; rfl
/-- What one has told is told by the map of it. -/
theorem ownMap_mine {c d : CoreM} {kind : Int} {t : TM} (ht : TMFine t) (hm : d.me = c.me) (hs : d.slot = c.slot) : d.mine kind (ownMap c.me (c.mine kind t)) = c.mine kind t := by
  have hr := mine_rise (c := c) (kind := kind) ht
  show (CoreM.keys (ownMap c.me (c.mine kind t))).filterMap (d.mineAt kind (ownMap c.me (c.mine kind t))) = c.mine kind t
  rw [ownMap_keys hr, List.filterMap_map]
  conv => rhs; rw [← List.filterMap_some (l := c.mine kind t)]
  apply filterMap_same
  intro x hx
  unfold Function.comp CoreM.mineAt
  dsimp only
  rw [ownMap_inner hr hx, hm, hs]
  have e := mine_form hx
  simp only [List.lookup, beq_self_eq_true, Option.map_some]
  rw [← e]
theorem ownMap_own {c : CoreM} {kind : Int} {t : TM} (ht : TMFine t) (v : Int) : (inner (ownMap c.me (c.mine kind t)) v).lookup c.me = (inner t v).lookup c.me := by
  have hr := mine_rise (c := c) (kind := kind) ht
  cases hl : (inner t v).lookup c.me with
  | some l =>
    have hx := mine_has (c := c) (kind := kind) ht hl
    have := ownMap_inner (me := c.me) hr hx
    dsimp only at this
    rw [this]
    simp [List.lookup]
  | none =>
    cases h2 : (inner (ownMap c.me (c.mine kind t)) v).lookup c.me with
    | none => rfl
    | some l =>
      exfalso
      unfold inner at h2
      cases h3 : (ownMap c.me (c.mine kind t)).lookup v with
      | none => rw [h3] at h2; cases h2
      | some u =>
        obtain ⟨x, hx, e⟩ := List.mem_map.1 (lookup_mem h3)
        obtain ⟨_, _, _, _, h5⟩ := mine_mem hx
        simp only [Prod.mk.injEq] at e
        rw [e.1, hl] at h5
        cases h5
theorem ownMap_peer {me v : Int} {l : List Vote} {p : Int × List UInt8} (h : p ∈ inner (ownMap me l) v) : p.1 = me := by
  unfold inner at h
  cases h3 : (ownMap me l).lookup v with
  | none => rw [h3] at h; cases h
  | some u =>
    obtain ⟨x, hx, e⟩ := List.mem_map.1 (lookup_mem h3)
    simp only [Prod.mk.injEq] at e
    rw [h3] at h
    rw [← e.2] at h
    simp only [Option.getD_some, List.mem_singleton] at h
    rw [h]

/-- The core that begins anew. -/
def CoreM.anew (c : CoreM) : CoreM :=
  ({ n := c.n, me := c.me, slot := c.slot, view := c.view, preps := ownMap c.me (c.mine 2 c.preps), comms := ownMap c.me (c.mine 3 c.comms), value := if c.decided then c.value else [], decided := c.decided } : CoreM).withLock
theorem CoreM.anew_bytes {c : CoreM} (h : c.Fine) : c.anew.bytes = c.bytes := by
  obtain ⟨e1, e2, e3, e4, e5, e6, e7, e8⟩ := withLock_same ({ n := c.n, me := c.me, slot := c.slot, view := c.view, preps := ownMap c.me (c.mine 2 c.preps), comms := ownMap c.me (c.mine 3 c.comms), value := if c.decided then c.value else [], decided := c.decided } : CoreM)
  unfold CoreM.bytes CoreM.anew
  rw [e4, e5, e6, e7, e8]
  dsimp only
  rw [ownMap_mine (c := c) h.preps e2 e3, ownMap_mine (c := c) h.comms e2 e3]
  cases c.decided <;> rfl
theorem CoreM.anew_of {c : CoreM} (h : c.Fine) (hp : ∀ v x, c.ownP v = some x → v ≤ c.view) (hc : ∀ v x, c.ownC v = some x → v ≤ c.view) (hv : c.view ≤ 1048576) (hb : c.bytes.length ≤ 4294967295) : ofM c.n c.me c.slot c.bytes = some c.anew := by
  have v0 := h.ok.view0
  have len : ∀ kind t, TMFine t → ∀ x ∈ c.mine kind t, x.value.length < 4294967296 := fun kind t ht x hx => by
    obtain ⟨_, _, _, _, h5⟩ := mine_mem hx
    have := (ht.inner x.view).lookup h5
    unfold Short at this
    omega
  have b2 : ∀ x ∈ c.mine 2 c.preps, 0 ≤ x.view ∧ x.view ≤ c.view ∧ x.view < 4294967296 ∧ x.value.length < 4294967296 := fun x hx => by
    have h1 := (mine_view h.preps x hx).1
    have h2 := hp x.view x.value (mine_mem hx).2.2.2.2
    exact ⟨h1, h2, by omega, len _ _ h.preps x hx⟩
  have b3 : ∀ x ∈ c.mine 3 c.comms, 0 ≤ x.view ∧ x.view ≤ c.view ∧ x.view < 4294967296 ∧ x.value.length < 4294967296 := fun x hx => by
    have h1 := (mine_view h.comms x hx).1
    have h2 := hc x.view x.value (mine_mem hx).2.2.2.2
    exact ⟨h1, h2, by omega, len _ _ h.comms x hx⟩
  have hl2 : (c.mine 2 c.preps).length < 4294967296 := by
    have h1 := votesBytes_len (c.mine 2 c.preps)
    have h2 := preB_len c 1
    unfold preB block at h2
    simp only [List.length_append] at h2
    omega
  have hl3 : (c.mine 3 c.comms).length < 4294967296 := by
    have h1 := votesBytes_len (c.mine 3 c.comms)
    have h2 := preB_len c 2
    unfold preB block at h2
    simp only [List.length_append] at h2
    omega
  have hval : c.value.length < 4294967296 := by have := h.value; unfold Short at this; omega
  have hr : readAll c.me c.bytes = ⟨c.view.toNat, ownMap c.me (c.mine 2 c.preps), ownMap c.me (c.mine 3 c.comms), [if c.decided then 1 else 0], if c.decided then c.value else [], ([], false)⟩ := by
    generalize hE : (if c.decided then (1 : UInt8) :: (be4 c.value.length ++ c.value) else 0 :: be4 0) = E
    have e1 : c.bytes = be4 c.view ++ (be4 (c.mine 2 c.preps).length ++ (votesBytes (c.mine 2 c.preps) ++ (be4 (c.mine 3 c.comms).length ++ (votesBytes (c.mine 3 c.comms) ++ E)))) := by
      unfold CoreM.bytes block; rw [hE]; simp [List.append_assoc]
    have f1 := fourR_app v0 (show c.view < 4294967296 by omega) (be4 (c.mine 2 c.preps).length ++ (votesBytes (c.mine 2 c.preps) ++ (be4 (c.mine 3 c.comms).length ++ (votesBytes (c.mine 3 c.comms) ++ E)))) false
    have f2 := fourR_app (Int.natCast_nonneg (c.mine 2 c.preps).length) (by omega) (votesBytes (c.mine 2 c.preps) ++ (be4 (c.mine 3 c.comms).length ++ (votesBytes (c.mine 3 c.comms) ++ E))) false
    have f3 := votesR_back c.me c.view (c.mine 2 c.preps) [] (-1) (be4 (c.mine 3 c.comms).length ++ (votesBytes (c.mine 3 c.comms) ++ E)) b2 (mine_rise h.preps) (fun x hx => by have := (b2 x hx).1; omega) (fun _ _ _ hy => absurd hy (by simp))
    have f4 := fourR_app (Int.natCast_nonneg (c.mine 3 c.comms).length) (by omega) (votesBytes (c.mine 3 c.comms) ++ E) false
    have f5 := votesR_back c.me c.view (c.mine 3 c.comms) [] (-1) E b3 (mine_rise h.comms) (fun x hx => by have := (b3 x hx).1; omega) (fun _ _ _ hy => absurd hy (by simp))
    rw [Int.toNat_natCast] at f2 f4
    rw [show ownMap c.me [] = [] from rfl, List.nil_append] at f3 f5
    have hvn : ((c.view.toNat : Nat) : Int) = c.view := by omega
    unfold readAll
    dsimp only
    rw [e1, f1]
    dsimp only
    rw [hvn, f2]
    dsimp only
    rw [f3]
    dsimp only
    rw [f4]
    dsimp only
    rw [f5]
    dsimp only
    cases hd : c.decided with
    | true =>
      rw [hd] at hE
      simp only [if_true] at hE
      have g1 := takeR_app [1] (be4 c.value.length ++ c.value) false
      have g2 := fourR_app (Int.natCast_nonneg c.value.length) (by omega) c.value false
      have g3 := takeR_app c.value [] false
      rw [Int.toNat_natCast] at g2
      rw [List.append_nil] at g3
      rw [← hE, show (1 : UInt8) :: (be4 c.value.length ++ c.value) = [1] ++ (be4 c.value.length ++ c.value) from rfl]
      simp only [List.length_cons, List.length_nil, Nat.zero_add] at g1
      rw [g1]
      dsimp only
      rw [g2]
      dsimp only
      rw [g3]
      simp
    | false =>
      rw [hd] at hE
      simp only [Bool.false_eq_true, if_false] at hE
      have g1 := takeR_app [0] (be4 0) false
      have g2 := fourR_app (n := 0) (by omega) (by omega) [] false
      have g3 := takeR_app [] [] false
      rw [List.append_nil] at g2 g3
      rw [← hE, show (0 : UInt8) :: be4 0 = [0] ++ be4 0 from rfl]
      simp only [List.length_cons, List.length_nil, Nat.zero_add] at g1
      rw [g1]
      dsimp only
      rw [g2]
      dsimp only
      rw [show (Int.toNat 0) = ([] : List UInt8).length from rfl, g3]
      simp
  have hcore : ((readAll c.me c.bytes).core c.n c.me c.slot).withLock = c.anew := by
    rw [hr]
    unfold Read.core CoreM.anew
    dsimp only
    have : ((c.view.toNat : Nat) : Int) = c.view := by omega
    rw [this]
    cases c.decided <;> rfl
  have hw : (readAll c.me c.bytes).wrong = false := by
    rw [hr]
    unfold Read.wrong
    dsimp only
    cases c.decided <;> simp <;> omega
  unfold ofM
  rw [hw, hcore, CoreM.anew_bytes h]
  simp
end Go.Proofs.Ytkkmkkgjpmlhaaa
