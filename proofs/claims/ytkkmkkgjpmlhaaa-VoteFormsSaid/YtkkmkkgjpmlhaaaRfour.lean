/- reader.four. -/
import Derived.Test.YtkkmkkgjpmlhaaaReader
import Derived.LoopTactic
import Derived.Laws.Bits64
namespace Go.Proofs.Ytkkmkkgjpmlhaaa
open Go.RowKit Go.MapKept

def num4 (l : List UInt8) : Nat := l.foldl (fun n x => n * 256 + x.toNat) 0
theorem num4_snoc (l : List UInt8) (x : UInt8) : num4 (l ++ [x]) = num4 l * 256 + x.toNat := by simp [num4, List.foldl_append]
theorem num4_lt : ∀ (l : List UInt8), num4 l < 256 ^ l.length := fun l => by
  suffices h : ∀ (l : List UInt8) (a : Nat), l.foldl (fun n x => n * 256 + x.toNat) a < (a + 1) * 256 ^ l.length by simpa [num4] using h l 0
  intro l
  induction l with
  | nil => intro a; simp
  | cons x l ih =>
    intro a
    rw [List.foldl_cons, List.length_cons, Nat.pow_succ]
    have h1 := ih (a * 256 + x.toNat)
    have h2 : (a * 256 + x.toNat + 1) * 256 ^ l.length ≤ (a + 1) * (256 ^ l.length * 256) := by
      have : a * 256 + x.toNat + 1 ≤ (a + 1) * 256 := by have := x.toNat_lt; omega
      calc (a * 256 + x.toNat + 1) * 256 ^ l.length ≤ (a + 1) * 256 * 256 ^ l.length := Nat.mul_le_mul_right _ this
        _ = (a + 1) * (256 ^ l.length * 256) := by rw [Nat.mul_assoc, Nat.mul_comm 256]
    omega

theorem bits_or_byte (m x : Nat) (hm : m < 16777216) (hx : x < 256) : bits .or .i64 ((m : Int) * 256) (x : Int) = ((m * 256 + x : Nat) : Int) := by
  have e : m * 256 ||| x = m * 256 + x := by
    have := Nat.shiftLeft_add_eq_or_of_lt (b := x) (i := 8) (by omega) m
    rw [Nat.shiftLeft_eq] at this
    exact this.symm
  rw [show ((m : Int) * 256) = ((m * 256 : Nat) : Int) from by omega]
  have h1 : (BitVec.ofInt 64 ((m * 256 : Nat) : Int)).toNat = m * 256 := by
    rw [BitVec.ofInt_natCast, BitVec.toNat_ofNat]; exact Nat.mod_eq_of_lt (by omega)
  have h2 : (BitVec.ofInt 64 (x : Int)).toNat = x := by
    rw [BitVec.ofInt_natCast, BitVec.toNat_ofNat]; exact Nat.mod_eq_of_lt (by omega)
  show IntKind.i64.wrap ((BitVec.ofInt 64 ((m * 256 : Nat) : Int) ||| BitVec.ofInt 64 (x : Int)).toNat : Int) = _
  rw [BitVec.toNat_or, h1, h2, e, IntKind.wrap_i64]
  omega

/-- The next four bytes as a number. -/
def fourR (r : List UInt8 × Bool) : Nat × (List UInt8 × Bool) := (num4 (takeR r 4).1, (takeR r 4).2)

set_option maxRecDepth 100000 in
set_option maxHeartbeats 1000000 in
theorem rfour_any {O : Nat → Prop} (br : Nat) (r : List UInt8 × Bool) (w : World) (h : Reader w O br r.1 r.2) (hl : r.1.length ≤ 140737488355328) :
    Calls Try.prog 56 #[.pointer (some ⟨br, 0, none⟩)] w fun e w' => e = .returned (.int .i64 (fourR r).1) ∧ Reader w' O br (fourR r).2.1 (fourR r).2.2 ∧ Off (fun k => k = br) w w' := by
  have cT := rtake_any br r 4 w h hl
  unfold fourR
  have hlen : (takeR r 4).1.length ≤ 4 := by unfold takeR; split <;> simp; omega
  generalize (takeR r 4).1 = l at cT hlen ⊢
  generalize (takeR r 4).2 = r2 at cT ⊢
  clear h
  go_enter Try.func56, Try.ntmps56
  go_wp2_with (go_at_call 58; refine cT.mono ?_; rintro e w1 ⟨v1, rfl, hb1, hr1, ho1⟩; obtain ⟨A, cap, rfl, hcap, hnil, hc⟩ := id hb1)
  have HC := hid hc
  clear hc
  go_loopw [3, 9] (fun n i wr => ∃ k : Nat, i = .int .i64 k ∧ k ≤ l.length ∧ n = .int .i64 (num4 (l.take k) : Nat) ∧ wr = w1)
    (fun _ i _ => l.length - (intOf i).toNat)
  case atStart => exact ⟨0, rfl, Nat.zero_le _, rfl, rfl⟩
  case round =>
    obtain ⟨k, rfl, hkl, rfl, rfl⟩ := hrel
    by_cases hlt : k < l.length
    · obtain ⟨bb, off, rfl, hO, hcell⟩ := HC.out (by omega)
      obtain ⟨x, hx⟩ : ∃ x, l[k]? = some x := ⟨_, List.getElem?_eq_getElem hlt⟩
      have g0 := hcell k x hx
      have hsn : num4 (l.take (k + 1)) = num4 (l.take k) * 256 + x.toNat := by
        obtain ⟨hj, e⟩ := List.getElem?_eq_some_iff.1 hx
        rw [List.take_succ_eq_append_getElem hj, e, num4_snoc]
      have hlt4 : num4 (l.take k) < 16777216 := by
        have h1 := num4_lt (l.take k)
        have h2 : (l.take k).length ≤ 3 := by rw [List.length_take]; omega
        exact Nat.lt_of_lt_of_le h1 (Nat.pow_le_pow_right (n := 256) (by omega) h2)
      have hx8 := x.toNat_lt
      have HSN := hid hsn
      generalize num4 (l.take k) = m at hlt4 HSN ⊢
      have hor := bits_or_byte m x.toNat hlt4 (by omega)
      clear hcell hx hsn
      go_wp2
      go_roundw
      case rel => exact ⟨k + 1, by go_num, hlt, by rw [HSN.out]; simp, trivial⟩
      case measure => simp [intOf]; omega
    · have hke : k = l.length := by omega
      subst hke
      rw [List.take_length]
      go_wp2
      go_ret
      exact ⟨rfl, hr1, ho1⟩
end Go.Proofs.Ytkkmkkgjpmlhaaa
