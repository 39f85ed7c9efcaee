/- The two functions that accept. -/
import Derived.Test.YtkkmkkgjpmlhaaaV08
namespace Go.Proofs.Ytkkmkkgjpmlhaaa
open Go.RowKit Go.MapKept

theorem any_accepts : Accepts 25 (fun _ => true) := by
  refine ⟨enters_of Try.func25 (by kernel_rfl) rfl, fun W O v l h => ?_⟩
  obtain ⟨A, cap, rfl, _⟩ := h
  go_enter Try.func25, Try.ntmps25
  go_wp2
  go_ret
  exact ⟨rfl, Below.refl _ _⟩

/-- Not what begins with "!". -/
def notB (l : List UInt8) : Bool := match l with
  | [] => true
  | x :: _ => x != 33

theorem not_accepts : Accepts 14 notB := by
  refine ⟨enters_of Try.func14 (by kernel_rfl) rfl, fun W O v l h => ?_⟩
  obtain ⟨A, cap, rfl, _, _, hc⟩ := h
  cases l with
  | nil =>
    go_enter Try.func14, Try.ntmps14
    go_wp2
    go_ret
    exact ⟨rfl, Below.refl _ _⟩
  | cons x l =>
    obtain ⟨b, off, rfl, _, hcell⟩ := hc (by simp)
    have g0 : W.cell? ⟨b, off, none⟩ = some (.int .u8 x.toNat) := by simpa using hcell 0 x rfl
    have hl : decide (((l.length : Int) + 1) = 0) = false := decide_eq_false (by omega)
    clear hc hcell
    cases hx : x == 33
    · have hx1 : ((x.toNat : Int) != 33) = true := by
        simp only [bne_iff_ne, ne_eq]; intro e; have : x = 33 := UInt8.toNat_inj.1 (by simp; omega); simp [this] at hx
      have hr : notB (x :: l) = true := by unfold notB; simp [bne, hx]
      have HR := hid hr
      clear hr hx
      go_enter Try.func14, Try.ntmps14
      go_wp2
      go_ret
      exact ⟨by rw [HR.out]; rfl, Below.refl _ _⟩
    · have hx1 : ((x.toNat : Int) != 33) = false := by
        have : x = 33 := by simpa using hx
        subst this; rfl
      have hr : notB (x :: l) = false := by unfold notB; simp [bne, hx]
      have HR := hid hr
      clear hr hx
      go_enter Try.func14, Try.ntmps14
      go_wp2
      go_ret
      exact ⟨by rw [HR.out]; rfl, Below.refl _ _⟩
end Go.Proofs.Ytkkmkkgjpmlhaaa
