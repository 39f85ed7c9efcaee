/- act: all that it can do. -/
import Derived.Test.YtkkmkkgjpmlhaaaActs
import Derived.Test.YtkkmkkgjpmlhaaaTurn
import Derived.Test.YtkkmkkgjpmlhaaaPropose
import Derived.Test.YtkkmkkgjpmlhaaaPrepare
import Derived.Test.YtkkmkkgjpmlhaaaCommit
import Derived.Test.YtkkmkkgjpmlhaaaDecide
namespace Go.Proofs.Ytkkmkkgjpmlhaaa
open Go.RowKit Go.MapKept

theorem Left.trans {w w1 w2 : World} {ρ : Roles} {i b fid : Nat} {c1 c2 : CoreM} (h : Left w w1 ρ i b fid c1) (k : ∀ ρ1, CoreAt w1 ρ1 i b fid c1 → Left w1 w2 ρ1 i b fid c2) : Left w w2 ρ i b fid c2 := by
  obtain ⟨ρ1, h1, h2, h3⟩ := h
  obtain ⟨ρ2, k1, k2, k3⟩ := k ρ1 h2
  exact ⟨ρ2, h1.trans k1 h3.size, k2, h3.trans k3 (fun b hb e => by rw [← h1 b hb]; exact e)⟩

theorem did_left {f : FuncId} {args : Array Value} {w w1 : World} {ρ : Roles} {i b fid : Nat} {c : CoreM} {r : Option CoreM} (hl : Left w w1 ρ i b fid c)
    (h : ∀ ρ1, CoreAt w1 ρ1 i b fid c → Calls Try.prog f args w1 (DidPost w1 ρ1 i b fid c r)) : Calls Try.prog f args w1 fun e w' => e = .returned (.bool r.isSome) ∧ Left w w' ρ i b fid (r.getD c) := by
  obtain ⟨ρ1, h1, h2, h3⟩ := hl
  refine (h ρ1 h2).mono ?_
  rintro e w' ⟨rfl, ρ2, k1, k2, k3⟩
  exact ⟨rfl, ρ2, h1.trans k1 h3.size, k2, h3.trans k3 (fun b hb e => by rw [← h1 b hb]; exact e)⟩
theorem decide_left {w w1 : World} {ρ : Roles} {i b fid : Nat} {c : CoreM} (hl : Left w w1 ρ i b fid c) (hf : c.Fine) :
    Calls Try.prog 75 #[.pointer (some ⟨b, 0, none⟩)] w1 fun e w' => e = .returned (.bool c.decide_.isSome) ∧ Left w w' ρ i b fid (c.decide_.getD c.undecided) := by
  obtain ⟨ρ1, h1, h2, h3⟩ := hl
  refine (decide_any w1 h2 hf).mono ?_
  rintro e w' ⟨rfl, ρ2, k1, k2, k3⟩
  exact ⟨rfl, ρ2, h1.trans k1 h3.size, k2, h3.trans k3 (fun b hb e => by rw [← h1 b hb]; exact e)⟩

theorem Left.decided {w w1 : World} {ρ : Roles} {i b fid : Nat} {c : CoreM} (hl : Left w w1 ρ i b fid c) : w1.cell? ⟨b, 15, none⟩ = some (.bool c.decided) := by
  obtain ⟨ρ1, h1, ⟨vw, vl, vv, bp, b1, b2, b3, bs, bd, h2⟩, h3⟩ := hl
  exact h2.cell 15

def ActPost (w : World) (ρ : Roles) (i b fid : Nat) (c' : CoreM) (e : Ending) (w' : World) : Prop := e = .returned (.tuple #[]) ∧ Left w w' ρ i b fid c'

set_option maxRecDepth 100000 in
set_option maxHeartbeats 4000000 in
theorem act_any {ρ : Roles} {i b fid : Nat} {c : CoreM} {acc : List UInt8 → Bool} (w : World) (h : CoreAt w ρ i b fid c) (hf : c.Fine) (ha : Accepts fid acc) :
    Calls Try.prog 51 #[.pointer (some ⟨b, 0, none⟩)] w (ActPost w ρ i b fid (c.settle acc)) := by
  have HA := hid ha
  have HL := hid (Left.refl h)
  have HF := hid hf
  clear h ha hf
  go_enter Try.func51, Try.ntmps51
  go_wp2_with fail
  go_loopg [] c.mu (fun k wr => ∃ cr : CoreM, Left w wr ρ i b fid cr ∧ Hid cr.Fine ∧ Hid (CoreM.settle acc cr = CoreM.settle acc c) ∧ Hid (k = cr.mu))
  case atStart => exact ⟨c, HL.out, HF, hid rfl, hid rfl⟩
  case round =>
    obtain ⟨cr, hl, hfr, hse, hmu⟩ := hrel
    have g15 := hl.decided
    cases hd : cr.decided with
    | true =>
      rw [hd] at g15
      have HSE := hid (hse.out.symm.trans (CoreM.settle_decided hd))
      clear hd
      go_wp2
      go_end0
      exact ⟨rfl, by rw [HSE.out]; exact hl⟩
    | false =>
      rw [hd] at g15
      cases h0 : cr.turn with
      | some c' =>
        have hs : cr.step acc = some c' := by unfold CoreM.step; rw [h0, Option.some_or]
        have HM := hid (CoreM.mu_step hfr.out hd hs)
        have HFN := hid (hfr.out.step hs)
        have HSN := hid ((CoreM.settle_some hfr.out hd hs).trans hse.out)
        clear hd hs
        go_wp2_with (first | (go_at_call 71; refine (did_left hl fun ρ1 h1 => turn_any wr h1 hfr.out.ok hfr.out.seen.ok).mono ?_; rintro e w2 ⟨rfl, hm2⟩; have hl2 : Left w w2 ρ i b fid c' := (by rw [h0] at hm2; exact hm2)))
        go_roundg c'.mu
        case measure => rw [hmu.out]; exact HM.out
        case rel => exact ⟨c', hl2, HFN, HSN, hid rfl⟩
      | none =>
        cases h1 : cr.propose with
        | some c' =>
          have hs : cr.step acc = some c' := by unfold CoreM.step; rw [h0, Option.none_or, h1, Option.some_or]
          have HM := hid (CoreM.mu_step hfr.out hd hs)
          have HFN := hid (hfr.out.step hs)
          have HSN := hid ((CoreM.settle_some hfr.out hd hs).trans hse.out)
          clear hd hs
          go_wp2_with (first | (go_at_call 71; refine (did_left hl fun ρ1 h1 => turn_any wr h1 hfr.out.ok hfr.out.seen.ok).mono ?_; rintro e w2 ⟨rfl, hm2⟩; have hl2 : Left w w2 ρ i b fid cr := (by rw [h0] at hm2; exact hm2)) | (go_at_call 72; refine (did_left hl2 fun ρ1 h1 => propose_any w2 h1 hfr.out).mono ?_; rintro e w3 ⟨rfl, hm3⟩; have hl3 : Left w w3 ρ i b fid c' := (by rw [h1] at hm3; exact hm3)))
          go_roundg c'.mu
          case measure => rw [hmu.out]; exact HM.out
          case rel => exact ⟨c', hl3, HFN, HSN, hid rfl⟩
        | none =>
          cases h2 : cr.prepare acc with
          | some c' =>
            have hs : cr.step acc = some c' := by unfold CoreM.step; rw [h0, Option.none_or, h1, Option.none_or, h2, Option.some_or]
            have HM := hid (CoreM.mu_step hfr.out hd hs)
            have HFN := hid (hfr.out.step hs)
            have HSN := hid ((CoreM.settle_some hfr.out hd hs).trans hse.out)
            clear hd hs
            go_wp2_with (first | (go_at_call 71; refine (did_left hl fun ρ1 h1 => turn_any wr h1 hfr.out.ok hfr.out.seen.ok).mono ?_; rintro e w2 ⟨rfl, hm2⟩; have hl2 : Left w w2 ρ i b fid cr := (by rw [h0] at hm2; exact hm2)) | (go_at_call 72; refine (did_left hl2 fun ρ1 h1 => propose_any w2 h1 hfr.out).mono ?_; rintro e w3 ⟨rfl, hm3⟩; have hl3 : Left w w3 ρ i b fid cr := (by rw [h1] at hm3; exact hm3)) | (go_at_call 73; refine (did_left hl3 fun ρ1 h1 => prepare_any w3 h1 hfr.out HA.out).mono ?_; rintro e w4 ⟨rfl, hm4⟩; have hl4 : Left w w4 ρ i b fid c' := (by rw [h2] at hm4; exact hm4)))
            go_roundg c'.mu
            case measure => rw [hmu.out]; exact HM.out
            case rel => exact ⟨c', hl4, HFN, HSN, hid rfl⟩
          | none =>
            cases h3 : cr.commit with
            | some c' =>
              have hs : cr.step acc = some c' := by unfold CoreM.step; rw [h0, Option.none_or, h1, Option.none_or, h2, Option.none_or, h3, Option.some_or]
              have HM := hid (CoreM.mu_step hfr.out hd hs)
              have HFN := hid (hfr.out.step hs)
              have HSN := hid ((CoreM.settle_some hfr.out hd hs).trans hse.out)
              clear hd hs
              go_wp2_with (first | (go_at_call 71; refine (did_left hl fun ρ1 h1 => turn_any wr h1 hfr.out.ok hfr.out.seen.ok).mono ?_; rintro e w2 ⟨rfl, hm2⟩; have hl2 : Left w w2 ρ i b fid cr := (by rw [h0] at hm2; exact hm2)) | (go_at_call 72; refine (did_left hl2 fun ρ1 h1 => propose_any w2 h1 hfr.out).mono ?_; rintro e w3 ⟨rfl, hm3⟩; have hl3 : Left w w3 ρ i b fid cr := (by rw [h1] at hm3; exact hm3)) | (go_at_call 73; refine (did_left hl3 fun ρ1 h1 => prepare_any w3 h1 hfr.out HA.out).mono ?_; rintro e w4 ⟨rfl, hm4⟩; have hl4 : Left w w4 ρ i b fid cr := (by rw [h2] at hm4; exact hm4)) | (go_at_call 74; refine (did_left hl4 fun ρ1 h1 => commit_any w4 h1 hfr.out).mono ?_; rintro e w5 ⟨rfl, hm5⟩; have hl5 : Left w w5 ρ i b fid c' := (by rw [h3] at hm5; exact hm5)))
              go_roundg c'.mu
              case measure => rw [hmu.out]; exact HM.out
              case rel => exact ⟨c', hl5, HFN, HSN, hid rfl⟩
            | none =>
              cases h4 : cr.decide_ with
              | some c' =>
                have hs : cr.step acc = some c' := by unfold CoreM.step; rw [h0, Option.none_or, h1, Option.none_or, h2, Option.none_or, h3, Option.none_or, h4]
                have HM := hid (CoreM.mu_step hfr.out hd hs)
                have HFN := hid (hfr.out.step hs)
                have HSN := hid ((CoreM.settle_some hfr.out hd hs).trans hse.out)
                clear hd hs
                go_wp2_with (first | (go_at_call 71; refine (did_left hl fun ρ1 h1 => turn_any wr h1 hfr.out.ok hfr.out.seen.ok).mono ?_; rintro e w2 ⟨rfl, hm2⟩; have hl2 : Left w w2 ρ i b fid cr := (by rw [h0] at hm2; exact hm2)) | (go_at_call 72; refine (did_left hl2 fun ρ1 h1 => propose_any w2 h1 hfr.out).mono ?_; rintro e w3 ⟨rfl, hm3⟩; have hl3 : Left w w3 ρ i b fid cr := (by rw [h1] at hm3; exact hm3)) | (go_at_call 73; refine (did_left hl3 fun ρ1 h1 => prepare_any w3 h1 hfr.out HA.out).mono ?_; rintro e w4 ⟨rfl, hm4⟩; have hl4 : Left w w4 ρ i b fid cr := (by rw [h2] at hm4; exact hm4)) | (go_at_call 74; refine (did_left hl4 fun ρ1 h1 => commit_any w4 h1 hfr.out).mono ?_; rintro e w5 ⟨rfl, hm5⟩; have hl5 : Left w w5 ρ i b fid cr := (by rw [h3] at hm5; exact hm5)) | (go_at_call 75; refine (decide_left hl5 hfr.out).mono ?_; rintro e w6 ⟨rfl, hm6⟩; have hl6 : Left w w6 ρ i b fid c' := (by rw [h4] at hm6; exact hm6)))
                go_roundg c'.mu
                case measure => rw [hmu.out]; exact HM.out
                case rel => exact ⟨c', hl6, HFN, HSN, hid rfl⟩
              | none =>
                have hs : cr.step acc = none := by unfold CoreM.step; rw [h0, Option.none_or, h1, Option.none_or, h2, Option.none_or, h3, Option.none_or, h4]
                have HSE := hid (hse.out.symm.trans (CoreM.settle_none hd hs))
                clear hd hs
                go_wp2_with (first | (go_at_call 71; refine (did_left hl fun ρ1 h1 => turn_any wr h1 hfr.out.ok hfr.out.seen.ok).mono ?_; rintro e w2 ⟨rfl, hm2⟩; have hl2 : Left w w2 ρ i b fid cr := (by rw [h0] at hm2; exact hm2)) | (go_at_call 72; refine (did_left hl2 fun ρ1 h1 => propose_any w2 h1 hfr.out).mono ?_; rintro e w3 ⟨rfl, hm3⟩; have hl3 : Left w w3 ρ i b fid cr := (by rw [h1] at hm3; exact hm3)) | (go_at_call 73; refine (did_left hl3 fun ρ1 h1 => prepare_any w3 h1 hfr.out HA.out).mono ?_; rintro e w4 ⟨rfl, hm4⟩; have hl4 : Left w w4 ρ i b fid cr := (by rw [h2] at hm4; exact hm4)) | (go_at_call 74; refine (did_left hl4 fun ρ1 h1 => commit_any w4 h1 hfr.out).mono ?_; rintro e w5 ⟨rfl, hm5⟩; have hl5 : Left w w5 ρ i b fid cr := (by rw [h3] at hm5; exact hm5)) | (go_at_call 75; refine (decide_left hl5 hfr.out).mono ?_; rintro e w6 ⟨rfl, hm6⟩; have hl6 : Left w w6 ρ i b fid cr.undecided := (by rw [h4] at hm6; exact hm6)))
                go_end0
                exact ⟨rfl, by rw [HSE.out]; exact hl6⟩
end Go.Proofs.Ytkkmkkgjpmlhaaa
