/- Of: what the steps of a beginning anew leave. -/
import Derived.Test.YtkkmkkgjpmlhaaaOfm
import Derived.Test.YtkkmkkgjpmlhaaaNew
namespace Go.Proofs.Ytkkmkkgjpmlhaaa
open Go.RowKit Go.MapKept

section
variable {w w1 : World} {ρ ρ' : Roles} {i b fid : Nat} {c : CoreM} {vw vl vv : Value} {bp b1 b2 b3 bs bd : Nat} {F : Nat → Prop}
theorem Parts.preps_read (h : Parts w ρ i b fid c vw vl vv bp b1 b2 b3 bs bd) (ho : Off F w w1) (ha : Agr w ρ ρ') (hf : ∀ k, k < w.heap.size → F k → (ρ k).1 = i → (ρ k).2.1 = 10 ∨ (ρ k).2.1 = 110) {t : TM} (hp : Outer w1 ρ' i 10 b1 t) :
    Parts w1 ρ' i b fid { c with preps := t } vw vl vv bp b1 b2 b3 bs bd := by
  have hne : ∀ k, k < w.heap.size → F k → ∀ r : Nat × Int, r.1 ≠ 10 → r.1 ≠ 110 → ρ k ≠ (i, r) := by
    intro k hk f r h1 h2 e
    rcases hf k hk f (by rw [e]) with g | g <;> rw [e] at g
    · exact h1 g
    · exact h2 g
  exact {
    role := (ha b h.lt).trans h.role
    cells := ho.heap_some h.cells (fun f => hne b h.lt f _ (by decide) (by decide) h.role)
    wish := bytes_keep h.wish ho ha (fun k hk f => hne k hk f _ (by decide) (by decide))
    locked := bytes_keep h.locked ho ha (fun k hk f => hne k hk f _ (by decide) (by decide))
    value := bytes_keep h.value ho ha (fun k hk f => hne k hk f _ (by decide) (by decide))
    props := h.props.keep ho ha (fun k hk f => ⟨hne k hk f _ (by decide) (by decide), hne k hk f _ (by decide) (by decide)⟩)
    preps := hp
    comms := h.comms.keep ho ha (fun k hk f => ⟨hne k hk f _ (by decide) (by decide), fun v => hne k hk f _ (by simp) (by simp), hne k hk f _ (by decide) (by decide)⟩)
    turns := h.turns.keep ho ha (fun k hk f => ⟨hne k hk f _ (by decide) (by decide), fun v => hne k hk f _ (by simp) (by simp), hne k hk f _ (by decide) (by decide)⟩)
    seen := ⟨(ha bs h.seen.2.lt).trans h.seen.1, h.seen.2.keep ho (fun f => hne bs h.seen.2.lt f _ (by decide) (by decide) h.seen.1)⟩
    decs := told_keep h.decs ho ha (fun k hk f => ⟨hne k hk f _ (by decide) (by decide), hne k hk f _ (by decide) (by decide)⟩) }
theorem Parts.comms_read (h : Parts w ρ i b fid c vw vl vv bp b1 b2 b3 bs bd) (ho : Off F w w1) (ha : Agr w ρ ρ') (hf : ∀ k, k < w.heap.size → F k → (ρ k).1 = i → (ρ k).2.1 = 11 ∨ (ρ k).2.1 = 111) {t : TM} (hp : Outer w1 ρ' i 11 b2 t) :
    Parts w1 ρ' i b fid { c with comms := t } vw vl vv bp b1 b2 b3 bs bd := by
  have hne : ∀ k, k < w.heap.size → F k → ∀ r : Nat × Int, r.1 ≠ 11 → r.1 ≠ 111 → ρ k ≠ (i, r) := by
    intro k hk f r h1 h2 e
    rcases hf k hk f (by rw [e]) with g | g <;> rw [e] at g
    · exact h1 g
    · exact h2 g
  exact {
    role := (ha b h.lt).trans h.role
    cells := ho.heap_some h.cells (fun f => hne b h.lt f _ (by decide) (by decide) h.role)
    wish := bytes_keep h.wish ho ha (fun k hk f => hne k hk f _ (by decide) (by decide))
    locked := bytes_keep h.locked ho ha (fun k hk f => hne k hk f _ (by decide) (by decide))
    value := bytes_keep h.value ho ha (fun k hk f => hne k hk f _ (by decide) (by decide))
    props := h.props.keep ho ha (fun k hk f => ⟨hne k hk f _ (by decide) (by decide), hne k hk f _ (by decide) (by decide)⟩)
    preps := h.preps.keep ho ha (fun k hk f => ⟨hne k hk f _ (by decide) (by decide), fun v => hne k hk f _ (by simp) (by simp), hne k hk f _ (by decide) (by decide)⟩)
    comms := hp
    turns := h.turns.keep ho ha (fun k hk f => ⟨hne k hk f _ (by decide) (by decide), fun v => hne k hk f _ (by simp) (by simp), hne k hk f _ (by decide) (by decide)⟩)
    seen := ⟨(ha bs h.seen.2.lt).trans h.seen.1, h.seen.2.keep ho (fun f => hne bs h.seen.2.lt f _ (by decide) (by decide) h.seen.1)⟩
    decs := told_keep h.decs ho ha (fun k hk f => ⟨hne k hk f _ (by decide) (by decide), hne k hk f _ (by decide) (by decide)⟩) }
end
end Go.Proofs.Ytkkmkkgjpmlhaaa
