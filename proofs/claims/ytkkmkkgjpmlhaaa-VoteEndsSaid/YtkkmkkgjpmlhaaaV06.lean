/- Changes of a core in memory. turn. New: a core. -/
import Derived.Test.YtkkmkkgjpmlhaaaV05
import Derived.IntWalk
namespace Go.Proofs.Ytkkmkkgjpmlhaaa
open Go.RowKit Go.MapKept

theorem heap_setCell_cells {w : World} {b j : Nat} {cs : Array Value} {t : TypeId} {m : Nat × Nat} (h : w.heap[b]? = some (.cells cs t m)) (u : Value) :
    (w.setCell ⟨b, j, none⟩ u).heap[b]? = some (.cells (cs.setIfInBounds j u) t m) := by
  simp [World.setCell, Array.getElem?_modify, h]

theorem Off.setOne (w : World) (p : Addr) (u : Value) : Off (fun k => k = p.block) w (w.setCell p u) := Off.setCell (F := fun k => k = p.block) (Off.refl _ w) (fun _ => rfl) u

/-- What a thing that a core does leaves. -/
def Left (w w' : World) (ρ : Roles) (i b fid : Nat) (c' : CoreM) : Prop := ∃ ρ', Agr w ρ ρ' ∧ CoreAt w' ρ' i b fid c' ∧ Off (fun k => (ρ k).1 = i) w w'
def DidPost (w : World) (ρ : Roles) (i b fid : Nat) (c : CoreM) (r : Option CoreM) (e : Ending) (w' : World) : Prop :=
  e = .returned (.bool r.isSome) ∧ Left w w' ρ i b fid (r.getD c)

section
variable {w w1 : World} {ρ ρ' : Roles} {i b fid : Nat} {c c' : CoreM} {vw vl vv vw' vl' vv' : Value} {bp b1 b2 b3 bs bd : Nat}

/-- Only the core's own block has changed. -/
theorem Parts.set (h : Parts w ρ i b fid c vw vl vv bp b1 b2 b3 bs bd) (ho : Off (fun k => k = b) w w1) (ha : Agr w ρ ρ')
    (hc : w1.heap[b]? = some (.cells (coreCells c' fid vw' vl' vv' bp b1 b2 b3 bs bd) 100 (0, 0)))
    (hw : Bs w1 (fun k => ρ' k = (i, 2, 0)) vw' c'.wish) (hl : Bs w1 (fun k => ρ' k = (i, 2, 0)) vl' c'.locked) (hv : Bs w1 (fun k => ρ' k = (i, 2, 0)) vv' c'.value)
    (hs : c'.props = c.props ∧ c'.preps = c.preps ∧ c'.comms = c.comms ∧ c'.turns = c.turns ∧ c'.seen = c.seen ∧ c'.decs = c.decs) :
    Parts w1 ρ' i b fid c' vw' vl' vv' bp b1 b2 b3 bs bd := by
  obtain ⟨e1, e2, e3, e4, e5, e6⟩ := hs
  have hne : ∀ k, k < w.heap.size → k = b → ∀ r : Nat × Int, r ≠ (1, 0) → ρ k ≠ (i, r) := by
    rintro k _ rfl r hr e; rw [h.role] at e; exact hr (by injection e with _ e; exact e.symm)
  exact {
    role := (ha b h.lt).trans h.role
    cells := hc
    wish := hw
    locked := hl
    value := hv
    props := by rw [e1]; exact h.props.keep ho ha (fun k hk f => ⟨hne k hk f _ (by simp), hne k hk f _ (by simp)⟩)
    preps := by rw [e2]; exact h.preps.keep ho ha (fun k hk f => ⟨hne k hk f _ (by simp), fun v => hne k hk f _ (by simp), hne k hk f _ (by simp)⟩)
    comms := by rw [e3]; exact h.comms.keep ho ha (fun k hk f => ⟨hne k hk f _ (by simp), fun v => hne k hk f _ (by simp), hne k hk f _ (by simp)⟩)
    turns := by rw [e4]; exact h.turns.keep ho ha (fun k hk f => ⟨hne k hk f _ (by simp), fun v => hne k hk f _ (by simp), hne k hk f _ (by simp)⟩)
    seen := by rw [e5]; exact ⟨(ha bs h.seen.2.lt).trans h.seen.1, h.seen.2.keep ho (fun f => hne bs h.seen.2.lt f _ (by simp) h.seen.1)⟩
    decs := by rw [e6]; exact told_keep h.decs ho ha (fun k hk f => ⟨hne k hk f _ (by simp), hne k hk f _ (by simp)⟩) }

theorem bytes_own {v : Value} {l : List UInt8} (h : Bs w (fun k => ρ k = (i, 2, 0)) v l) (hr : ρ b = (i, 1, 0)) (ho : Off (fun k => k = b) w w1) (ha : Agr w ρ ρ') : Bs w1 (fun k => ρ' k = (i, 2, 0)) v l :=
  bytes_keep h ho ha (fun k _ e f => by subst e; rw [hr] at f; simp at f)

theorem Parts.till (h : Parts w ρ i b fid c vw vl vv bp b1 b2 b3 bs bd) : Parts w (ρ.till i w.heap.size) i b fid c vw vl vv bp b1 b2 b3 bs bd :=
  h.keep (Off.refl (fun _ => False) w) (fun k hk => by unfold Roles.till; rw [if_pos hk]) (fun _ _ f => f.elim)
theorem Left.refl (h : CoreAt w ρ i b fid c) : Left w w ρ i b fid c := ⟨ρ, Agr.refl _ _, h, Off.refl _ _⟩
theorem Left.of_below (h : CoreAt w ρ i b fid c) (hb : Below w.heap.size w w1) : Left w w1 ρ i b fid c :=
  ⟨ρ, Agr.refl _ _, h.keep (Off.of_below (F := fun _ => False) hb) (Agr.refl _ _) (fun _ _ f => f.elim), Off.of_below hb⟩

/-- A read-only stretch ahead. -/
theorem Left.after_below {w2 : World} (hb : Below w.heap.size w w1) (h : Left w1 w2 (ρ.till i w.heap.size) i b fid c) : Left w w2 ρ i b fid c := by
  obtain ⟨ρ', h1, h2, h3⟩ := h
  refine ⟨ρ', fun k hk => ?_, h2, (Off.of_below (F := fun k => (ρ k).1 = i) hb).trans h3 (fun k hk f => ?_)⟩
  · rw [h1 k (Nat.lt_of_lt_of_le hk hb.size)]; unfold Roles.till; rw [if_pos hk]
  · unfold Roles.till at f; rw [if_pos hk] at f; exact f
end

theorem zero_prop (w : World) : (zeroValue 106).run Try.prog w = .ok (.agg #[.slice none 0 0, .int .i64 0]) w := by kernel_rfl

/-- What a look-up of a view's proposal finds. -/
theorem Props.find {w : World} {ρ : Roles} {i b : Nat} {m : List (Int × (List UInt8 × Int))} (h : Props w ρ i b m) (view : Int) :
    ∃ A n cap x1, (∀ W, Below w.heap.size w W → (Instr.lookup 94 (.map (some b)) (.int .i64 view) true).run Try.prog W = .ok (.tuple #[.agg #[.slice A n cap, .int .i64 x1], .bool (m.lookup view).isSome]) W) ∧
      ∀ p, m.lookup view = some p → Bs w (fun k => ρ k = (i, 2, 0)) (.slice A n cap) p.1 ∧ x1 = p.2 := by
  obtain ⟨hr, z, h1, rfl, h3⟩ := h
  have e : ∀ W, Below w.heap.size w W → (Instr.lookup 94 (.map (some b)) (.int .i64 view) true).run Try.prog W = .ok (.tuple #[((mv (fun x : Value × (List UInt8 × Int) => Value.agg #[x.1, .int .i64 x.2.2]) z).lookup view).getD (.agg #[.slice none 0 0, .int .i64 0]), .bool ((mv (fun x : Value × (List UInt8 × Int) => Value.agg #[x.1, .int .i64 x.2.2]) z).lookup view).isSome]) W := fun W hW => by
    simpa using (h1.below hW).lookup (P := Try.prog) Try.underlying94 Try.underlying3 (zero_prop W) view true
  cases hz : z.lookup view with
  | none =>
    refine ⟨none, 0, 0, 0, fun W hW => by rw [e W hW, lookup_mv, lookup_mv, hz]; rfl, fun p hp => ?_⟩
    rw [lookup_mv, hz] at hp; cases hp
  | some x =>
    obtain ⟨A, cap, hx, _⟩ := h3 _ (lookup_mem hz)
    dsimp only at hx
    refine ⟨A, x.2.1.length, cap, x.2.2, fun W hW => by rw [e W hW, lookup_mv, lookup_mv, hz, ← hx]; rfl, fun p hp => ?_⟩
    rw [lookup_mv, hz] at hp
    cases hp
    rw [← hx]
    exact ⟨h3 _ (lookup_mem hz), rfl⟩

/-! ### One map of a core changes -/
section
variable {w w1 : World} {ρ ρ' : Roles} {i b fid : Nat} {c : CoreM} {vw vl vv : Value} {bp b1 b2 b3 bs bd : Nat} {F : Nat → Prop}
theorem Parts.props_set (h : Parts w ρ i b fid c vw vl vv bp b1 b2 b3 bs bd) (ho : Off F w w1) (ha : Agr w ρ ρ') (hf : ∀ k, k < w.heap.size → F k → (ρ k).2.1 = 3 ∨ (ρ k).2.1 = 103) {t : List (Int × (List UInt8 × Int))} (hp : Props w1 ρ' i bp t) :
    Parts w1 ρ' i b fid { c with props := t } vw vl vv bp b1 b2 b3 bs bd := by
  have hne : ∀ k, k < w.heap.size → F k → ∀ r : Nat × Int, r.1 ≠ 3 → r.1 ≠ 103 → ρ k ≠ (i, r) := by
    intro k hk f r h1 h2 e
    rcases hf k hk f with g | g <;> rw [e] at g
    · exact h1 g
    · exact h2 g
  exact {
    role := (ha b h.lt).trans h.role
    cells := ho.heap_some h.cells (fun f => hne b h.lt f _ (by decide) (by decide) h.role)
    wish := bytes_keep h.wish ho ha (fun k hk f => hne k hk f _ (by decide) (by decide))
    locked := bytes_keep h.locked ho ha (fun k hk f => hne k hk f _ (by decide) (by decide))
    value := bytes_keep h.value ho ha (fun k hk f => hne k hk f _ (by decide) (by decide))
    props := hp
    preps := h.preps.keep ho ha (fun k hk f => ⟨hne k hk f _ (by decide) (by decide), fun v => hne k hk f _ (by simp) (by simp), hne k hk f _ (by decide) (by decide)⟩)
    comms := h.comms.keep ho ha (fun k hk f => ⟨hne k hk f _ (by decide) (by decide), fun v => hne k hk f _ (by simp) (by simp), hne k hk f _ (by decide) (by decide)⟩)
    turns := h.turns.keep ho ha (fun k hk f => ⟨hne k hk f _ (by decide) (by decide), fun v => hne k hk f _ (by simp) (by simp), hne k hk f _ (by decide) (by decide)⟩)
    seen := ⟨(ha bs h.seen.2.lt).trans h.seen.1, h.seen.2.keep ho (fun f => hne bs h.seen.2.lt f _ (by decide) (by decide) h.seen.1)⟩
    decs := told_keep h.decs ho ha (fun k hk f => ⟨hne k hk f _ (by decide) (by decide), hne k hk f _ (by decide) (by decide)⟩) }
theorem Parts.preps_set (h : Parts w ρ i b fid c vw vl vv bp b1 b2 b3 bs bd) (ho : Off F w w1) (ha : Agr w ρ ρ') (hf : ∀ k, k < w.heap.size → F k → (ρ k).2.1 = 10 ∨ (ρ k).2.1 = 110) {t : TM} (hp : Outer w1 ρ' i 10 b1 t) :
    Parts w1 ρ' i b fid { c with preps := t } vw vl vv bp b1 b2 b3 bs bd := by
  have hne : ∀ k, k < w.heap.size → F k → ∀ r : Nat × Int, r.1 ≠ 10 → r.1 ≠ 110 → ρ k ≠ (i, r) := by
    intro k hk f r h1 h2 e
    rcases hf k hk f with g | g <;> rw [e] at g
    · exact h1 g
    · exact h2 g
  exact {
    role := (ha b h.lt).trans h.role
    cells := ho.heap_some h.cells (fun f => hne b h.lt f _ (by decide) (by decide) h.role)
    wish := bytes_keep h.wish ho ha (fun k hk f => hne k hk f _ (by decide) (by decide))
    locked := bytes_keep h.locked ho ha (fun k hk f => hne k hk f _ (by decide) (by decide))
    value := bytes_keep h.value ho ha (fun k hk f => hne k hk f _ (by decide) (by decide))
    props := h.props.keep ho ha (fun k hk f => ⟨hne k hk f _ (by decide) (by decide), hne k hk f _ (by decide) (by decide)⟩)
    preps := hp
    comms := h.comms.keep ho ha (fun k hk f => ⟨hne k hk f _ (by decide) (by decide), fun v => hne k hk f _ (by simp) (by simp), hne k hk f _ (by decide) (by decide)⟩)
    turns := h.turns.keep ho ha (fun k hk f => ⟨hne k hk f _ (by decide) (by decide), fun v => hne k hk f _ (by simp) (by simp), hne k hk f _ (by decide) (by decide)⟩)
    seen := ⟨(ha bs h.seen.2.lt).trans h.seen.1, h.seen.2.keep ho (fun f => hne bs h.seen.2.lt f _ (by decide) (by decide) h.seen.1)⟩
    decs := told_keep h.decs ho ha (fun k hk f => ⟨hne k hk f _ (by decide) (by decide), hne k hk f _ (by decide) (by decide)⟩) }
theorem Parts.comms_set (h : Parts w ρ i b fid c vw vl vv bp b1 b2 b3 bs bd) (ho : Off F w w1) (ha : Agr w ρ ρ') (hf : ∀ k, k < w.heap.size → F k → (ρ k).2.1 = 11 ∨ (ρ k).2.1 = 111) {t : TM} (hp : Outer w1 ρ' i 11 b2 t) :
    Parts w1 ρ' i b fid { c with comms := t } vw vl vv bp b1 b2 b3 bs bd := by
  have hne : ∀ k, k < w.heap.size → F k → ∀ r : Nat × Int, r.1 ≠ 11 → r.1 ≠ 111 → ρ k ≠ (i, r) := by
    intro k hk f r h1 h2 e
    rcases hf k hk f with g | g <;> rw [e] at g
    · exact h1 g
    · exact h2 g
  exact {
    role := (ha b h.lt).trans h.role
    cells := ho.heap_some h.cells (fun f => hne b h.lt f _ (by decide) (by decide) h.role)
    wish := bytes_keep h.wish ho ha (fun k hk f => hne k hk f _ (by decide) (by decide))
    locked := bytes_keep h.locked ho ha (fun k hk f => hne k hk f _ (by decide) (by decide))
    value := bytes_keep h.value ho ha (fun k hk f => hne k hk f _ (by decide) (by decide))
    props := h.props.keep ho ha (fun k hk f => ⟨hne k hk f _ (by decide) (by decide), hne k hk f _ (by decide) (by decide)⟩)
    preps := h.preps.keep ho ha (fun k hk f => ⟨hne k hk f _ (by decide) (by decide), fun v => hne k hk f _ (by simp) (by simp), hne k hk f _ (by decide) (by decide)⟩)
    comms := hp
    turns := h.turns.keep ho ha (fun k hk f => ⟨hne k hk f _ (by decide) (by decide), fun v => hne k hk f _ (by simp) (by simp), hne k hk f _ (by decide) (by decide)⟩)
    seen := ⟨(ha bs h.seen.2.lt).trans h.seen.1, h.seen.2.keep ho (fun f => hne bs h.seen.2.lt f _ (by decide) (by decide) h.seen.1)⟩
    decs := told_keep h.decs ho ha (fun k hk f => ⟨hne k hk f _ (by decide) (by decide), hne k hk f _ (by decide) (by decide)⟩) }
theorem Parts.turns_set (h : Parts w ρ i b fid c vw vl vv bp b1 b2 b3 bs bd) (ho : Off F w w1) (ha : Agr w ρ ρ') (hf : ∀ k, k < w.heap.size → F k → (ρ k).2.1 = 12 ∨ (ρ k).2.1 = 112) {t : TM} (hp : Outer w1 ρ' i 12 b3 t) :
    Parts w1 ρ' i b fid { c with turns := t } vw vl vv bp b1 b2 b3 bs bd := by
  have hne : ∀ k, k < w.heap.size → F k → ∀ r : Nat × Int, r.1 ≠ 12 → r.1 ≠ 112 → ρ k ≠ (i, r) := by
    intro k hk f r h1 h2 e
    rcases hf k hk f with g | g <;> rw [e] at g
    · exact h1 g
    · exact h2 g
  exact {
    role := (ha b h.lt).trans h.role
    cells := ho.heap_some h.cells (fun f => hne b h.lt f _ (by decide) (by decide) h.role)
    wish := bytes_keep h.wish ho ha (fun k hk f => hne k hk f _ (by decide) (by decide))
    locked := bytes_keep h.locked ho ha (fun k hk f => hne k hk f _ (by decide) (by decide))
    value := bytes_keep h.value ho ha (fun k hk f => hne k hk f _ (by decide) (by decide))
    props := h.props.keep ho ha (fun k hk f => ⟨hne k hk f _ (by decide) (by decide), hne k hk f _ (by decide) (by decide)⟩)
    preps := h.preps.keep ho ha (fun k hk f => ⟨hne k hk f _ (by decide) (by decide), fun v => hne k hk f _ (by simp) (by simp), hne k hk f _ (by decide) (by decide)⟩)
    comms := h.comms.keep ho ha (fun k hk f => ⟨hne k hk f _ (by decide) (by decide), fun v => hne k hk f _ (by simp) (by simp), hne k hk f _ (by decide) (by decide)⟩)
    turns := hp
    seen := ⟨(ha bs h.seen.2.lt).trans h.seen.1, h.seen.2.keep ho (fun f => hne bs h.seen.2.lt f _ (by decide) (by decide) h.seen.1)⟩
    decs := told_keep h.decs ho ha (fun k hk f => ⟨hne k hk f _ (by decide) (by decide), hne k hk f _ (by decide) (by decide)⟩) }
theorem Parts.seen_set (h : Parts w ρ i b fid c vw vl vv bp b1 b2 b3 bs bd) (ho : Off F w w1) (ha : Agr w ρ ρ') (hf : ∀ k, k < w.heap.size → F k → (ρ k).2.1 = 4 ∨ (ρ k).2.1 = 104) {t : List (Int × Int)} (hp : ρ' bs = (i, 4, 0) ∧ IMap w1 bs (mv (.int .i64) t)) :
    Parts w1 ρ' i b fid { c with seen := t } vw vl vv bp b1 b2 b3 bs bd := by
  have hne : ∀ k, k < w.heap.size → F k → ∀ r : Nat × Int, r.1 ≠ 4 → r.1 ≠ 104 → ρ k ≠ (i, r) := by
    intro k hk f r h1 h2 e
    rcases hf k hk f with g | g <;> rw [e] at g
    · exact h1 g
    · exact h2 g
  exact {
    role := (ha b h.lt).trans h.role
    cells := ho.heap_some h.cells (fun f => hne b h.lt f _ (by decide) (by decide) h.role)
    wish := bytes_keep h.wish ho ha (fun k hk f => hne k hk f _ (by decide) (by decide))
    locked := bytes_keep h.locked ho ha (fun k hk f => hne k hk f _ (by decide) (by decide))
    value := bytes_keep h.value ho ha (fun k hk f => hne k hk f _ (by decide) (by decide))
    props := h.props.keep ho ha (fun k hk f => ⟨hne k hk f _ (by decide) (by decide), hne k hk f _ (by decide) (by decide)⟩)
    preps := h.preps.keep ho ha (fun k hk f => ⟨hne k hk f _ (by decide) (by decide), fun v => hne k hk f _ (by simp) (by simp), hne k hk f _ (by decide) (by decide)⟩)
    comms := h.comms.keep ho ha (fun k hk f => ⟨hne k hk f _ (by decide) (by decide), fun v => hne k hk f _ (by simp) (by simp), hne k hk f _ (by decide) (by decide)⟩)
    turns := h.turns.keep ho ha (fun k hk f => ⟨hne k hk f _ (by decide) (by decide), fun v => hne k hk f _ (by simp) (by simp), hne k hk f _ (by decide) (by decide)⟩)
    seen := hp
    decs := told_keep h.decs ho ha (fun k hk f => ⟨hne k hk f _ (by decide) (by decide), hne k hk f _ (by decide) (by decide)⟩) }
theorem Parts.decs_set (h : Parts w ρ i b fid c vw vl vv bp b1 b2 b3 bs bd) (ho : Off F w w1) (ha : Agr w ρ ρ') (hf : ∀ k, k < w.heap.size → F k → (ρ k).2.1 = 5 ∨ (ρ k).2.1 = 105) {t : List (Int × List UInt8)} (hp : ρ' bd = (i, 5, 0) ∧ Told w1 (fun k => ρ' k = (i, 2, 0)) bd t) :
    Parts w1 ρ' i b fid { c with decs := t } vw vl vv bp b1 b2 b3 bs bd := by
  have hne : ∀ k, k < w.heap.size → F k → ∀ r : Nat × Int, r.1 ≠ 5 → r.1 ≠ 105 → ρ k ≠ (i, r) := by
    intro k hk f r h1 h2 e
    rcases hf k hk f with g | g <;> rw [e] at g
    · exact h1 g
    · exact h2 g
  exact {
    role := (ha b h.lt).trans h.role
    cells := ho.heap_some h.cells (fun f => hne b h.lt f _ (by decide) (by decide) h.role)
    wish := bytes_keep h.wish ho ha (fun k hk f => hne k hk f _ (by decide) (by decide))
    locked := bytes_keep h.locked ho ha (fun k hk f => hne k hk f _ (by decide) (by decide))
    value := bytes_keep h.value ho ha (fun k hk f => hne k hk f _ (by decide) (by decide))
    props := h.props.keep ho ha (fun k hk f => ⟨hne k hk f _ (by decide) (by decide), hne k hk f _ (by decide) (by decide)⟩)
    preps := h.preps.keep ho ha (fun k hk f => ⟨hne k hk f _ (by decide) (by decide), fun v => hne k hk f _ (by simp) (by simp), hne k hk f _ (by decide) (by decide)⟩)
    comms := h.comms.keep ho ha (fun k hk f => ⟨hne k hk f _ (by decide) (by decide), fun v => hne k hk f _ (by simp) (by simp), hne k hk f _ (by decide) (by decide)⟩)
    turns := h.turns.keep ho ha (fun k hk f => ⟨hne k hk f _ (by decide) (by decide), fun v => hne k hk f _ (by simp) (by simp), hne k hk f _ (by decide) (by decide)⟩)
    seen := ⟨(ha bs h.seen.2.lt).trans h.seen.1, h.seen.2.keep ho (fun f => hne bs h.seen.2.lt f _ (by decide) (by decide) h.seen.1)⟩
    decs := hp }
end

theorem agr_fresh (w : World) (ρ : Roles) (i m : Nat) : Agr w ρ (ρ.fresh i w.heap.size m) := fun k hk => by unfold Roles.fresh; rw [if_neg (by omega)]
theorem bs_fresh {w w1 w2 : World} {ρ : Roles} {i : Nat} {v : Value} {l : List UInt8} {r : Nat} (hb : Below w.heap.size w w1) (hr : r < w.heap.size) (hv : Bs w1 (fun k => w.heap.size ≤ k) v l) (ho : Off (fun k => k = r) w1 w2) :
    Bs w2 (fun k => ρ.fresh i w.heap.size w2.heap.size k = (i, 2, 0)) v l :=
  (hv.keep ho (fun k _ hk e => by subst e; omega)).mono (fun k hk hwk => by unfold Roles.fresh; rw [if_pos ⟨hwk, hk⟩])

/-- A proposal is laid. -/
theorem props_close {w w1 w2 : World} {ρ : Roles} {i b fid : Nat} {c : CoreM} {vw vl vv v' : Value} {bp b1 b2 b3 bs bd : Nat} {l : List UInt8} {x view : Int} {z : List (Int × (Value × (List UInt8 × Int)))}
    (h : Parts w ρ i b fid c vw vl vv bp b1 b2 b3 bs bd) (hr : ρ bp = (i, 3, 0)) (hz1 : IMap w bp (mv (fun x => .agg #[x.1, .int .i64 x.2.2]) z)) (hz2 : c.props = mv (·.2) z) (hz3 : ∀ p ∈ z, Bs w (fun k => ρ k = (i, 2, 0)) p.2.1 p.2.2.1)
    (hb : Below w.heap.size w w1) (hv : Bs w1 (fun k => w.heap.size ≤ k) v' l) (hm : IMap w2 bp (put (mv (fun x => .agg #[x.1, .int .i64 x.2.2]) z) view (.agg #[v', .int .i64 x]))) (ho : Off (fun k => k = bp) w1 w2) :
    Left w w2 ρ i b fid { c with props := put c.props view (l, x) } := by
  have hoff : Off (fun k => k = bp) w w2 := (Off.of_below hb).trans ho (fun _ _ h => h)
  have hbyte : ∀ k, k < w.heap.size → ρ k = (i, 2, 0) → (ρ.fresh i w.heap.size w2.heap.size) k = (i, 2, 0) := fun k hk h => (agr_fresh w ρ i _ k hk).trans h
  refine ⟨ρ.fresh i w.heap.size w2.heap.size, agr_fresh _ _ _ _, ⟨_, _, _, _, _, _, _, _, _, h.props_set hoff (agr_fresh _ _ _ _) (fun k hk e => .inl (by subst e; rw [hr])) ⟨(agr_fresh _ _ _ _ bp hz1.lt).trans hr, put z view (v', (l, x)), ?_, ?_, ?_⟩⟩, hoff.mono (fun k _ e => by subst e; rw [hr])⟩
  · rw [mv_put]; exact hm
  · rw [mv_put, hz2]
  · intro p hp
    rcases mem_put hp with rfl | ⟨hp, _⟩
    · exact bs_fresh hb hz1.lt hv ho
    · exact ((hz3 p hp).mono hbyte).keep hoff (fun k hk hO e => by rw [agr_fresh w ρ i _ k hk, e, hr] at hO; simp at hO)

/-- What a look-up of a peer's value in a view finds. -/
theorem Outer.find2 {w : World} {ρ : Roles} {i kind b : Nat} {t : TM} (h : Outer w ρ i kind b t) (view who : Int) :
    ∃ tv A n m, (∀ W, Below w.heap.size w W → (Instr.lookup 95 (.map (some b)) (.int .i64 view) false).run Try.prog W = .ok tv W) ∧
      (∀ W, Below w.heap.size w W → (Instr.lookup 98 tv (.int .i64 who) true).run Try.prog W = .ok (.tuple #[.slice A n m, .bool (hasT t view who)]) W) ∧
      ∀ l, (inner t view).lookup who = some l → Bs w (fun k => ρ k = (i, 2, 0)) (.slice A n m) l := by
  obtain ⟨tv, h1, h2⟩ := h.find view
  rcases h2 w (Below.refl _ _) with ⟨rfl, hn⟩ | ⟨bi, rfl, zi, hi1, hi2, hi3⟩
  · refine ⟨_, none, 0, 0, h1, fun W _ => ?_, fun l hl => by rw [hn] at hl; cases hl⟩
    unfold hasT
    rw [hn]
    exact lookup_nil Try.underlying98 Try.underlying3 (zero_bytes W) who true
  · have e : ∀ W, Below w.heap.size w W → (Instr.lookup 98 (.map (some bi)) (.int .i64 who) true).run Try.prog W = .ok (.tuple #[((mv (·.1) zi).lookup who).getD (.slice none 0 0), .bool ((mv (·.1) zi).lookup who).isSome]) W := fun W hW => by
      simpa using (hi1.below hW).lookup (P := Try.prog) Try.underlying98 Try.underlying3 (zero_bytes W) who true
    cases hz : zi.lookup who with
    | none =>
      refine ⟨_, none, 0, 0, h1, fun W hW => by rw [e W hW]; unfold hasT; rw [hi2, lookup_mv, lookup_mv, hz]; rfl, fun l hl => by rw [hi2, lookup_mv, hz] at hl; cases hl⟩
    | some x =>
      obtain ⟨A, cap, hx, _⟩ := id (hi3 _ (lookup_mem hz))
      dsimp only at hx
      refine ⟨_, A, x.2.length, cap, h1, fun W hW => by rw [e W hW]; unfold hasT; rw [hi2, lookup_mv, lookup_mv, hz, ← hx]; rfl, fun l hl => ?_⟩
      rw [hi2, lookup_mv, hz] at hl
      cases hl
      rw [← hx]
      exact hi3 _ (lookup_mem hz)
end Go.Proofs.Ytkkmkkgjpmlhaaa
namespace Go.Proofs.Ytkkmkkgjpmlhaaa
open Go.RowKit Go.MapKept

theorem mv_snd {α β : Type} (f : α → β) (m : List (Int × α)) : (mv f m).map (·.2) = (m.map (·.2)).map f := by unfold mv; simp [List.map_map, Function.comp_def]

set_option maxRecDepth 100000 in
set_option maxHeartbeats 1000000 in
theorem turn_any {ρ : Roles} {i b fid : Nat} {c : CoreM} (w : World) (h : CoreAt w ρ i b fid c) (ok : c.Ok) (hk : KeysOk c.seen) :
    Calls Try.prog 71 #[.pointer (some ⟨b, 0, none⟩)] w (DidPost w ρ i b fid c c.turn) := by
  obtain ⟨vw, vl, vv, bp, b1, b2, b3, bs, bd, h⟩ := h
  have c0 := h.cell 0
  have c4 := h.cell 4
  have c11 := h.cell 11
  simp only [coreCells, List.getElem?_toArray, List.getElem?_cons_zero, List.getElem?_cons_succ] at c0 c4 c11
  have cS := sortedV_any bs c.seen w h.seen.2 hk.1
  have hL : c.views.length ≤ 17592186044416 := by unfold CoreM.views; rw [(sortZ_perm _).length_eq, List.length_map]; exact hk.1
  have H := hid h
  obtain ⟨n0, n1, _, _, _, _, v0, v1⟩ := ok
  clear h
  have hvl : c.views.length = c.seen.length := by unfold CoreM.views; rw [(sortZ_perm _).length_eq, List.length_map]
  by_cases hlen : (c.views.length : Int) ≤ c.f
  · have hr : c.turn = none := by unfold CoreM.turn CoreM.reach; rw [if_pos hlen]
    have HR := hid hr
    unfold CoreM.f at hlen
    rw [hvl] at hlen hL
    clear hr hvl
    go_enter Try.func71, Try.ntmps71
    go_wp2_with (first | (go_at_call 84; refine (values_any _ _).mono ?_; rintro e w' ⟨rfl, rfl⟩) | (go_at_call 59; refine cS.mono ?_; rintro e w1 ⟨v, rfl, hz1, hb1⟩; obtain ⟨A, cap, rfl, hcap, hcells⟩ := id hz1; have d0 := (hb1.cell (p := ⟨b, 0, none⟩) H.out.lt).trans c0; have d4 := (hb1.cell (p := ⟨b, 4, none⟩) H.out.lt).trans c4))
    go_quiet (fail)
    go_wp2
    go_ret
    rw [HR.out]
    exact ⟨rfl, Left.of_below ⟨_, _, _, _, _, _, _, _, _, H.out⟩ (Off.drewN (Off.of_below hb1) _).below⟩
  · obtain ⟨x, hx⟩ : ∃ x, c.views[(c.views.length - 1 - c.f).toNat]? = some x := ⟨_, List.getElem?_eq_getElem (by unfold CoreM.f at *; omega)⟩
    have hreach : c.reach = some x := by unfold CoreM.reach; rw [if_neg hlen, hx]
    have hf : 1 ≤ c.f := by unfold CoreM.f; omega
    obtain ⟨k, hkk⟩ : ∃ k : Nat, (c.views.length : Int) - 1 - c.f = k := ⟨((c.views.length : Int) - 1 - c.f).toNat, by unfold CoreM.f at *; omega⟩
    rw [hkk, Int.toNat_natCast] at hx
    unfold CoreM.f at hlen hkk hf
    rw [hvl] at hlen hL hkk
    unfold CoreM.views at hx
    by_cases hxv : x ≤ c.view
    · have hr : c.turn = none := by unfold CoreM.turn; rw [hreach]; exact if_pos hxv
      have HR := hid hr
      clear hr hvl hreach
      go_enter Try.func71, Try.ntmps71
      go_wp2_with (first | (go_at_call 84; refine (values_any _ _).mono ?_; rintro e w' ⟨rfl, rfl⟩) | (go_at_call 59; refine cS.mono ?_; rintro e w1 ⟨v, rfl, hz1, hb1⟩; obtain ⟨A, cap, rfl, hcap, hcells⟩ := id hz1; have d0 := (hb1.cell (p := ⟨b, 0, none⟩) H.out.lt).trans c0; have d4 := (hb1.cell (p := ⟨b, 4, none⟩) H.out.lt).trans c4))
      obtain ⟨bz, rfl, hbz, hcl⟩ := hcells (by rw [(sortZ_perm _).length_eq, List.length_map]; omega)
      have hcx := hcl k x hx
      clear hcl hcells hz1
      have q1 : (k : Int) < (c.seen.length : Int) := by omega
      have q2 : k < c.seen.length := by omega
      have q4 : decide ((c.seen.length : Int) ≤ (c.n - 1) / 3) = false := decide_eq_false (by omega)
      have q5 : IntKind.i64.wrap ((c.seen.length : Int) - 1) = (c.seen.length : Int) - 1 := IntWalk.i64_in _ (by omega)
      have q6 : IntKind.i64.wrap ((c.seen.length : Int) - 1 - (c.n - 1) / 3) = k := by rw [hkk]; exact IntWalk.i64_in _ (by omega)
      go_quiet (fail)
      go_wp2
      go_ret
      rw [HR.out]
      exact ⟨rfl, Left.of_below ⟨_, _, _, _, _, _, _, _, _, H.out⟩ (Off.drewN (Off.of_below hb1) _).below⟩
    · have hr : c.turn = some { c with view := x } := by unfold CoreM.turn; rw [hreach]; exact if_neg hxv
      have HR := hid hr
      clear hr hvl hreach
      go_enter Try.func71, Try.ntmps71
      go_wp2_with (first | (go_at_call 84; refine (values_any _ _).mono ?_; rintro e w' ⟨rfl, rfl⟩) | (go_at_call 59; refine cS.mono ?_; rintro e w1 ⟨v, rfl, hz1, hb1⟩; obtain ⟨A, cap, rfl, hcap, hcells⟩ := id hz1; have d0 := (hb1.cell (p := ⟨b, 0, none⟩) H.out.lt).trans c0; have d4 := (hb1.cell (p := ⟨b, 4, none⟩) H.out.lt).trans c4))
      obtain ⟨bz, rfl, hbz, hcl⟩ := hcells (by rw [(sortZ_perm _).length_eq, List.length_map]; omega)
      have hcx := hcl k x hx
      clear hcl hcells hz1
      have q1 : (k : Int) < (c.seen.length : Int) := by omega
      have q2 : k < c.seen.length := by omega
      have q4 : decide ((c.seen.length : Int) ≤ (c.n - 1) / 3) = false := decide_eq_false (by omega)
      have q5 : IntKind.i64.wrap ((c.seen.length : Int) - 1) = (c.seen.length : Int) - 1 := IntWalk.i64_in _ (by omega)
      have q6 : IntKind.i64.wrap ((c.seen.length : Int) - 1 - (c.n - 1) / 3) = k := by rw [hkk]; exact IntWalk.i64_in _ (by omega)
      have f4 : w1.frozen? ⟨b, 4, none⟩ = false := (H.out.below hb1).frozen 4
      go_quiet (fail)
      go_wp2
      go_ret
      rw [HR.out]
      have ho : Off (fun k => k = b) w1 ((w1.drewN nq).setCell ⟨b, 4, none⟩ (.int .i64 x)) := Off.setCell (F := fun k => k = b) ((Off.refl (fun k => k = b) w1).drewN _) (fun _ => rfl) _
      have hp := (H.out.below hb1).set (c' := { c with view := x }) ho (Agr.refl _ _) (heap_setCell_cells (w := w1.drewN nq) (H.out.below hb1).cells _) (bytes_own (H.out.below hb1).wish H.out.role ho (Agr.refl _ _))
        (bytes_own (H.out.below hb1).locked H.out.role ho (Agr.refl _ _)) (bytes_own (H.out.below hb1).value H.out.role ho (Agr.refl _ _)) ⟨rfl, rfl, rfl, rfl, rfl, rfl⟩
      exact ⟨rfl, ρ, Agr.refl _ _, ⟨_, _, _, _, _, _, _, _, _, hp⟩, (Off.of_below hb1).trans ho (fun k _ e => by subst e; rw [H.out.role])⟩
end Go.Proofs.Ytkkmkkgjpmlhaaa
namespace Go.Proofs.Ytkkmkkgjpmlhaaa
open Go.RowKit Go.MapKept

/-- What the making of a core leaves: it, of an owner of its own. -/
def Made (w w' : World) (ρ : Roles) (i b fid : Nat) (c : CoreM) : Prop := ∃ ρ', Agr w ρ ρ' ∧ CoreAt w' ρ' i b fid c ∧ Below w.heap.size w w' ∧ w.heap.size ≤ b ∧ ∀ k, w.heap.size ≤ k → (ρ' k).1 = i
def NewPost (w : World) (ρ : Roles) (i fid : Nat) (c : CoreM) (e : Ending) (w' : World) : Prop := ∃ b, e = .returned (.pointer (some ⟨b, 0, none⟩)) ∧ Made w w' ρ i b fid c

theorem heap_alloc_at' (w : World) (o : Obj) (k : Nat) (h : k = w.heap.size) : (w.alloc o).heap[k]? = some o := by subst h; exact heap_alloc_new w o

def newRoles (ρ : Roles) (i s : Nat) : Roles := fun k =>
  if k < s then ρ k else if k = s then (i, 3, 0) else if k = s + 1 then (i, 10, 0) else if k = s + 2 then (i, 11, 0) else if k = s + 3 then (i, 12, 0) else if k = s + 4 then (i, 4, 0) else if k = s + 5 then (i, 5, 0) else (i, 1, 0)

theorem imap_at (w : World) (k : Nat) (h : k = w.heap.size) : IMap (w.alloc (.map #[] 0)) k [] := by subst h; exact IMap.made w

theorem new_close (ρ : Roles) (i fid : Nat) (n me slot : Int) (w : World) :
    Made w (((((((w.alloc (Obj.map #[] 0)).alloc (Obj.map #[] 0)).alloc (Obj.map #[] 0)).alloc (Obj.map #[] 0)).alloc (Obj.map #[] 0)).alloc (Obj.map #[] 0)).alloc
      (Obj.cells #[Value.int IntKind.i64 n, Value.int IntKind.i64 me, Value.int IntKind.i64 slot, Value.func (Fn.func fid) #[] #[], Value.int IntKind.i64 0, Value.slice none 0 0, Value.bool false,
          Value.map (some w.heap.size), Value.map (some (w.heap.size + 1)), Value.map (some (w.heap.size + 1 + 1)), Value.map (some (w.heap.size + 1 + 1 + 1)), Value.map (some (w.heap.size + 1 + 1 + 1 + 1)),
          Value.map (some (w.heap.size + 1 + 1 + 1 + 1 + 1)), Value.int IntKind.i64 (-1), Value.slice none 0 0, Value.bool false, Value.slice none 0 0] 100)) ρ i (w.heap.size + 1 + 1 + 1 + 1 + 1 + 1) fid { n := n, me := me, slot := slot } := by
  have r0 : newRoles ρ i w.heap.size w.heap.size = (i, 3, 0) := by unfold newRoles; repeat (first | rw [if_pos (by omega)] | rw [if_neg (by omega)])
  have r1 : newRoles ρ i w.heap.size (w.heap.size + 1) = (i, 10, 0) := by unfold newRoles; repeat (first | rw [if_pos (by omega)] | rw [if_neg (by omega)])
  have r2 : newRoles ρ i w.heap.size (w.heap.size + 1 + 1) = (i, 11, 0) := by unfold newRoles; repeat (first | rw [if_pos (by omega)] | rw [if_neg (by omega)])
  have r3 : newRoles ρ i w.heap.size (w.heap.size + 1 + 1 + 1) = (i, 12, 0) := by unfold newRoles; repeat (first | rw [if_pos (by omega)] | rw [if_neg (by omega)])
  have r4 : newRoles ρ i w.heap.size (w.heap.size + 1 + 1 + 1 + 1) = (i, 4, 0) := by unfold newRoles; repeat (first | rw [if_pos (by omega)] | rw [if_neg (by omega)])
  have r5 : newRoles ρ i w.heap.size (w.heap.size + 1 + 1 + 1 + 1 + 1) = (i, 5, 0) := by unfold newRoles; repeat (first | rw [if_pos (by omega)] | rw [if_neg (by omega)])
  have r6 : newRoles ρ i w.heap.size (w.heap.size + 1 + 1 + 1 + 1 + 1 + 1) = (i, 1, 0) := by unfold newRoles; repeat (first | rw [if_pos (by omega)] | rw [if_neg (by omega)])
  refine ⟨newRoles ρ i w.heap.size, fun k hk => by unfold newRoles; rw [if_pos hk], ⟨.slice none 0 0, .slice none 0 0, .slice none 0 0, w.heap.size, w.heap.size + 1, w.heap.size + 1 + 1, w.heap.size + 1 + 1 + 1, w.heap.size + 1 + 1 + 1 + 1, w.heap.size + 1 + 1 + 1 + 1 + 1, ?_⟩, ?_, by omega, fun k hk => ?_⟩
  · exact {
      role := r6
      cells := by rw [heap_alloc_at' _ _ _ (by simp)]; rfl
      wish := Bs.nil _ _
      locked := Bs.nil _ _
      value := Bs.nil _ _
      props := ⟨r0, [], ((((((imap_at w _ rfl).alloc _).alloc _).alloc _).alloc _).alloc _).alloc _, rfl, by simp⟩
      preps := ⟨r1, [], (((((imap_at _ _ (by simp)).alloc _).alloc _).alloc _).alloc _).alloc _, rfl, by simp⟩
      comms := ⟨r2, [], ((((imap_at _ _ (by simp)).alloc _).alloc _).alloc _).alloc _, rfl, by simp⟩
      turns := ⟨r3, [], (((imap_at _ _ (by simp)).alloc _).alloc _).alloc _, rfl, by simp⟩
      seen := ⟨r4, ((imap_at _ _ (by simp)).alloc _).alloc _⟩
      decs := ⟨r5, [], (imap_at _ _ (by simp)).alloc _, rfl, by simp⟩ }
  · exact (((((((Below.refl w.heap.size w).alloc (by simp) _).alloc (by simp <;> omega) _).alloc (by simp <;> omega) _).alloc (by simp <;> omega) _).alloc (by simp <;> omega) _).alloc (by simp <;> omega) _).alloc (by simp <;> omega) _
  · unfold newRoles
    rw [if_neg (by omega)]
    repeat' split
    all_goals rfl

set_option maxRecDepth 100000 in
set_option maxHeartbeats 2000000 in
theorem new_any (ρ : Roles) (i fid : Nat) (n me slot : Int) (w : World) (h : 4 ≤ n ∧ n ≤ 64 ∧ 1 ≤ me ∧ me ≤ n ∧ 0 ≤ slot ∧ slot ≤ 256) :
    Calls Try.prog 13 #[.int .i64 n, .int .i64 me, .int .i64 slot, .func (.func fid) #[] #[]] w (NewPost w ρ i fid { n := n, me := me, slot := slot }) := by
  obtain ⟨n0, n1, m0, m1, s0, s1⟩ := h
  have q1 : decide (n < 4) = false := decide_eq_false (by omega)
  have q2 : decide (64 < n) = false := decide_eq_false (by omega)
  have q3 : decide (me < 1) = false := decide_eq_false (by omega)
  have q4 : decide (n < me) = false := decide_eq_false (by omega)
  have q5 : decide (slot < 0) = false := decide_eq_false (by omega)
  have q6 : decide (256 < slot) = false := decide_eq_false (by omega)
  have hm : (binOp .eql 28 (.func (.func fid) #[] #[]) .nilFunc).run Try.prog w = .ok (.bool false) w := by kernel_rfl
  have hmm := @run_makeMap Try.prog
  go_enter Try.func13, Try.ntmps13
  go_wp2
  go_ret
  exact ⟨_, rfl, new_close ρ i fid n me slot w⟩
end Go.Proofs.Ytkkmkkgjpmlhaaa
