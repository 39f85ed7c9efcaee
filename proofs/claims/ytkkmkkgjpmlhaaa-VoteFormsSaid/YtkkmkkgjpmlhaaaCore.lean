/- A core in memory; the small functions of package vote. -/
import Derived.Test.YtkkmkkgjpmlhaaaCount
namespace Go.Proofs.Ytkkmkkgjpmlhaaa
open Go.RowKit Go.MapKept

/-- A map of proposals. -/
def Props (w : World) (ρ : Roles) (i b : Nat) (m : List (Int × (List UInt8 × Int))) : Prop :=
  ρ b = (i, 3, 0) ∧ ∃ z : List (Int × (Value × (List UInt8 × Int))), IMap w b (mv (fun x => .agg #[x.1, .int .i64 x.2.2]) z) ∧ m = mv (·.2) z ∧ ∀ p ∈ z, Bs w (fun k => ρ k = (i, 2, 0)) p.2.1 p.2.2.1

/-- The cells of a core. -/
def coreCells (c : CoreM) (fid : Nat) (vw vl vv : Value) (bp b1 b2 b3 bs bd : Nat) : Array Value :=
  #[.int .i64 c.n, .int .i64 c.me, .int .i64 c.slot, .func (.func fid) #[] #[], .int .i64 c.view, vw, .bool c.wishes, .map (some bp), .map (some b1), .map (some b2), .map (some b3), .map (some bs), .map (some bd),
    .int .i64 c.lock, vl, .bool c.decided, vv]

/-- The parts of a core in memory. -/
structure Parts (w : World) (ρ : Roles) (i b fid : Nat) (c : CoreM) (vw vl vv : Value) (bp b1 b2 b3 bs bd : Nat) : Prop where
  role : ρ b = (i, 1, 0)
  cells : w.heap[b]? = some (.cells (coreCells c fid vw vl vv bp b1 b2 b3 bs bd) 100 (0, 0))
  wish : Bs w (fun k => ρ k = (i, 2, 0)) vw c.wish
  locked : Bs w (fun k => ρ k = (i, 2, 0)) vl c.locked
  value : Bs w (fun k => ρ k = (i, 2, 0)) vv c.value
  props : Props w ρ i bp c.props
  preps : Outer w ρ i 10 b1 c.preps
  comms : Outer w ρ i 11 b2 c.comms
  turns : Outer w ρ i 12 b3 c.turns
  seen : ρ bs = (i, 4, 0) ∧ IMap w bs (mv (.int .i64) c.seen)
  decs : ρ bd = (i, 5, 0) ∧ Told w (fun k => ρ k = (i, 2, 0)) bd c.decs

/-- Block b is a core, owner i, that reads as c; its accept is function fid. -/
def CoreAt (w : World) (ρ : Roles) (i b fid : Nat) (c : CoreM) : Prop := ∃ vw vl vv bp b1 b2 b3 bs bd, Parts w ρ i b fid c vw vl vv bp b1 b2 b3 bs bd

section
variable {w w1 : World} {ρ ρ' : Roles} {i b fid : Nat} {c : CoreM} {F : Nat → Prop}
theorem Props.keep {m : List (Int × (List UInt8 × Int))} (h : Props w ρ i b m) (ho : Off F w w1) (ha : Agr w ρ ρ') (hf : ∀ k, k < w.heap.size → F k → ρ k ≠ (i, 3, 0) ∧ ρ k ≠ (i, 2, 0)) : Props w1 ρ' i b m := by
  obtain ⟨h0, z, h1, h2, h3⟩ := h
  exact ⟨(ha b h1.lt).trans h0, z, h1.keep ho (fun f => (hf b h1.lt f).1 h0), h2, fun p hp => ((h3 p hp).mono (O' := fun k => ρ' k = (i, 2, 0)) (fun k hk hO => (ha k hk).trans hO)).keep ho (fun k hk hO f => (hf k hk f).2 ((ha k hk).symm.trans hO))⟩

theorem bytes_keep {v : Value} {l : List UInt8} (h : Bs w (fun k => ρ k = (i, 2, 0)) v l) (ho : Off F w w1) (ha : Agr w ρ ρ') (hf : ∀ k, k < w.heap.size → F k → ρ k ≠ (i, 2, 0)) : Bs w1 (fun k => ρ' k = (i, 2, 0)) v l :=
  (h.mono (O' := fun k => ρ' k = (i, 2, 0)) (fun k hk hO => (ha k hk).trans hO)).keep ho (fun k hk hO f => hf k hk f ((ha k hk).symm.trans hO))

theorem told_keep {t : List (Int × List UInt8)} {bd kind : Nat} (h : ρ bd = (i, kind, 0) ∧ Told w (fun k => ρ k = (i, 2, 0)) bd t) (ho : Off F w w1) (ha : Agr w ρ ρ') (hf : ∀ k, k < w.heap.size → F k → ρ k ≠ (i, kind, 0) ∧ ρ k ≠ (i, 2, 0)) :
    ρ' bd = (i, kind, 0) ∧ Told w1 (fun k => ρ' k = (i, 2, 0)) bd t :=
  ⟨(ha bd h.2.lt).trans h.1, (h.2.mono (O' := fun k => ρ' k = (i, 2, 0)) (fun k hk hO => (ha k hk).trans hO)).keep ho (fun f => (hf bd h.2.lt f).1 h.1) (fun k hk hO f => (hf k hk f).2 ((ha k hk).symm.trans hO))⟩

/-- What touches no block of the owner leaves the core. -/
theorem Parts.keep {vw vl vv : Value} {bp b1 b2 b3 bs bd : Nat} (h : Parts w ρ i b fid c vw vl vv bp b1 b2 b3 bs bd) (ho : Off F w w1) (ha : Agr w ρ ρ') (hf : ∀ k, k < w.heap.size → F k → (ρ k).1 ≠ i) :
    Parts w1 ρ' i b fid c vw vl vv bp b1 b2 b3 bs bd := by
  have hne : ∀ k, k < w.heap.size → F k → ∀ r : Nat × Int, ρ k ≠ (i, r) := fun k hk f r e => hf k hk f (by rw [e])
  have hlt := heap_lt h.cells
  exact {
    role := (ha b hlt).trans h.role
    cells := ho.heap_some h.cells (fun f => hne b hlt f _ h.role)
    wish := bytes_keep h.wish ho ha (fun k hk f => hne k hk f _)
    locked := bytes_keep h.locked ho ha (fun k hk f => hne k hk f _)
    value := bytes_keep h.value ho ha (fun k hk f => hne k hk f _)
    props := h.props.keep ho ha (fun k hk f => ⟨hne k hk f _, hne k hk f _⟩)
    preps := h.preps.keep ho ha (fun k hk f => ⟨hne k hk f _, fun v => hne k hk f _, hne k hk f _⟩)
    comms := h.comms.keep ho ha (fun k hk f => ⟨hne k hk f _, fun v => hne k hk f _, hne k hk f _⟩)
    turns := h.turns.keep ho ha (fun k hk f => ⟨hne k hk f _, fun v => hne k hk f _, hne k hk f _⟩)
    seen := ⟨(ha bs h.seen.2.lt).trans h.seen.1, h.seen.2.keep ho (fun f => hne bs h.seen.2.lt f _ h.seen.1)⟩
    decs := told_keep h.decs ho ha (fun k hk f => ⟨hne k hk f _, hne k hk f _⟩) }
theorem CoreAt.keep (h : CoreAt w ρ i b fid c) (ho : Off F w w1) (ha : Agr w ρ ρ') (hf : ∀ k, k < w.heap.size → F k → (ρ k).1 ≠ i) : CoreAt w1 ρ' i b fid c := by
  obtain ⟨vw, vl, vv, bp, b1, b2, b3, bs, bd, h⟩ := h
  exact ⟨vw, vl, vv, bp, b1, b2, b3, bs, bd, h.keep ho ha hf⟩
theorem Parts.below {vw vl vv : Value} {bp b1 b2 b3 bs bd : Nat} (h : Parts w ρ i b fid c vw vl vv bp b1 b2 b3 bs bd) (hb : Below w.heap.size w w1) : Parts w1 ρ i b fid c vw vl vv bp b1 b2 b3 bs bd :=
  h.keep (Off.of_below (F := fun _ => False) hb) (Agr.refl _ _) (fun _ _ f => f.elim)
theorem Parts.lt {vw vl vv : Value} {bp b1 b2 b3 bs bd : Nat} (h : Parts w ρ i b fid c vw vl vv bp b1 b2 b3 bs bd) : b < w.heap.size := heap_lt h.cells
theorem Parts.cell {vw vl vv : Value} {bp b1 b2 b3 bs bd : Nat} (h : Parts w ρ i b fid c vw vl vv bp b1 b2 b3 bs bd) (j : Nat) : w.cell? ⟨b, j, none⟩ = (coreCells c fid vw vl vv bp b1 b2 b3 bs bd)[j]? := by
  simp [World.cell?, h.cells]
theorem Parts.frozen {vw vl vv : Value} {bp b1 b2 b3 bs bd : Nat} (h : Parts w ρ i b fid c vw vl vv bp b1 b2 b3 bs bd) (j : Nat) : w.frozen? ⟨b, j, none⟩ = false := by simp [World.frozen?, h.cells]
end

/-! ### quorum, proposer, View -/
theorem quorum_any (n : Int) (w : World) (h : 4 ≤ n ∧ n ≤ 64) : Calls Try.prog 96 #[.int .i64 n] w fun e w' => e = .returned (.int .i64 (n - (n - 1) / 3)) ∧ w = w' := by
  obtain ⟨h1, h2⟩ := h
  go_enter Try.func96, Try.ntmps96
  go_wp2
  go_ret
  exact ⟨rfl, rfl⟩

/-- Numbers of a core that can be. -/
structure CoreM.Ok (c : CoreM) : Prop where
  n0 : 4 ≤ c.n
  n1 : c.n ≤ 64
  me0 : 1 ≤ c.me
  me1 : c.me ≤ c.n
  slot0 : 0 ≤ c.slot
  slot1 : c.slot ≤ 256
  view0 : 0 ≤ c.view
  view1 : c.view ≤ 4294967296

theorem proposer_any {ρ : Roles} {i b fid : Nat} {c : CoreM} (view : Int) (w : World) (h : CoreAt w ρ i b fid c) (ok : c.Ok) (hv0 : 0 ≤ view) (hv1 : view ≤ 4294967296) :
    Calls Try.prog 53 #[.pointer (some ⟨b, 0, none⟩), .int .i64 view] w fun e w' => e = .returned (.int .i64 (c.proposer view)) ∧ ∃ k, w' = w.drewN k := by
  obtain ⟨vw, vl, vv, bp, b1, b2, b3, bs, bd, h⟩ := h
  have c0 := h.cell 0
  have c2 := h.cell 2
  simp only [coreCells, List.getElem?_toArray, List.getElem?_cons_zero, List.getElem?_cons_succ] at c0 c2
  obtain ⟨n0, n1, _, _, s0, s1, _, _⟩ := ok
  have hr := Int.emod_nonneg (c.slot + view) (show c.n ≠ 0 by omega)
  have hr2 := Int.emod_lt_of_pos (c.slot + view) (show 0 < c.n by omega)
  have hne : (c.n == 0) = false := by simp; omega
  go_enter Try.func53, Try.ntmps53
  go_wp2_with fail
  go_quiet (fail)
  go_wp2
  go_ret
  exact ⟨rfl, _, rfl⟩

theorem view_any {ρ : Roles} {i b fid : Nat} {c : CoreM} (w : World) (h : CoreAt w ρ i b fid c) :
    Calls Try.prog 21 #[.pointer (some ⟨b, 0, none⟩)] w fun e w' => e = .returned (.int .i64 c.view) ∧ w = w' := by
  obtain ⟨vw, vl, vv, bp, b1, b2, b3, bs, bd, h⟩ := h
  have c4 := h.cell 4
  simp only [coreCells, List.getElem?_toArray, List.getElem?_cons_zero, List.getElem?_cons_succ] at c4
  go_enter Try.func21, Try.ntmps21
  go_wp2
  go_ret
  exact ⟨rfl, rfl⟩

/-- Decided. -/
def DecidedPost (w : World) (c : CoreM) (e : Ending) (w' : World) : Prop :=
  ∃ v, e = .returned (.tuple #[v, .bool c.decided]) ∧ Bs w' (fun k => w.heap.size ≤ k) v (if c.decided then c.value else []) ∧ Below w.heap.size w w'
theorem decided_any {ρ : Roles} {i b fid : Nat} {c : CoreM} (w : World) (h : CoreAt w ρ i b fid c) (hl : c.value.length ≤ 140737488355328) :
    Calls Try.prog 20 #[.pointer (some ⟨b, 0, none⟩)] w (DecidedPost w c) := by
  obtain ⟨vw, vl, vv, bp, b1, b2, b3, bs, bd, h⟩ := h
  have c15 := h.cell 15
  have c16 := h.cell 16
  simp only [coreCells, List.getElem?_toArray, List.getElem?_cons_zero, List.getElem?_cons_succ] at c15 c16
  have hv := h.value
  cases hd : c.decided
  · rw [hd] at c15
    have HD := hid hd
    clear hd
    go_enter Try.func20, Try.ntmps20
    go_wp2
    go_ret2
    exact ⟨.slice none 0 0, by rw [HD.out]; rfl, by rw [HD.out]; exact Bs.nil _ _, Below.refl _ _⟩
  · rw [hd] at c15
    have HD := hid hd
    clear hd
    go_enter Try.func20, Try.ntmps20
    go_wp2_with (go_at_call 52; refine (clone_any _ hv hl).mono ?_; rintro e w1 ⟨v', rfl, hb1, hw1⟩)
    go_ret2
    exact ⟨v', by rw [HD.out]; rfl, by rw [HD.out]; exact hb1, hw1⟩
end Go.Proofs.Ytkkmkkgjpmlhaaa
