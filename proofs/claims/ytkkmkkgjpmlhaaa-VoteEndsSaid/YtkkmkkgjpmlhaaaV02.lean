/- A core in memory; the small functions of package vote. What is prepared; the best; the turn. Cores that can be: numbers, keys and lengths in bounds; the things that a core does keep them. All that a core can do: how often. What a core has told of its own stays; counting peers. No program in sight. -/
import Derived.Test.YtkkmkkgjpmlhaaaV01
import Derived.Deep.RegionHeld3
import Derived.Test.YtkkmkkgjpmlhaaaV00
namespace Go.Proofs.Ytkkmkkgjpmlhaaa
open Go.RowKit Go.MapKept

/-- A map of proposals. -/
def Props (w : World) (ρ : Roles) (i b : Nat) (m : List (Int × (List UInt8 × Int))) : Prop :=
  ρ b = (i, 3, 0) ∧ ∃ z : List (Int × (Value × (List UInt8 × Int))), IMap w b (mv (fun x => .agg #[x.1, .int .i64 x.2.2]) z) ∧ m = mv (·.2) z ∧ ∀ p ∈ z, Bs w (fun k => ρ k = (i, 2, 0)) p.2.1 p.2.2.1

/-- The cells of a core. -/
def coreCells (c : CoreM) (fid : Nat) (vw vl vv : Value) (bp b1 b2 b3 bs bd : Nat) : Array Value :=
  #[.int .i64 c.n, .int .i64 c.me, .int .i64 c.slot, .func (.func fid) #[] #[], .int .i64 c.view, vw, .bool c.wishes, .map (some bp), .map (some b1), .map (some b2), .map (some b3), .map (some bs), .map (some bd),
    .int .i64 c.lock, vl, .bool c.decided, vv]

/-- The parts of a core in memory. -/
structure Parts (w : World) (ρ : Roles) (i b fid : Nat) (c : CoreM) (vw vl vv : Value) (bp b1 b2 b3 bs bd : Nat) : Prop where
  role : ρ b = (i, 1, 0)
  cells : w.heap[b]? = some (.cells (coreCells c fid vw vl vv bp b1 b2 b3 bs bd) 100 (0, 0))
  wish : Bs w (fun k => ρ k = (i, 2, 0)) vw c.wish
  locked : Bs w (fun k => ρ k = (i, 2, 0)) vl c.locked
  value : Bs w (fun k => ρ k = (i, 2, 0)) vv c.value
  props : Props w ρ i bp c.props
  preps : Outer w ρ i 10 b1 c.preps
  comms : Outer w ρ i 11 b2 c.comms
  turns : Outer w ρ i 12 b3 c.turns
  seen : ρ bs = (i, 4, 0) ∧ IMap w bs (mv (.int .i64) c.seen)
  decs : ρ bd = (i, 5, 0) ∧ Told w (fun k => ρ k = (i, 2, 0)) bd c.decs

/-- Block b is a core, owner i, that reads as c; its accept is function fid. -/
def CoreAt (w : World) (ρ : Roles) (i b fid : Nat) (c : CoreM) : Prop := ∃ vw vl vv bp b1 b2 b3 bs bd, Parts w ρ i b fid c vw vl vv bp b1 b2 b3 bs bd

section
variable {w w1 : World} {ρ ρ' : Roles} {i b fid : Nat} {c : CoreM} {F : Nat → Prop}
theorem Props.keep {m : List (Int × (List UInt8 × Int))} (h : Props w ρ i b m) (ho : Off F w w1) (ha : Agr w ρ ρ') (hf : ∀ k, k < w.heap.size → F k → ρ k ≠ (i, 3, 0) ∧ ρ k ≠ (i, 2, 0)) : Props w1 ρ' i b m := by
  obtain ⟨h0, z, h1, h2, h3⟩ := h
  exact ⟨(ha b h1.lt).trans h0, z, h1.keep ho (fun f => (hf b h1.lt f).1 h0), h2, fun p hp => ((h3 p hp).mono (O' := fun k => ρ' k = (i, 2, 0)) (fun k hk hO => (ha k hk).trans hO)).keep ho (fun k hk hO f => (hf k hk f).2 ((ha k hk).symm.trans hO))⟩

theorem bytes_keep {v : Value} {l : List UInt8} (h : Bs w (fun k => ρ k = (i, 2, 0)) v l) (ho : Off F w w1) (ha : Agr w ρ ρ') (hf : ∀ k, k < w.heap.size → F k → ρ k ≠ (i, 2, 0)) : Bs w1 (fun k => ρ' k = (i, 2, 0)) v l :=
  (h.mono (O' := fun k => ρ' k = (i, 2, 0)) (fun k hk hO => (ha k hk).trans hO)).keep ho (fun k hk hO f => hf k hk f ((ha k hk).symm.trans hO))

theorem told_keep {t : List (Int × List UInt8)} {bd kind : Nat} (h : ρ bd = (i, kind, 0) ∧ Told w (fun k => ρ k = (i, 2, 0)) bd t) (ho : Off F w w1) (ha : Agr w ρ ρ') (hf : ∀ k, k < w.heap.size → F k → ρ k ≠ (i, kind, 0) ∧ ρ k ≠ (i, 2, 0)) :
    ρ' bd = (i, kind, 0) ∧ Told w1 (fun k => ρ' k = (i, 2, 0)) bd t :=
  ⟨(ha bd h.2.lt).trans h.1, (h.2.mono (O' := fun k => ρ' k = (i, 2, 0)) (fun k hk hO => (ha k hk).trans hO)).keep ho (fun f => (hf bd h.2.lt f).1 h.1) (fun k hk hO f => (hf k hk f).2 ((ha k hk).symm.trans hO))⟩

/-- What touches no block of the owner leaves the core. -/
theorem Parts.keep {vw vl vv : Value} {bp b1 b2 b3 bs bd : Nat} (h : Parts w ρ i b fid c vw vl vv bp b1 b2 b3 bs bd) (ho : Off F w w1) (ha : Agr w ρ ρ') (hf : ∀ k, k < w.heap.size → F k → (ρ k).1 ≠ i) :
    Parts w1 ρ' i b fid c vw vl vv bp b1 b2 b3 bs bd := by
  have hne : ∀ k, k < w.heap.size → F k → ∀ r : Nat × Int, ρ k ≠ (i, r) := fun k hk f r e => hf k hk f (by rw [e])
  have hlt := heap_lt h.cells
  exact {
    role := (ha b hlt).trans h.role
    cells := ho.heap_some h.cells (fun f => hne b hlt f _ h.role)
    wish := bytes_keep h.wish ho ha (fun k hk f => hne k hk f _)
    locked := bytes_keep h.locked ho ha (fun k hk f => hne k hk f _)
    value := bytes_keep h.value ho ha (fun k hk f => hne k hk f _)
    props := h.props.keep ho ha (fun k hk f => ⟨hne k hk f _, hne k hk f _⟩)
    preps := h.preps.keep ho ha (fun k hk f => ⟨hne k hk f _, fun v => hne k hk f _, hne k hk f _⟩)
    comms := h.comms.keep ho ha (fun k hk f => ⟨hne k hk f _, fun v => hne k hk f _, hne k hk f _⟩)
    turns := h.turns.keep ho ha (fun k hk f => ⟨hne k hk f _, fun v => hne k hk f _, hne k hk f _⟩)
    seen := ⟨(ha bs h.seen.2.lt).trans h.seen.1, h.seen.2.keep ho (fun f => hne bs h.seen.2.lt f _ h.seen.1)⟩
    decs := told_keep h.decs ho ha (fun k hk f => ⟨hne k hk f _, hne k hk f _⟩) }
theorem CoreAt.keep (h : CoreAt w ρ i b fid c) (ho : Off F w w1) (ha : Agr w ρ ρ') (hf : ∀ k, k < w.heap.size → F k → (ρ k).1 ≠ i) : CoreAt w1 ρ' i b fid c := by
  obtain ⟨vw, vl, vv, bp, b1, b2, b3, bs, bd, h⟩ := h
  exact ⟨vw, vl, vv, bp, b1, b2, b3, bs, bd, h.keep ho ha hf⟩
theorem Parts.below {vw vl vv : Value} {bp b1 b2 b3 bs bd : Nat} (h : Parts w ρ i b fid c vw vl vv bp b1 b2 b3 bs bd) (hb : Below w.heap.size w w1) : Parts w1 ρ i b fid c vw vl vv bp b1 b2 b3 bs bd :=
  h.keep (Off.of_below (F := fun _ => False) hb) (Agr.refl _ _) (fun _ _ f => f.elim)
theorem Parts.lt {vw vl vv : Value} {bp b1 b2 b3 bs bd : Nat} (h : Parts w ρ i b fid c vw vl vv bp b1 b2 b3 bs bd) : b < w.heap.size := heap_lt h.cells
theorem Parts.cell {vw vl vv : Value} {bp b1 b2 b3 bs bd : Nat} (h : Parts w ρ i b fid c vw vl vv bp b1 b2 b3 bs bd) (j : Nat) : w.cell? ⟨b, j, none⟩ = (coreCells c fid vw vl vv bp b1 b2 b3 bs bd)[j]? := by
  simp [World.cell?, h.cells]
theorem Parts.frozen {vw vl vv : Value} {bp b1 b2 b3 bs bd : Nat} (h : Parts w ρ i b fid c vw vl vv bp b1 b2 b3 bs bd) (j : Nat) : w.frozen? ⟨b, j, none⟩ = false := by simp [World.frozen?, h.cells]
end

/-! ### quorum, proposer, View -/
theorem quorum_any (n : Int) (w : World) (h : 4 ≤ n ∧ n ≤ 64) : Calls Try.prog 96 #[.int .i64 n] w fun e w' => e = .returned (.int .i64 (n - (n - 1) / 3)) ∧ w = w' := by
  obtain ⟨h1, h2⟩ := h
  go_enter Try.func96, Try.ntmps96
  go_wp2
  go_ret
  exact ⟨rfl, rfl⟩

/-- Numbers of a core that can be. -/
structure CoreM.Ok (c : CoreM) : Prop where
  n0 : 4 ≤ c.n
  n1 : c.n ≤ 64
  me0 : 1 ≤ c.me
  me1 : c.me ≤ c.n
  slot0 : 0 ≤ c.slot
  slot1 : c.slot ≤ 256
  view0 : 0 ≤ c.view
  view1 : c.view ≤ 4294967296

theorem proposer_any {ρ : Roles} {i b fid : Nat} {c : CoreM} (view : Int) (w : World) (h : CoreAt w ρ i b fid c) (ok : c.Ok) (hv0 : 0 ≤ view) (hv1 : view ≤ 4294967296) :
    Calls Try.prog 53 #[.pointer (some ⟨b, 0, none⟩), .int .i64 view] w fun e w' => e = .returned (.int .i64 (c.proposer view)) ∧ ∃ k, w' = w.drewN k := by
  obtain ⟨vw, vl, vv, bp, b1, b2, b3, bs, bd, h⟩ := h
  have c0 := h.cell 0
  have c2 := h.cell 2
  simp only [coreCells, List.getElem?_toArray, List.getElem?_cons_zero, List.getElem?_cons_succ] at c0 c2
  obtain ⟨n0, n1, _, _, s0, s1, _, _⟩ := ok
  have hr := Int.emod_nonneg (c.slot + view) (show c.n ≠ 0 by omega)
  have hr2 := Int.emod_lt_of_pos (c.slot + view) (show 0 < c.n by omega)
  have hne : (c.n == 0) = false := by simp; omega
  go_enter Try.func53, Try.ntmps53
  go_wp2_with fail
  go_quiet (fail)
  go_wp2
  go_ret
  exact ⟨rfl, _, rfl⟩

theorem view_any {ρ : Roles} {i b fid : Nat} {c : CoreM} (w : World) (h : CoreAt w ρ i b fid c) :
    Calls Try.prog 21 #[.pointer (some ⟨b, 0, none⟩)] w fun e w' => e = .returned (.int .i64 c.view) ∧ w = w' := by
  obtain ⟨vw, vl, vv, bp, b1, b2, b3, bs, bd, h⟩ := h
  have c4 := h.cell 4
  simp only [coreCells, List.getElem?_toArray, List.getElem?_cons_zero, List.getElem?_cons_succ] at c4
  go_enter Try.func21, Try.ntmps21
  go_wp2
  go_ret
  exact ⟨rfl, rfl⟩

/-- Decided. -/
def DecidedPost (w : World) (c : CoreM) (e : Ending) (w' : World) : Prop :=
  ∃ v, e = .returned (.tuple #[v, .bool c.decided]) ∧ Bs w' (fun k => w.heap.size ≤ k) v (if c.decided then c.value else []) ∧ Below w.heap.size w w'
theorem decided_any {ρ : Roles} {i b fid : Nat} {c : CoreM} (w : World) (h : CoreAt w ρ i b fid c) (hl : c.value.length ≤ 140737488355328) :
    Calls Try.prog 20 #[.pointer (some ⟨b, 0, none⟩)] w (DecidedPost w c) := by
  obtain ⟨vw, vl, vv, bp, b1, b2, b3, bs, bd, h⟩ := h
  have c15 := h.cell 15
  have c16 := h.cell 16
  simp only [coreCells, List.getElem?_toArray, List.getElem?_cons_zero, List.getElem?_cons_succ] at c15 c16
  have hv := h.value
  cases hd : c.decided
  · rw [hd] at c15
    have HD := hid hd
    clear hd
    go_enter Try.func20, Try.ntmps20
    go_wp2
    go_ret2
    exact ⟨.slice none 0 0, by rw [HD.out]; rfl, by rw [HD.out]; exact Bs.nil _ _, Below.refl _ _⟩
  · rw [hd] at c15
    have HD := hid hd
    clear hd
    go_enter Try.func20, Try.ntmps20
    go_wp2_with (go_at_call 52; refine (clone_any _ hv hl).mono ?_; rintro e w1 ⟨v', rfl, hb1, hw1⟩)
    go_ret2
    exact ⟨v', by rw [HD.out]; rfl, by rw [HD.out]; exact hb1, hw1⟩
end Go.Proofs.Ytkkmkkgjpmlhaaa
namespace Go.Proofs.Ytkkmkkgjpmlhaaa
open Go.RowKit Go.MapKept

def TMOk (t : TM) : Prop := KeysOk t ∧ ∀ p ∈ t, KeysOk p.2
theorem TMOk.inner {t : TM} (h : TMOk t) (view : Int) : KeysOk (inner t view) := by
  unfold Ytkkmkkgjpmlhaaa.inner
  cases hl : t.lookup view with
  | none => exact ⟨by simp, by simp⟩
  | some x => exact h.2 _ (lookup_mem hl)

/-- Keys of a core that can be. -/
structure CoreM.Keys (c : CoreM) : Prop where
  props : KeysOk c.props
  preps : TMOk c.preps
  comms : TMOk c.comms
  turns : TMOk c.turns
  seen : KeysOk c.seen
  decs : KeysOk c.decs

/-- What a look-up in a map of maps finds. -/
theorem Outer.find {w : World} {ρ : Roles} {i kind b : Nat} {t : TM} (h : Outer w ρ i kind b t) (view : Int) :
    ∃ v, (∀ W, Below w.heap.size w W → (Instr.lookup 95 (.map (some b)) (.int .i64 view) false).run Try.prog W = .ok v W) ∧ ∀ W, Below w.heap.size w W → ToldV W (fun k => ρ k = (i, 2, 0)) v (inner t view) := by
  obtain ⟨hr, z, h1, rfl, h3⟩ := h
  have e : ∀ W, Below w.heap.size w W → (Instr.lookup 95 (.map (some b)) (.int .i64 view) false).run Try.prog W = .ok (((mv (fun x => .map (some x.1)) z).lookup view).getD (.map none)) W := fun W hW => by
    simpa using (h1.below hW).lookup (P := Try.prog) Try.underlying95 Try.underlying3 (zero_told W) view false
  cases hz : z.lookup view with
  | none =>
    refine ⟨.map none, fun W hW => by rw [e W hW, lookup_mv, hz]; rfl, fun W hW => .inl ⟨rfl, by unfold inner; rw [lookup_mv, hz]; rfl⟩⟩
  | some x =>
    refine ⟨.map (some x.1), fun W hW => by rw [e W hW, lookup_mv, hz]; rfl, fun W hW => .inr ⟨x.1, rfl, ?_⟩⟩
    have : inner (mv (·.2) z) view = x.2 := by unfold inner; rw [lookup_mv, hz]; rfl
    rw [this]
    exact (h3 _ (lookup_mem hz)).2.keep (Off.of_below (F := fun _ => False) hW) (fun f => f) (fun _ _ _ f => f)

def OptPost (w : World) (O : Nat → Prop) (r : Option (List UInt8)) (e : Ending) (w' : World) : Prop :=
  ∃ v, e = .returned (.tuple #[v, .bool r.isSome]) ∧ Bs w O v (r.getD []) ∧ Below w.heap.size w w'

set_option maxRecDepth 100000 in
theorem prepared_any {ρ : Roles} {i b fid : Nat} {c : CoreM} (view : Int) (w : World) (h : CoreAt w ρ i b fid c) (ok : c.Ok) (hk : TMOk c.preps) :
    Calls Try.prog 87 #[.pointer (some ⟨b, 0, none⟩), .int .i64 view] w (OptPost w (fun k => ρ k = (i, 2, 0)) (c.prepared view)) := by
  obtain ⟨vw, vl, vv, bp, b1, b2, b3, bs, bd, h⟩ := h
  obtain ⟨tv, ht1, ht2⟩ := h.preps.find view
  have c0 := h.cell 0
  have c8 := h.cell 8
  simp only [coreCells, List.getElem?_toArray, List.getElem?_cons_zero, List.getElem?_cons_succ] at c0 c8
  have hS : ∀ W, Below w.heap.size w W → W.cell? ⟨b, 0, none⟩ = some (.int .i64 c.n) ∧ W.cell? ⟨b, 8, none⟩ = some (.map (some b1)) ∧ (Instr.lookup 95 (.map (some b1)) (.int .i64 view) false).run Try.prog W = .ok tv W ∧ Below w.heap.size w W :=
    fun W hW => ⟨(hW.cell (p := ⟨b, 0, none⟩) h.lt).trans c0, (hW.cell (p := ⟨b, 8, none⟩) h.lt).trans c8, ht1 W hW, hW⟩
  have HS := hid hS
  have HT := hid ht2
  clear ht1 ht2 hS
  go_enter Try.func87, Try.ntmps87
  go_wp2_with fail
  go_region_held3 (fun W => W.cell? ⟨b, 0, none⟩ = some (.int .i64 c.n) ∧ W.cell? ⟨b, 8, none⟩ = some (.map (some b1)) ∧ (Instr.lookup 95 (.map (some b1)) (.int .i64 view) false).run Try.prog W = .ok tv W ∧ Below w.heap.size w W)
    (first | exact HS.out _ (Below.refl _ _).drew | exact HS.out _ hw1)
    (first
      | (go_at_call 96; refine (quorum_any _ _ ⟨ok.n0, ok.n1⟩).mono ?_; rintro e w' ⟨rfl, rfl⟩)
      | (go_at_call 89; refine (count_v _ _ _ _ _ (HT.out _ (Below.refl _ _).drew) (hk.inner view)).mono ?_; rintro e w1 ⟨v, rfl, hv1, hw1'⟩; have hw1 := below_drew_l hw1'))
  all_goals
    go_wp2
    go_ret2
    exact ⟨v, rfl, hv1, hw1⟩
end Go.Proofs.Ytkkmkkgjpmlhaaa
namespace Go.Proofs.Ytkkmkkgjpmlhaaa

theorem wf64 {n : Int} (h0 : 0 ≤ n) (h1 : n ≤ 4294967296) : (Lit.int .i64 n).wf = true := by
  simp [Lit.wf, IntKind.min, IntKind.max, IntKind.signed, IntKind.bits]; omega

theorem nodup_length : ∀ (N : Nat) (l : List Int), l.Nodup → (∀ x ∈ l, 0 ≤ x ∧ x < N) → l.length ≤ N
  | 0, l, _, h => by
    cases l with
    | nil => simp
    | cons x l => have := h x List.mem_cons_self; omega
  | N + 1, l, hn, h => by
    have h1 := nodup_length N (l.erase N) (hn.erase _) (fun x hx => by
      have := h x (List.mem_of_mem_erase hx)
      have hne : x ≠ N := ((List.Nodup.mem_erase_iff hn).1 hx).1
      omega)
    by_cases hm : (N : Int) ∈ l
    · have := List.length_erase_of_mem hm
      have := List.length_pos_of_mem hm
      omega
    · rw [List.erase_of_not_mem hm] at h1; omega

theorem put_keys {α : Type} (m : List (Int × α)) (k : Int) (v : α) : (put m k v).map (·.1) = if m.any (·.1 == k) then m.map (·.1) else m.map (·.1) ++ [k] := by
  unfold put
  split
  · rw [List.map_map]
    apply List.map_congr_left
    intro p _
    by_cases e : p.1 = k <;> simp [e]
  · simp
theorem put_nodup {α : Type} {m : List (Int × α)} (h : (m.map (·.1)).Nodup) (k : Int) (v : α) : ((put m k v).map (·.1)).Nodup := by
  rw [put_keys]
  split
  · exact h
  · rename_i hn
    rw [List.nodup_append]
    refine ⟨h, by simp, fun a ha b hb => ?_⟩
    rw [List.mem_singleton.1 hb]
    rintro rfl
    obtain ⟨p, hp, e⟩ := List.mem_map.1 ha
    exact hn (List.any_eq_true.2 ⟨p, hp, by simpa using e⟩)

theorem put_all {α : Type} {m : List (Int × α)} {k : Int} {v : α} {Q : Int × α → Prop} (h1 : Q (k, v)) (h2 : ∀ p ∈ m, Q p) : ∀ p ∈ put m k v, Q p := fun p hp => by
  rcases mem_put hp with rfl | ⟨hp, _⟩
  · exact h1
  · exact h2 p hp

/-- Keys, all different, from 0 on. -/
def KeysFine {α : Type} (m : List (Int × α)) : Prop := (m.map (·.1)).Nodup ∧ ∀ p ∈ m, 0 ≤ p.1 ∧ p.1 ≤ 4294967296
theorem KeysFine.ok {α : Type} {m : List (Int × α)} (h : KeysFine m) : KeysOk m := by
  refine ⟨?_, fun p hp => wf64 (h.2 p hp).1 (h.2 p hp).2⟩
  have := nodup_length 4294967297 (m.map (·.1)) h.1 (fun x hx => by obtain ⟨p, hp, rfl⟩ := List.mem_map.1 hx; have := h.2 p hp; omega)
  rw [List.length_map] at this
  omega
theorem KeysFine.nil {α : Type} : KeysFine ([] : List (Int × α)) := ⟨by simp, by simp⟩
theorem KeysFine.put {α : Type} {m : List (Int × α)} (h : KeysFine m) {k : Int} (h0 : 0 ≤ k) (h1 : k ≤ 4294967296) (v : α) : KeysFine (Ytkkmkkgjpmlhaaa.put m k v) :=
  ⟨put_nodup h.1 k v, put_all (⟨h0, h1⟩) h.2⟩

/-- Values that aren't too long. -/
def Short (l : List UInt8) : Prop := l.length ≤ 268435456
theorem Short.lim {l : List UInt8} (h : Short l) : l.length ≤ 140737488355328 := by unfold Short at h; omega
def ToldFine (t : List (Int × List UInt8)) : Prop := KeysFine t ∧ ∀ p ∈ t, Short p.2
def TMFine (t : TM) : Prop := KeysFine t ∧ ∀ p ∈ t, ToldFine p.2
theorem ToldFine.nil : ToldFine [] := ⟨KeysFine.nil, by simp⟩
theorem TMFine.nil : TMFine [] := ⟨KeysFine.nil, by simp⟩
theorem TMFine.ok {t : TM} (h : TMFine t) : TMOk t := ⟨h.1.ok, fun p hp => (h.2 p hp).1.ok⟩
theorem TMFine.inner {t : TM} (h : TMFine t) (view : Int) : ToldFine (inner t view) := by
  unfold Ytkkmkkgjpmlhaaa.inner
  cases hl : t.lookup view with
  | none => exact ToldFine.nil
  | some x => exact h.2 _ (lookup_mem hl)
theorem ToldFine.put {t : List (Int × List UInt8)} (h : ToldFine t) {k : Int} (h0 : 0 ≤ k) (h1 : k ≤ 4294967296) {v : List UInt8} (hv : Short v) : ToldFine (Ytkkmkkgjpmlhaaa.put t k v) :=
  ⟨h.1.put h0 h1 v, put_all (hv) h.2⟩
theorem TMFine.setT {t : TM} (h : TMFine t) {view who : Int} (h0 : 0 ≤ view) (h1 : view ≤ 4294967296) (h2 : 0 ≤ who) (h3 : who ≤ 4294967296) {v : List UInt8} (hv : Short v) : TMFine (Ytkkmkkgjpmlhaaa.setT t view who v) :=
  ⟨h.1.put h0 h1 _, put_all ((h.inner view).put h2 h3 hv) h.2⟩
theorem ToldFine.lookup {t : List (Int × List UInt8)} (h : ToldFine t) {k : Int} {v : List UInt8} (hl : t.lookup k = some v) : Short v := h.2 _ (lookup_mem hl)

theorem cand_mem {t : List (Int × List UInt8)} {least : Int} {v : List UInt8} {who : Int} (h : CoreM.cand t least who = some v) : t.lookup who = some v ∧ (CoreM.votes t v : Int) ≥ least := by
  unfold CoreM.cand at h
  split at h
  · rename_i u hu
    split at h
    · cases h; exact ⟨hu, by assumption⟩
    · cases h
  · cases h
theorem count_mem {t : List (Int × List UInt8)} {least : Int} {v : List UInt8} (h : CoreM.count t least = some v) : (∃ who, t.lookup who = some v) ∧ (CoreM.votes t v : Int) ≥ least := by
  obtain ⟨who, _, h⟩ := List.exists_of_findSome?_eq_some h
  exact ⟨⟨who, (cand_mem h).1⟩, (cand_mem h).2⟩

/-- A core that can be. -/
structure CoreM.Fine (c : CoreM) : Prop where
  ok : c.Ok
  wish : Short c.wish
  locked : Short c.locked
  value : Short c.value
  props : KeysFine c.props
  propsV : ∀ p ∈ c.props, Short p.2.1 ∧ -1 ≤ p.2.2 ∧ p.2.2 ≤ 4294967296
  preps : TMFine c.preps
  comms : TMFine c.comms
  turns : TMFine c.turns
  seen : KeysFine c.seen
  seenV : ∀ p ∈ c.seen, 0 ≤ p.2 ∧ p.2 ≤ 4294967296
  decs : ToldFine c.decs
  lock0 : -1 ≤ c.lock
  lock1 : c.lock ≤ 4294967296

theorem CoreM.Fine.keys {c : CoreM} (h : c.Fine) : c.Keys := ⟨h.props.ok, h.preps.ok, h.comms.ok, h.turns.ok, h.seen.ok, h.decs.1.ok⟩
section
variable {c c' : CoreM}
theorem CoreM.Fine.prepared (h : c.Fine) {view : Int} {v : List UInt8} (hp : c.prepared view = some v) : Short v := by
  obtain ⟨⟨who, hw⟩, _⟩ := count_mem hp
  exact (h.preps.inner view).lookup hw
theorem bestAt_some {below view : Int} {r : Int × List UInt8} (hb : c.bestAt below view = some r) : r.1 = view ∧ c.prepared view = some r.2 ∧ view < below := by
  unfold CoreM.bestAt at hb
  split at hb
  · rename_i v hv
    split at hb
    · cases hb; exact ⟨rfl, hv, by assumption⟩
    · cases hb
  · cases hb
theorem best_mem {below : Int} {r : Int × List UInt8} (hb : c.best below = some r) : (∃ t, (r.1, t) ∈ c.preps) ∧ c.prepared r.1 = some r.2 ∧ r.1 < below := by
  obtain ⟨view, hm, hb⟩ := List.exists_of_findSome?_eq_some hb
  obtain ⟨h1, h2, h3⟩ := bestAt_some hb
  rw [List.mem_reverse] at hm
  obtain ⟨t, ht⟩ := mem_keys.1 hm
  subst h1
  exact ⟨⟨t, ht⟩, h2, h3⟩
theorem reach_mem {x : Int} (h : c.reach = some x) : ∃ p ∈ c.seen, p.2 = x := by
  unfold CoreM.reach at h
  split at h
  · cases h
  · have := List.mem_of_getElem? h
    unfold CoreM.views at this
    rw [(sortZ_perm _).mem_iff] at this
    obtain ⟨p, hp, e⟩ := List.mem_map.1 this
    exact ⟨p, hp, e⟩
theorem turn_some (h : c.turn = some c') : ∃ x, c.reach = some x ∧ c.view < x ∧ c' = { c with view := x } := by
  unfold CoreM.turn at h
  split at h
  · rename_i v hv
    split at h
    · cases h
    · exact ⟨v, hv, by omega, by cases h; rfl⟩
  · cases h
theorem propose_some (h : c.propose = some c') : (c.props.lookup c.view) = none ∧ c.proposer c.view = c.me ∧ ((∃ view v, c.best c.view = some (view, v) ∧ c' = { c with props := put c.props c.view (v, view) }) ∨ (c.best c.view = none ∧ c.wishes = true ∧ c' = { c with props := put c.props c.view (c.wish, -1) })) := by
  unfold CoreM.propose at h
  split at h
  · cases h
  · rename_i hn
    simp only [Bool.or_eq_true, not_or, Bool.not_eq_true, Option.isSome_eq_false_iff, Option.isNone_iff_eq_none, bne_eq_false_iff_eq] at hn
    refine ⟨hn.1, hn.2, ?_⟩
    split at h
    · rename_i view v hb
      exact .inl ⟨view, v, hb, by cases h; rfl⟩
    · rename_i hb
      split at h
      · exact .inr ⟨hb, by assumption, by cases h; rfl⟩
      · cases h
theorem prepare_some {acc : List UInt8 → Bool} (h : c.prepare acc = some c') : ∃ p, c.props.lookup c.view = some p ∧ hasT c.preps c.view c.me = false ∧ c.fit acc p = true ∧ c' = { c with preps := setT c.preps c.view c.me p.1 } := by
  unfold CoreM.prepare at h
  split at h
  · cases h
  · rename_i p hp
    split at h
    · cases h
    · rename_i hn
      simp only [Bool.or_eq_true, not_or, Bool.not_eq_true, Bool.not_eq_false'] at hn
      exact ⟨p, hp, hn.1, hn.2, by cases h; rfl⟩
theorem commit_some (h : c.commit = some c') : ∃ v, c.prepared c.view = some v ∧ hasT c.comms c.view c.me = false ∧ c' = { c with lock := c.view, locked := v, comms := setT c.comms c.view c.me v } := by
  unfold CoreM.commit at h
  split at h
  · cases h
  · rename_i v hv
    split at h
    · cases h
    · rename_i hn
      exact ⟨v, hv, by simpa using hn, by cases h; rfl⟩
theorem backed_some {view who : Int} {v : List UInt8} (h : c.backed view who = some v) : (inner c.comms view).lookup who = some v ∧ (c.backers view v : Int) ≥ c.quorum := by
  unfold CoreM.backed at h
  split at h
  · rename_i u hu
    split at h
    · cases h; exact ⟨hu, by assumption⟩
    · cases h
  · cases h
theorem agreed_some {view : Int} {v : List UInt8} (h : c.agreed view = some v) : (∃ who, (inner c.comms view).lookup who = some v) ∧ (c.backers view v : Int) ≥ c.quorum := by
  obtain ⟨who, _, h⟩ := List.exists_of_findSome?_eq_some h
  exact ⟨⟨who, (backed_some h).1⟩, (backed_some h).2⟩
theorem decide_some (h : c.decide_ = some c') : ∃ v, c' = { c with decided := true, value := v } ∧ ((∃ view, c.agreed view = some v) ∨ CoreM.count c.decs (c.f + 1) = some v) := by
  unfold CoreM.decide_ at h
  split at h
  · rename_i v hv
    obtain ⟨view, _, hv⟩ := List.exists_of_findSome?_eq_some hv
    exact ⟨v, by cases h; rfl, .inl ⟨view, hv⟩⟩
  · split at h
    · rename_i v hv
      exact ⟨v, by cases h; rfl, .inr hv⟩
    · cases h

theorem CoreM.Fine.turn (h : c.Fine) (ht : c.turn = some c') : c'.Fine := by
  obtain ⟨x, hx, _, rfl⟩ := turn_some ht
  obtain ⟨p, hp, rfl⟩ := reach_mem hx
  have := h.seenV p hp
  obtain ⟨⟨a1, a2, a3, a4, a5, a6, a7, a8⟩, b1, b2, b3, b4, b5, b6, b7, b8, b9, b10, b11, b12, b13⟩ := h
  exact ⟨⟨a1, a2, a3, a4, a5, a6, this.1, this.2⟩, b1, b2, b3, b4, b5, b6, b7, b8, b9, b10, b11, b12, b13⟩
theorem CoreM.Fine.propose (h : c.Fine) (ht : c.propose = some c') : c'.Fine := by
  obtain ⟨_, _, ht⟩ := propose_some ht
  have hv := h.ok.view0
  have hv1 := h.ok.view1
  rcases ht with ⟨view, v, hb, rfl⟩ | ⟨_, _, rfl⟩
  · obtain ⟨⟨t, hm⟩, hp, _⟩ := best_mem hb
    have hs := h.prepared hp
    have hk := h.preps.1.2 _ hm
    dsimp only at hs hk
    obtain ⟨a, b1, b2, b3, b4, b5, b6, b7, b8, b9, b10, b11, b12, b13⟩ := h
    exact ⟨⟨a.1, a.2, a.3, a.4, a.5, a.6, a.7, a.8⟩, b1, b2, b3, b4.put hv hv1 _, put_all (⟨hs, show (-1 : Int) ≤ view by omega, hk.2⟩) b5, b6, b7, b8, b9, b10, b11, b12, b13⟩
  · obtain ⟨a, b1, b2, b3, b4, b5, b6, b7, b8, b9, b10, b11, b12, b13⟩ := h
    exact ⟨⟨a.1, a.2, a.3, a.4, a.5, a.6, a.7, a.8⟩, b1, b2, b3, b4.put hv hv1 _, put_all (⟨b1, show (-1 : Int) ≤ -1 by decide, show (-1 : Int) ≤ 4294967296 by decide⟩) b5, b6, b7, b8, b9, b10, b11, b12, b13⟩
theorem CoreM.Fine.prepare {acc : List UInt8 → Bool} (h : c.Fine) (ht : c.prepare acc = some c') : c'.Fine := by
  obtain ⟨p, hp, _, _, rfl⟩ := prepare_some ht
  have hs := (h.propsV _ (lookup_mem hp)).1
  obtain ⟨a, b1, b2, b3, b4, b5, b6, b7, b8, b9, b10, b11, b12, b13⟩ := h
  have := a.me0; have := a.me1; have := a.n1
  exact ⟨⟨a.1, a.2, a.3, a.4, a.5, a.6, a.7, a.8⟩, b1, b2, b3, b4, b5, b6.setT a.view0 a.view1 (by omega) (by omega) hs, b7, b8, b9, b10, b11, b12, b13⟩
theorem CoreM.Fine.commit (h : c.Fine) (ht : c.commit = some c') : c'.Fine := by
  obtain ⟨v, hp, _, rfl⟩ := commit_some ht
  have hs := h.prepared hp
  obtain ⟨a, b1, b2, b3, b4, b5, b6, b7, b8, b9, b10, b11, b12, b13⟩ := h
  have := a.me0; have := a.me1; have := a.n1; have := a.view0
  exact ⟨⟨a.1, a.2, a.3, a.4, a.5, a.6, a.7, a.8⟩, b1, hs, b3, b4, b5, b6, b7.setT a.view0 a.view1 (by omega) (by omega) hs, b8, b9, b10, b11, by dsimp only; omega, a.view1⟩
theorem CoreM.Fine.agreed (h : c.Fine) {view : Int} {v : List UInt8} (hp : c.agreed view = some v) : Short v := by
  obtain ⟨⟨who, hw⟩, _⟩ := agreed_some hp
  exact (h.comms.inner view).lookup hw
theorem CoreM.Fine.decide_ (h : c.Fine) (ht : c.decide_ = some c') : c'.Fine := by
  obtain ⟨v, rfl, hv⟩ := decide_some ht
  have hs : Short v := by
    rcases hv with ⟨view, hv⟩ | hv
    · exact h.agreed hv
    · obtain ⟨⟨who, hw⟩, _⟩ := count_mem hv
      exact h.decs.lookup hw
  obtain ⟨a, b1, b2, b3, b4, b5, b6, b7, b8, b9, b10, b11, b12, b13⟩ := h
  exact ⟨⟨a.1, a.2, a.3, a.4, a.5, a.6, a.7, a.8⟩, b1, b2, hs, b4, b5, b6, b7, b8, b9, b10, b11, b12, b13⟩
theorem CoreM.Fine.undecided (h : c.Fine) : c.undecided.Fine := by
  obtain ⟨a, b1, b2, b3, b4, b5, b6, b7, b8, b9, b10, b11, b12, b13⟩ := h
  exact ⟨⟨a.1, a.2, a.3, a.4, a.5, a.6, a.7, a.8⟩, b1, b2, show (0 : Nat) ≤ 268435456 by decide, b4, b5, b6, b7, b8, b9, b10, b11, b12, b13⟩
theorem step_some {acc : List UInt8 → Bool} (h : c.step acc = some c') : c.turn = some c' ∨ (c.turn = none ∧ c.propose = some c') ∨ (c.turn = none ∧ c.propose = none ∧ c.prepare acc = some c') ∨
    (c.turn = none ∧ c.propose = none ∧ c.prepare acc = none ∧ c.commit = some c') ∨ (c.turn = none ∧ c.propose = none ∧ c.prepare acc = none ∧ c.commit = none ∧ c.decide_ = some c') := by
  unfold CoreM.step at h
  cases h1 : c.turn with
  | some x => rw [h1] at h; exact .inl h
  | none =>
    rw [h1, Option.none_or] at h
    cases h2 : c.propose with
    | some x => rw [h2] at h; exact .inr (.inl ⟨rfl, h⟩)
    | none =>
      rw [h2, Option.none_or] at h
      cases h3 : c.prepare acc with
      | some x => rw [h3] at h; exact .inr (.inr (.inl ⟨rfl, rfl, h⟩))
      | none =>
        rw [h3, Option.none_or] at h
        cases h4 : c.commit with
        | some x => rw [h4] at h; exact .inr (.inr (.inr (.inl ⟨rfl, rfl, rfl, h⟩)))
        | none => rw [h4, Option.none_or] at h; exact .inr (.inr (.inr (.inr ⟨rfl, rfl, rfl, rfl, h⟩)))
theorem CoreM.Fine.step {acc : List UInt8 → Bool} (h : c.Fine) (ht : c.step acc = some c') : c'.Fine := by
  rcases step_some ht with e | ⟨_, e⟩ | ⟨_, _, e⟩ | ⟨_, _, _, e⟩ | ⟨_, _, _, _, e⟩
  · exact h.turn e
  · exact h.propose e
  · exact h.prepare e
  · exact h.commit e
  · exact h.decide_ e
end
theorem CoreM.Fine.acts {acc : List UInt8 → Bool} : ∀ (k : Nat) {c : CoreM}, c.Fine → (CoreM.acts acc k c).Fine
  | 0, _, h => h
  | k + 1, c, h => by
    unfold CoreM.acts
    split
    · exact h
    · split
      · rename_i c' hc; exact CoreM.Fine.acts k (h.step hc)
      · exact h.undecided
end Go.Proofs.Ytkkmkkgjpmlhaaa
namespace Go.Proofs.Ytkkmkkgjpmlhaaa
namespace CoreM
variable {acc : List UInt8 → Bool} {c c' : CoreM}

/-- How many things may be to come. -/
def mu (c : CoreM) : Nat :=
  if c.decided then 0 else 1 + 4 * (4294967296 - c.view).toNat + (if (c.props.lookup c.view).isSome then 0 else 1) + (if hasT c.preps c.view c.me then 0 else 1) + (if hasT c.comms c.view c.me then 0 else 1)

theorem hasT_setT (t : TM) (view who v2 w2 : Int) (l : List UInt8) : hasT (setT t view who l) v2 w2 = (hasT t v2 w2 || (v2 == view && w2 == who)) := by
  unfold hasT setT inner
  rw [lookup_put]
  by_cases h : v2 = view
  · subst h
    rw [if_pos rfl]
    simp only [Option.getD_some]
    rw [lookup_put]
    by_cases h2 : w2 = who
    · subst h2; simp
    · rw [if_neg h2]; simp [h2]
  · rw [if_neg h]; simp [h]

theorem mu_step (h : c.Fine) (hd : c.decided = false) (hs : c.step acc = some c') : c'.mu < c.mu := by
  have hf' := h.step hs
  have v1 := hf'.ok.view1
  rcases step_some hs with e | ⟨_, e⟩ | ⟨_, _, e⟩ | ⟨_, _, _, e⟩ | ⟨_, _, _, _, e⟩
  · obtain ⟨x, _, hx, rfl⟩ := turn_some e
    dsimp only at v1
    unfold mu
    simp only [hd, Bool.false_eq_true, if_false]
    repeat' split
    all_goals omega
  · have hp := (propose_some e).1
    have h2 : c'.view = c.view ∧ c'.preps = c.preps ∧ c'.comms = c.comms ∧ c'.decided = c.decided ∧ c'.me = c.me ∧ (c'.props.lookup c.view).isSome = true := by
      obtain ⟨_, _, ⟨view, v, _, rfl⟩ | ⟨_, _, rfl⟩⟩ := propose_some e
      · exact ⟨rfl, rfl, rfl, rfl, rfl, by simp [lookup_put]⟩
      · exact ⟨rfl, rfl, rfl, rfl, rfl, by simp [lookup_put]⟩
    obtain ⟨a1, a2, a3, a4, a5, a6⟩ := h2
    unfold mu
    rw [a4, a1, a2, a3, a5, a6, hp, hd]
    simp only [Bool.false_eq_true, if_false, Option.isSome_none, if_true]
    omega
  · obtain ⟨p, hp, hn, _, rfl⟩ := prepare_some e
    unfold mu
    dsimp only
    rw [hasT_setT, hn, hd]
    simp only [Bool.false_eq_true, if_false, beq_self_eq_true, Bool.and_self, Bool.or_true, if_true]
    omega
  · obtain ⟨p, hp, hn, rfl⟩ := commit_some e
    unfold mu
    dsimp only
    rw [hasT_setT, hn, hd]
    simp only [Bool.false_eq_true, if_false, beq_self_eq_true, Bool.and_self, Bool.or_true, if_true]
    omega
  · obtain ⟨v, rfl, _⟩ := decide_some e
    unfold mu
    simp only [hd, Bool.false_eq_true, if_false, if_true]
    omega

theorem mu_pos (hd : c.decided = false) : 0 < c.mu := by unfold mu; rw [hd]; simp only [Bool.false_eq_true, if_false]; omega

theorem acts_decided (k : Nat) (hd : c.decided = true) : acts acc k c = c := by
  cases k with
  | zero => rfl
  | succ k => unfold acts; rw [if_pos hd]

theorem acts_eq : ∀ (n k : Nat) (c : CoreM), c.Fine → c.mu ≤ n → c.mu ≤ k → acts acc k c = acts acc n c
  | 0, k, c, _, h0, _ => by
    cases hd : c.decided with
    | true => rw [acts_decided _ hd, acts_decided _ hd]
    | false => have := mu_pos hd; omega
  | n + 1, k, c, hf, hn, hk => by
    cases hd : c.decided with
    | true => rw [acts_decided _ hd, acts_decided _ hd]
    | false =>
      have := mu_pos hd
      obtain ⟨k, rfl⟩ : ∃ j, k = j + 1 := ⟨k - 1, by omega⟩
      cases hs : c.step acc with
      | none => unfold acts; rw [hs]
      | some c' =>
        have hlt := mu_step hf hd hs
        unfold acts
        rw [if_neg (by rw [hd]; decide), if_neg (by rw [hd]; decide), hs]
        exact acts_eq n k c' (hf.step hs) (by omega) (by omega)

/-- act. -/
def settle (acc : List UInt8 → Bool) (c : CoreM) : CoreM := acts acc c.mu c
theorem settle_decided (hd : c.decided = true) : settle acc c = c := acts_decided _ hd
theorem settle_some (h : c.Fine) (hd : c.decided = false) (hs : c.step acc = some c') : settle acc c' = settle acc c := by
  have hlt := mu_step h hd hs
  obtain ⟨m, hm⟩ : ∃ m, c.mu = m + 1 := ⟨c.mu - 1, by omega⟩
  have : settle acc c = acts acc m c' := by
    unfold settle
    rw [hm]
    conv => lhs; unfold acts
    rw [if_neg (by rw [hd]; decide), hs]
  rw [this]
  exact acts_eq m c'.mu c' (h.step hs) (by omega) (Nat.le_refl _)
theorem settle_none (hd : c.decided = false) (hs : c.step acc = none) : settle acc c = c.undecided := by
  obtain ⟨m, hm⟩ : ∃ m, c.mu = m + 1 := ⟨c.mu - 1, by have := mu_pos hd; omega⟩
  unfold settle
  rw [hm]
  unfold acts
  rw [if_neg (by rw [hd]; decide), hs]
theorem Fine.settle (h : c.Fine) : (CoreM.settle acc c).Fine := h.acts _

/-! ### What it tells -/
def mineAt (c : CoreM) (kind : Int) (t : TM) (view : Int) : Option Vote := ((inner t view).lookup c.me).map fun l => ⟨kind, c.me, c.slot, view, -1, l⟩
def mine (c : CoreM) (kind : Int) (t : TM) : List Vote := (keys t).filterMap (c.mineAt kind t)
def word (c : CoreM) : Vote := if c.decided then ⟨4, c.me, c.slot, 0, -1, c.value⟩ else ⟨5, c.me, c.slot, c.view, -1, []⟩
def offer (c : CoreM) : List Vote :=
  match c.props.lookup c.view with
  | some p => if !c.decided && c.proposer c.view == c.me then [⟨1, c.me, c.slot, c.view, p.2, p.1⟩] else []
  | none => []
def says (c : CoreM) : List Vote := [c.word] ++ c.offer ++ c.mine 2 c.preps ++ c.mine 3 c.comms

/-! ### What comes from outside -/
def late (acc : List UInt8 → Bool) (c : CoreM) : CoreM := if !c.decided && decide (c.view < 1048576) then settle acc { c with view := c.view + 1 } else c
def ask (acc : List UInt8 → Bool) (c : CoreM) (l : List UInt8) : CoreM := if c.wishes || decide (4096 < l.length) then c else settle acc { c with wish := l, wishes := true }
/-- Of the others the greatest view. -/
def see (c : CoreM) (v : Vote) : CoreM := if v.kind = 4 then c else { c with seen := put c.seen v.frm (max ((c.seen.lookup v.frm).getD 0) v.view) }
def take (acc : List UInt8 → Bool) (c : CoreM) (v : Vote) : Bool × CoreM :=
  if v.slot != c.slot || decide (c.n < v.frm) || v.frm == c.me then (false, c)
  else if !v.okB then (false, c)
  else if !(c.know v).1 then (false, c)
  else (true, settle acc (see (c.know v).2 v))

theorem Fine.nextView (h : c.Fine) (hv : c.view < 1048576) : ({ c with view := c.view + 1 } : CoreM).Fine := by
  obtain ⟨⟨a1, a2, a3, a4, a5, a6, a7, a8⟩, b1, b2, b3, b4, b5, b6, b7, b8, b9, b10, b11, b12, b13⟩ := h
  exact ⟨⟨a1, a2, a3, a4, a5, a6, show 0 ≤ c.view + 1 by omega, show c.view + 1 ≤ 4294967296 by omega⟩, b1, b2, b3, b4, b5, b6, b7, b8, b9, b10, b11, b12, b13⟩
theorem Fine.wishFor (h : c.Fine) {l : List UInt8} (hl : Short l) : ({ c with wish := l, wishes := true } : CoreM).Fine := by
  obtain ⟨a, b1, b2, b3, b4, b5, b6, b7, b8, b9, b10, b11, b12, b13⟩ := h
  exact ⟨⟨a.1, a.2, a.3, a.4, a.5, a.6, a.7, a.8⟩, hl, b2, b3, b4, b5, b6, b7, b8, b9, b10, b11, b12, b13⟩
theorem Fine.late (h : c.Fine) : (CoreM.late acc c).Fine := by
  unfold CoreM.late
  split
  · rename_i hc
    simp only [Bool.and_eq_true, decide_eq_true_eq] at hc
    exact (h.nextView hc.2).settle
  · exact h
theorem Fine.ask (h : c.Fine) (l : List UInt8) : (CoreM.ask acc c l).Fine := by
  unfold CoreM.ask
  split
  · exact h
  · rename_i hc
    simp only [Bool.or_eq_true, decide_eq_true_eq, not_or] at hc
    exact (h.wishFor (by unfold Short; omega)).settle
theorem okB_iff (v : Vote) : v.okB = true ↔ (1 ≤ v.kind ∧ v.kind ≤ 5 ∧ 1 ≤ v.frm ∧ v.frm ≤ 64 ∧ 0 ≤ v.slot ∧ v.slot ≤ 256 ∧ 0 ≤ v.view ∧ v.view ≤ 1048576 ∧ -1 ≤ v.valid ∧ v.valid ≤ 1048576 ∧ v.value.length ≤ 4096) := by
  unfold Vote.okB
  simp only [Bool.and_eq_true, decide_eq_true_eq, and_assoc]
theorem Fine.know (h : c.Fine) {v : Vote} (hv : v.okB = true) : (c.know v).2.Fine := by
  obtain ⟨k0, k1, f0, f1, s0, s1, v0, v1, a0, a1, hl⟩ := (okB_iff v).1 hv
  have hs : Short v.value := by unfold Short; omega
  obtain ⟨a, b1, b2, b3, b4, b5, b6, b7, b8, b9, b10, b11, b12, b13⟩ := id h
  unfold CoreM.know
  split
  · split
    · exact h
    · exact ⟨⟨a.1, a.2, a.3, a.4, a.5, a.6, a.7, a.8⟩, b1, b2, b3, b4.put v0 (by omega) _, put_all ⟨hs, show -1 ≤ v.valid from a0, show v.valid ≤ 4294967296 by omega⟩ b5, b6, b7, b8, b9, b10, b11, b12, b13⟩
  · split
    · dsimp only
      split
      · exact h
      · exact ⟨⟨a.1, a.2, a.3, a.4, a.5, a.6, a.7, a.8⟩, b1, b2, b3, b4, b5, b6.setT v0 (by omega) (by omega) (by omega) hs, b7, b8, b9, b10, b11, b12, b13⟩
    · split
      · dsimp only
        split
        · exact h
        · exact ⟨⟨a.1, a.2, a.3, a.4, a.5, a.6, a.7, a.8⟩, b1, b2, b3, b4, b5, b6, b7.setT v0 (by omega) (by omega) (by omega) hs, b8, b9, b10, b11, b12, b13⟩
      · split
        · dsimp only
          split
          · exact h
          · exact ⟨⟨a.1, a.2, a.3, a.4, a.5, a.6, a.7, a.8⟩, b1, b2, b3, b4, b5, b6, b7, b8.setT v0 (by omega) (by omega) (by omega) hs, b9, b10, b11, b12, b13⟩
        · split
          · exact h
          · exact ⟨⟨a.1, a.2, a.3, a.4, a.5, a.6, a.7, a.8⟩, b1, b2, b3, b4, b5, b6, b7, b8, b9, b10, b11.put (by omega) (by omega) hs, b12, b13⟩
theorem Fine.see (h : c.Fine) {v : Vote} (hv : v.okB = true) : (c.see v).Fine := by
  obtain ⟨k0, k1, f0, f1, s0, s1, v0, v1, a0, a1, hl⟩ := (okB_iff v).1 hv
  unfold CoreM.see
  split
  · exact h
  · have hm : 0 ≤ (c.seen.lookup v.frm).getD 0 ∧ (c.seen.lookup v.frm).getD 0 ≤ 4294967296 := by
      cases hl : c.seen.lookup v.frm with
      | none => exact ⟨by decide, by decide⟩
      | some x => exact h.seenV _ (lookup_mem hl)
    obtain ⟨a, b1, b2, b3, b4, b5, b6, b7, b8, b9, b10, b11, b12, b13⟩ := h
    exact ⟨⟨a.1, a.2, a.3, a.4, a.5, a.6, a.7, a.8⟩, b1, b2, b3, b4, b5, b6, b7, b8, b9.put (by omega) (by omega) _, put_all (show 0 ≤ max ((c.seen.lookup v.frm).getD 0) v.view ∧ max ((c.seen.lookup v.frm).getD 0) v.view ≤ 4294967296 by omega) b10, b11, b12, b13⟩
theorem Fine.take (h : c.Fine) (v : Vote) : (CoreM.take acc c v).2.Fine := by
  unfold CoreM.take
  split
  · exact h
  · split
    · exact h
    · split
      · exact h
      · rename_i hv _
        exact ((h.know (by simpa using hv)).see (by simpa using hv)).settle
end CoreM
end Go.Proofs.Ytkkmkkgjpmlhaaa
namespace Go.Proofs.Ytkkmkkgjpmlhaaa

theorem lookup_inner_setT (t : TM) (view who v2 w2 : Int) (l : List UInt8) : (inner (setT t view who l) v2).lookup w2 = if v2 = view ∧ w2 = who then some l else (inner t v2).lookup w2 := by
  unfold setT
  by_cases h : v2 = view
  · subst h
    have e : inner (put t v2 (put (inner t v2) who l)) v2 = put (inner t v2) who l := by
      conv => lhs; unfold inner
      rw [lookup_put, if_pos rfl]; rfl
    rw [e, lookup_put]
    by_cases h2 : w2 = who <;> simp [h2]
  · have e : inner (put t view (put (inner t view) who l)) v2 = inner t v2 := by
      conv => lhs; unfold inner
      rw [lookup_put, if_neg h]; rfl
    rw [e, if_neg (fun e => h e.1)]

/-! ### Counting -/
def cnt (n : Nat) (A : Nat → Bool) : Nat := ((List.range n).filter A).length
section
variable {n : Nat} {A B C : Nat → Bool}
theorem cnt_succ (n : Nat) (A : Nat → Bool) : cnt (n + 1) A = cnt n A + (if A n then 1 else 0) := by
  unfold cnt
  rw [List.range_succ, List.filter_append, List.length_append]
  congr 1
  by_cases h : A n <;> simp [h]
theorem cnt_mono (h : ∀ j, j < n → A j = true → B j = true) : cnt n A ≤ cnt n B := by
  induction n with
  | zero => exact Nat.le_refl _
  | succ n ih =>
    have := ih (fun j hj => h j (by omega))
    have hn := h n (by omega)
    rw [cnt_succ, cnt_succ]
    by_cases ha : A n = true
    · rw [if_pos ha, if_pos (hn ha)]; omega
    · rw [if_neg ha]; omega
theorem cnt_congr (h : ∀ j, j < n → A j = B j) : cnt n A = cnt n B :=
  Nat.le_antisymm (cnt_mono fun j hj e => by rw [← h j hj]; exact e) (cnt_mono fun j hj e => by rw [h j hj]; exact e)
theorem cnt_le (n : Nat) (A : Nat → Bool) : cnt n A ≤ n := by
  have := List.length_filter_le A (List.range n)
  rw [List.length_range] at this
  exact this
theorem cnt_and (n : Nat) (A B : Nat → Bool) : cnt n A + cnt n B ≤ cnt n (fun j => A j && B j) + n := by
  induction n with
  | zero => simp [cnt]
  | succ n ih =>
    rw [cnt_succ, cnt_succ, cnt_succ]
    by_cases ha : A n = true <;> by_cases hb : B n = true <;> simp [ha, hb] <;> omega
theorem cnt_lt (h : cnt n A < cnt n B) : ∃ j, j < n ∧ A j = false ∧ B j = true := by
  by_cases hx : ∃ j, j < n ∧ A j = false ∧ B j = true
  · exact hx
  · have := cnt_mono (n := n) (A := B) (B := A) (fun j hj hb => by
      cases ha : A j with
      | true => rfl
      | false => exact absurd ⟨j, hj, ha, hb⟩ hx)
    omega
/-- Two quorums have a right one in common. -/
theorem quorum_meet {wrong a b : Nat → Bool} (h4 : 4 ≤ n) (hw : cnt n wrong ≤ (n - 1) / 3) (ha : n - (n - 1) / 3 ≤ cnt n (fun j => wrong j || a j)) (hb : n - (n - 1) / 3 ≤ cnt n (fun j => wrong j || b j)) :
    ∃ j, j < n ∧ wrong j = false ∧ a j = true ∧ b j = true := by
  have h1 := cnt_and n (fun j => wrong j || a j) (fun j => wrong j || b j)
  obtain ⟨j, hj, h2, h3⟩ := cnt_lt (n := n) (A := wrong) (B := fun j => (wrong j || a j) && (wrong j || b j)) (by omega)
  simp only [h2, Bool.false_or, Bool.and_eq_true] at h3
  exact ⟨j, hj, h2, h3.1, h3.2⟩
/-- A quorum has a right one. -/
theorem quorum_some {wrong a : Nat → Bool} (h4 : 4 ≤ n) (hw : cnt n wrong ≤ (n - 1) / 3) (ha : n - (n - 1) / 3 ≤ cnt n (fun j => wrong j || a j)) : ∃ j, j < n ∧ wrong j = false ∧ a j = true := by
  obtain ⟨j, h1, h2, h3, _⟩ := quorum_meet h4 hw ha ha
  exact ⟨j, h1, h2, h3⟩
end

theorem nodup_sub_length : ∀ (l m : List Int), l.Nodup → (∀ x ∈ l, x ∈ m) → l.length ≤ m.length
  | [], _, _, _ => Nat.zero_le _
  | x :: l, m, hn, hs => by
    rw [List.nodup_cons] at hn
    have hx := hs x List.mem_cons_self
    have h1 := nodup_sub_length l (m.erase x) hn.2 (fun y hy => (List.mem_erase_of_ne (by rintro rfl; exact hn.1 hy)).2 (hs y (List.mem_cons_of_mem _ hy)))
    have h2 := List.length_erase_of_mem hx
    have h3 := List.length_pos_of_mem hx
    simp only [List.length_cons]
    omega

/-- Values of a map whose keys are peers, counted by peers. -/
theorem votes_cnt {n : Nat} {t : List (Int × List UInt8)} {v : List UInt8} (hn : (t.map (·.1)).Nodup) (hk : ∀ p ∈ t, 1 ≤ p.1 ∧ p.1 ≤ n) : CoreM.votes t v = cnt n (fun j => t.lookup ((j : Int) + 1) == some v) := by
  apply Nat.le_antisymm
  · unfold CoreM.votes cnt
    have e1 := (t.filter fun p => p.2 == v).length_map (·.1)
    have e2 := ((List.range n).filter fun (j : Nat) => t.lookup ((j : Int) + 1) == some v).length_map (fun j : Nat => (j : Int) + 1)
    rw [← e1, ← e2]
    apply nodup_sub_length
    · exact ((List.filter_sublist).map _).nodup hn
    · intro x hx
      obtain ⟨p, hp, rfl⟩ := List.mem_map.1 hx
      obtain ⟨hp, he⟩ := List.mem_filter.1 hp
      have hb := hk p hp
      have hl := lookup_of_mem hn (k := p.1) (v := p.2) hp
      refine List.mem_map.2 ⟨(p.1 - 1).toNat, List.mem_filter.2 ⟨List.mem_range.2 (by omega), ?_⟩, by omega⟩
      have e : (((p.1 - 1).toNat : Nat) : Int) + 1 = p.1 := by omega
      rw [e, hl]
      simpa using he
  · unfold CoreM.votes cnt
    have e1 := (t.filter fun p => p.2 == v).length_map (·.1)
    have e2 := ((List.range n).filter fun (j : Nat) => t.lookup ((j : Int) + 1) == some v).length_map (fun j : Nat => (j : Int) + 1)
    rw [← e1, ← e2]
    apply nodup_sub_length
    · have h1 : ((List.range n).filter fun (j : Nat) => t.lookup ((j : Int) + 1) == some v).Nodup := (List.filter_sublist).nodup List.nodup_range
      rw [List.Nodup, List.pairwise_map]
      exact List.Pairwise.imp (fun h e => h (by omega)) h1
    · intro x hx
      obtain ⟨j, hj, rfl⟩ := List.mem_map.1 hx
      obtain ⟨_, he⟩ := List.mem_filter.1 hj
      have he : t.lookup ((j : Int) + 1) = some v := by simpa using he
      exact List.mem_map.2 ⟨_, List.mem_filter.2 ⟨lookup_mem he, by simp⟩, rfl⟩

namespace CoreM
variable {acc : List UInt8 → Bool} {c c' : CoreM}
/-- The Prepare, the Commit that it told in a view. -/
def ownP (c : CoreM) (v : Int) : Option (List UInt8) := (inner c.preps v).lookup c.me
def ownC (c : CoreM) (v : Int) : Option (List UInt8) := (inner c.comms v).lookup c.me

/-- What holds of each core by itself. -/
structure Loc (acc : List UInt8 → Bool) (c : CoreM) : Prop where
  fine : c.Fine
  lp : ∀ v x, c.ownP v = some x → v ≤ c.view
  lc : ∀ v x, c.ownC v = some x → v ≤ c.view
  lk1 : ∀ v x, c.ownC v = some x → v ≤ c.lock
  lk2 : 0 ≤ c.lock → c.ownC c.lock = some c.locked
  la : ∀ v x, c.ownP v = some x → acc x = true
  kp : ∀ v, ∀ p ∈ inner c.preps v, 1 ≤ p.1 ∧ p.1 ≤ c.n
  kc : ∀ v, ∀ p ∈ inner c.comms v, 1 ≤ p.1 ∧ p.1 ≤ c.n
  kd : ∀ p ∈ c.decs, 1 ≤ p.1 ∧ p.1 ≤ c.n

/-- What a core goes on to: its own words stay. -/
structure Next (c c' : CoreM) : Prop where
  n : c'.n = c.n
  me : c'.me = c.me
  slot : c'.slot = c.slot
  view : c.view ≤ c'.view
  keepP : ∀ v x, c.ownP v = some x → c'.ownP v = some x
  keepC : ∀ v x, c.ownC v = some x → c'.ownC v = some x
  fresh : ∀ v x, c'.ownC v = some x → c.ownC v = some x ∨ (c.ownC v = none ∧ c.view ≤ v)
  keepD : c.decided = true → c'.decided = true ∧ c'.value = c.value
theorem Next.refl (c : CoreM) : Next c c := ⟨rfl, rfl, rfl, Int.le_refl _, fun _ _ h => h, fun _ _ h => h, fun _ _ h => .inl h, fun h => ⟨h, rfl⟩⟩
theorem Next.trans {c1 c2 : CoreM} (h : Next c c1) (k : Next c1 c2) : Next c c2 :=
  ⟨k.n.trans h.n, k.me.trans h.me, k.slot.trans h.slot, Int.le_trans h.view k.view, fun v x e => k.keepP v x (h.keepP v x e), fun v x e => k.keepC v x (h.keepC v x e),
   (fun v x e => by
    rcases k.fresh v x e with e1 | ⟨e1, e2⟩
    · exact h.fresh v x e1
    · refine .inr ⟨?_, Int.le_trans h.view e2⟩
      cases h0 : c.ownC v with
      | none => rfl
      | some y => rw [h.keepC v y h0] at e1; cases e1),
   (fun e => by obtain ⟨a, b⟩ := h.keepD e; obtain ⟨a2, b2⟩ := k.keepD a; exact ⟨a2, b2.trans b⟩)⟩
end CoreM
end Go.Proofs.Ytkkmkkgjpmlhaaa
