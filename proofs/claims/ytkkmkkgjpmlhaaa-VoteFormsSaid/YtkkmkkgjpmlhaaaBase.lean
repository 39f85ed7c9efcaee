/- Words for memory of the proofs over vote and board: what a call leaves alone, slices of bytes read as lists, maps with int keys read as lists of pairs. No program in sight. -/
import Derived.WalkKit
import Derived.WalkSpells
import Derived.WalkLawsBesides
import Derived.Maps.OwnOps
import Derived.Deep.Draws
namespace Go.Proofs.Ytkkmkkgjpmlhaaa
open Go.RowKit Go.MapKept

/-- A fact kept from the walk's rewriting. -/
theorem hid {p : Prop} (h : p) : Hid p := h

/-- Outside the old blocks that 'F' names, 'w'' is as 'w' was. -/
structure Off (F : Nat → Prop) (w w' : World) : Prop where
  os : w'.os = w.os
  tape : w'.tape = w.tape
  output : w'.output = w.output
  size : w.heap.size ≤ w'.heap.size
  block : ∀ k, k < w.heap.size → ¬ F k → w'.heap[k]? = w.heap[k]?

section
variable {F G : Nat → Prop} {w w1 w2 : World}

theorem Off.refl (F : Nat → Prop) (w : World) : Off F w w := ⟨rfl, rfl, rfl, Nat.le_refl _, fun _ _ _ => rfl⟩
theorem Off.trans (h : Off F w w1) (k : Off G w1 w2) (hg : ∀ b, b < w.heap.size → G b → F b) : Off F w w2 :=
  ⟨k.os.trans h.os, k.tape.trans h.tape, k.output.trans h.output, Nat.le_trans h.size k.size,
   fun b hb hf => (k.block b (Nat.lt_of_lt_of_le hb h.size) (fun g => hf (hg b hb g))).trans (h.block b hb hf)⟩
theorem Off.mono (h : Off F w w1) (hf : ∀ b, b < w.heap.size → F b → G b) : Off G w w1 :=
  ⟨h.os, h.tape, h.output, h.size, fun b hb hg => h.block b hb (fun f => hg (hf b hb f))⟩
theorem Off.of_below (h : Below w.heap.size w w1) : Off F w w1 := ⟨h.os, h.tape, h.output, h.size, fun b hb _ => h.block b hb⟩
theorem Off.below (h : Off (fun _ => False) w w1) : Below w.heap.size w w1 := ⟨h.os, h.tape, h.output, h.size, fun b hb => h.block b hb (fun f => f)⟩
theorem Off.of_low {B : Nat} (h : Below B w w1) : Off (fun k => B ≤ k) w w1 := ⟨h.os, h.tape, h.output, h.size, fun b _ hf => h.block b (Nat.not_le.1 hf)⟩
theorem Off.low {B : Nat} (h : Off (fun k => B ≤ k) w w1) (hB : B ≤ w.heap.size) : Below B w w1 := ⟨h.os, h.tape, h.output, h.size, fun b hb => h.block b (Nat.lt_of_lt_of_le hb hB) (Nat.not_le.2 hb)⟩
theorem Off.drew (h : Off F w w1) : Off F w w1.drew := ⟨h.os, h.tape, h.output, h.size, h.block⟩
theorem Off.drewN (h : Off F w w1) (n : Nat) : Off F w (w1.drewN n) := ⟨h.os, h.tape, h.output, h.size, h.block⟩
theorem Off.drew_l (h : Off F w.drew w1) : Off F w w1 := ⟨h.os, h.tape, h.output, h.size, h.block⟩
theorem Off.alloc (h : Off F w w1) (o : Obj) : Off F w (w1.alloc o) :=
  ⟨h.os, h.tape, h.output, Nat.le_trans h.size (by simp), fun b hb hf => (Below.heap_alloc w1 o b (Nat.lt_of_lt_of_le hb h.size)).trans (h.block b hb hf)⟩
theorem Off.setCell (h : Off F w w1) {p : Addr} (hp : p.block < w.heap.size → F p.block) (u : Value) : Off F w (w1.setCell p u) :=
  ⟨h.os, h.tape, h.output, Nat.le_trans h.size (by simp [World.setCell]), fun b hb hf => (Below.heap_setCell w1 p u b (fun e => hf (e ▸ hp (e ▸ hb)))).trans (h.block b hb hf)⟩
theorem Off.then_below (h : Off F w w1) (k : Below w1.heap.size w1 w2) : Off F w w2 := h.trans (Off.of_below (F := fun _ => False) k) (fun _ _ f => f.elim)
theorem Off.grown {row : Option Nat} (h : Off F w w1) (k : w1.grownBy w2 row) (hr : ∀ b, row = some b → b < w.heap.size → F b) : Off F w w2 :=
  ⟨k.os.trans h.os, k.tape.trans h.tape, k.output.trans h.output, Nat.le_trans h.size k.size,
   fun b hb hf => (k.block b (Nat.lt_of_lt_of_le hb h.size) (fun e => hf (hr b e.symm hb))).trans (h.block b hb hf)⟩
theorem Off.cell (h : Off F w w1) {a : Addr} (hb : a.block < w.heap.size) (hf : ¬ F a.block) : w1.cell? a = w.cell? a :=
  World.cell?_of_block (h.block a.block hb hf)
theorem Off.frozen (h : Off F w w1) {a : Addr} (hb : a.block < w.heap.size) (hf : ¬ F a.block) : w1.frozen? a = w.frozen? a :=
  World.frozen?_of_block (h.block a.block hb hf)
theorem Off.cell_some (h : Off F w w1) {a : Addr} {v : Value} (hc : w.cell? a = some v) (hf : ¬ F a.block) : w1.cell? a = some v :=
  (h.cell (World.block_lt_of_cell? w a hc) hf).trans hc
theorem below_off_new {n r : Nat} {w w1 w2 : World} (h : Below n w w1) (ho : Off (fun k => k = r) w1 w2) (hr : n ≤ r) (hn : n ≤ w.heap.size) : Below n w w2 :=
  h.trans ⟨ho.os, ho.tape, ho.output, ho.size, fun k hk => ho.block k (by have := h.size; omega) (by omega)⟩
theorem below_drew_l {n : Nat} {w w1 : World} (h : Below n w.drew w1) : Below n w w1 := ⟨h.os, h.tape, h.output, h.size, h.block⟩
theorem heap_lt {w : World} {b : Nat} {o : Obj} (h : w.heap[b]? = some o) : b < w.heap.size := (Array.getElem?_eq_some_iff.1 h).1
theorem Off.heap_some (h : Off F w w1) {b : Nat} {o : Obj} (hc : w.heap[b]? = some o) (hf : ¬ F b) : w1.heap[b]? = some o :=
  (h.block b (heap_lt hc) hf).trans hc
end

theorem cell_alloc_new (w : World) (cs : Array Value) (t : TypeId) (k j : Nat) (hk : k = w.heap.size) : (w.alloc (.cells cs t)).cell? ⟨k, j, none⟩ = cs[j]? := by
  subst hk; unfold World.cell?; rw [heap_alloc_new]; rfl
theorem cell_alloc_old (w : World) (o : Obj) (k j : Nat) (h : k < w.heap.size) : (w.alloc o).cell? ⟨k, j, none⟩ = w.cell? ⟨k, j, none⟩ := World.cell?_of_block (a := ⟨k, j, none⟩) (Below.heap_alloc w o k h)
theorem frozen_alloc_new (w : World) (cs : Array Value) (t : TypeId) (k j : Nat) (hk : k = w.heap.size) : (w.alloc (.cells cs t)).frozen? ⟨k, j, none⟩ = false := by
  subst hk; unfold World.frozen?; rw [heap_alloc_new]; simp
theorem frozen_alloc_old (w : World) (o : Obj) (k j : Nat) (h : k < w.heap.size) : (w.alloc o).frozen? ⟨k, j, none⟩ = w.frozen? ⟨k, j, none⟩ := World.frozen?_of_block (a := ⟨k, j, none⟩) (Below.heap_alloc w o k h)

/-! ### A slice of bytes that reads as a list -/

/-- The slice value 'v' reads as the bytes 'l', all in blocks of which 'O' holds. -/
def Bs (w : World) (O : Nat → Prop) (v : Value) (l : List UInt8) : Prop :=
  ∃ A cap, v = .slice A l.length cap ∧ l.length ≤ cap ∧ (A = none → cap = 0) ∧
    (0 < l.length → ∃ b off, A = some ⟨b, off, none⟩ ∧ O b ∧ ∀ j u, l[j]? = some u → w.cell? ⟨b, off + j, none⟩ = some (.int .u8 u.toNat))

section
variable {O O' F : Nat → Prop} {w w1 : World} {v : Value} {l : List UInt8}
theorem Bs.nil (w : World) (O : Nat → Prop) : Bs w O (.slice none 0 0) [] := ⟨none, 0, rfl, Nat.le_refl _, fun _ => rfl, fun h => absurd h (by simp)⟩
theorem Bs.mono (h : Bs w O v l) (ho : ∀ b, b < w.heap.size → O b → O' b) : Bs w O' v l := by
  obtain ⟨A, cap, rfl, h1, h2, h3⟩ := h
  refine ⟨A, cap, rfl, h1, h2, fun hl => ?_⟩
  obtain ⟨b, off, rfl, hb, hc⟩ := h3 hl
  have h0 := hc 0 _ (List.getElem?_eq_getElem hl)
  exact ⟨b, off, rfl, ho b (World.block_lt_of_cell? w _ h0) hb, hc⟩
theorem Bs.keep (h : Bs w O v l) (hoff : Off F w w1) (hf : ∀ b, b < w.heap.size → O b → ¬ F b) : Bs w1 O v l := by
  obtain ⟨A, cap, rfl, h1, h2, h3⟩ := h
  refine ⟨A, cap, rfl, h1, h2, fun hl => ?_⟩
  obtain ⟨b, off, rfl, hb, hc⟩ := h3 hl
  exact ⟨b, off, rfl, hb, fun j u hu => hoff.cell_some (hc j u hu) (hf b (World.block_lt_of_cell? w _ (hc j u hu)) hb)⟩
theorem Bs.keep' (h : Bs w O v l) (hoff : Off F w w1) (hf : ∀ b c, w.cell? ⟨b, c, none⟩ ≠ none → ¬ F b) : Bs w1 O v l := by
  obtain ⟨A, cap, rfl, h1, h2, h3⟩ := h
  refine ⟨A, cap, rfl, h1, h2, fun hl => ?_⟩
  obtain ⟨b, off, rfl, hb, hc⟩ := h3 hl
  exact ⟨b, off, rfl, hb, fun j u hu => hoff.cell_some (hc j u hu) (hf b (off + j) (by rw [hc j u hu]; simp))⟩
theorem Bs.below (h : Bs w O v l) (hb : Below w.heap.size w w1) : Bs w1 O v l := h.keep (Off.of_below (F := fun _ => False) hb) (fun _ _ _ f => f)
theorem Bs.drew (h : Bs w O v l) : Bs w.drew O v l := h
theorem Bs.drewN (h : Bs w O v l) (n : Nat) : Bs (w.drewN n) O v l := h
end

/-! ### Maps with int keys -/

/-- Block 'b' is a map whose entries are, one behind the other, 'm'. -/
def IMap (w : World) (b : Nat) (m : List (Int × Value)) : Prop :=
  ∃ es clock, w.heap[b]? = some (.map es clock) ∧ Stamped es clock ∧ es.toList.map (fun e => (e.key, e.val)) = m.map (fun p => (Value.int .i64 p.1, p.2))

/-- The list with the pair put in: in its place, or at the end. -/
def put {α : Type} (m : List (Int × α)) (k : Int) (v : α) : List (Int × α) :=
  if m.any (·.1 == k) then m.map (fun p => if p.1 == k then (k, v) else p) else m ++ [(k, v)]

theorem map_put {α β : Type} (f : α → β) (m : List (Int × α)) (k : Int) (v : α) : (put m k v).map (fun p => (p.1, f p.2)) = put (m.map fun p => (p.1, f p.2)) k (f v) := by
  unfold put
  have e : (m.map fun p => (p.1, f p.2)).any (·.1 == k) = m.any (·.1 == k) := by rw [List.any_map]; rfl
  rw [e]
  split
  · rw [List.map_map, List.map_map]
    apply List.map_congr_left
    intro p _
    by_cases h : p.1 = k <;> simp [h]
  · simp

section
variable {P : Program} {w w1 : World} {b : Nat} {m : List (Int × Value)}
theorem IMap.lt (h : IMap w b m) : b < w.heap.size := by obtain ⟨es, c, hb, _⟩ := h; exact heap_lt hb
theorem IMap.nocell (h : IMap w b m) (c : Nat) : w.cell? ⟨b, c, none⟩ = none := by obtain ⟨es, cl, hb, _⟩ := h; simp [World.cell?, hb]
theorem IMap.keep {F : Nat → Prop} (h : IMap w b m) (ho : Off F w w1) (hf : ¬ F b) : IMap w1 b m := by
  obtain ⟨es, c, hb, r⟩ := h
  exact ⟨es, c, ho.heap_some hb hf, r⟩
theorem IMap.below (h : IMap w b m) (hb : Below w.heap.size w w1) : IMap w1 b m := h.keep (Off.of_below (F := fun _ => False) hb) (fun f => f)
theorem IMap.drew (h : IMap w b m) : IMap w.drew b m := h
theorem IMap.drewN (h : IMap w b m) (n : Nat) : IMap (w.drewN n) b m := h
theorem IMap.alloc (h : IMap w b m) (o : Obj) : IMap (w.alloc o) b m := h.keep ((Off.refl (fun _ => False) w).alloc o) (fun f => f)
theorem IMap.made (w : World) : IMap (w.alloc (.map #[] 0)) w.heap.size [] := ⟨#[], 0, (MapKept.heap_alloc w _).1, stamped_empty 0, rfl⟩
theorem IMap.nodup (h : IMap w b m) : (m.map (·.1)).Nodup := by
  obtain ⟨es, c, hb, ⟨_, _, hk⟩, hm⟩ := h
  have e : es.toList.map (·.key) = (m.map (·.1)).map (Value.int .i64) := by
    have := congrArg (List.map Prod.fst) hm
    simpa [List.map_map, Function.comp_def] using this
  rw [e, List.Nodup, List.pairwise_map] at hk
  exact hk.imp (fun h e => h (by rw [e]))

theorem findNow_list (k : Int) (z : Option (Nat × Value)) : ∀ (es : List MapEntry) (m : List (Int × Value)) (i : Nat), es.map (fun e => (e.key, e.val)) = m.map (fun p => (Value.int .i64 p.1, p.2)) →
    ∃ r, Instr.findNow (.int .i64) (.int .i64 k) es i = some r ∧
      ((r = none ∧ m.lookup k = none ∧ ∀ e ∈ es, e.key ≠ .int .i64 k) ∨ ∃ j v, r = some (i + j, v) ∧ m.lookup k = some v ∧ (∃ e, es[j]? = some e ∧ e.key = .int .i64 k ∧ e.val = v))
  | [], [], i, _ => ⟨none, rfl, .inl ⟨rfl, rfl, by simp⟩⟩
  | [], _ :: _, _, h => by simp at h
  | _ :: _, [], _, h => by simp at h
  | e :: es, p :: m, i, h => by
    simp only [List.map_cons, List.cons.injEq, Prod.mk.injEq] at h
    obtain ⟨⟨hk, hv⟩, hr⟩ := h
    by_cases hp : k = p.1
    · refine ⟨some (i, e.val), by simp [Instr.findNow, Instr.sameNow, hk, hp], .inr ⟨0, e.val, rfl, ?_, ⟨e, rfl, by rw [hk, hp], rfl⟩⟩⟩
      simp [List.lookup, hp, hv]
    · obtain ⟨r, h1, h2⟩ := findNow_list k z es m (i + 1) hr
      refine ⟨r, ?_, ?_⟩
      · simp only [Instr.findNow, Instr.sameNow, hk, if_true]
        rw [show (k == p.1) = false from by simpa using hp]
        exact h1
      · have e0 : List.lookup k (p :: m) = List.lookup k m := by
          simp only [List.lookup]
          rw [show (k == p.1) = false from by simpa using hp]
        rw [e0]
        rcases h2 with ⟨a, b, c⟩ | ⟨j, v, a, b, e', c1, c2, c3⟩
        · refine .inl ⟨a, b, fun x hx => ?_⟩
          rcases List.mem_cons.1 hx with rfl | hx
          · rw [hk]; intro he; injection he with _ he; exact hp he.symm
          · exact c x hx
        · exact .inr ⟨j + 1, v, by rw [a]; congr 2; omega, b, e', by simpa using c1, c2, c3⟩

/-- 'm[k]', 'v, ok := m[k]'. -/
theorem IMap.lookup {t tk e : TypeId} {z : Value} (h : IMap w b m) (ht : P.underlying t = some (.map tk e)) (hk : P.underlying tk = some (.int .i64)) (hz : (zeroValue e).run P w = .ok z w) (k : Int) (c : Bool) :
    (Instr.lookup t (.map (some b)) (.int .i64 k) c).run P w =
      .ok (if c then .tuple #[(m.lookup k).getD z, .bool (m.lookup k).isSome] else (m.lookup k).getD z) w := by
  obtain ⟨es, cl, hb, _, hm⟩ := h
  obtain ⟨r, h1, h2⟩ := findNow_list k none es.toList m 0 hm
  have hck := run_checkKey (w := w) (k := .int .i64 k) hk (by simp [IsKey]) es.isEmpty 9999
  have hf := run_findKey (w := w) hk h1
  rcases h2 with ⟨rfl, hl, _⟩ | ⟨j, v, rfl, hl, _⟩
  · simp [Instr.lookup, run_underlying ht, MapKept.run_getObj_map hb, hck, hf, hz, Result.andThen, hl]
  · simp [Instr.lookup, run_underlying ht, MapKept.run_getObj_map hb, hck, hf, Result.andThen, hl]

theorem any_lookup {α : Type} (m : List (Int × α)) (k : Int) : m.any (·.1 == k) = (m.lookup k).isSome := by
  induction m with
  | nil => rfl
  | cons p m ih =>
    simp only [List.any_cons, List.lookup]
    by_cases h : p.1 = k
    · subst h; simp
    · rw [show (k == p.1) = false from by simpa using Ne.symm h, show (p.1 == k) = false from by simpa using h, ih]; rfl

/-- 'm[k] = v'. -/
theorem IMap.update {t tk e : TypeId} (h : IMap w b m) (ht : P.underlying t = some (.map tk e)) (hk : P.underlying tk = some (.int .i64)) (k : Int) (v : Value) :
    ∃ w', (Instr.mapUpdate t (.map (some b)) (.int .i64 k) v).run P w = .ok () w' ∧ IMap w' b (put m k v) ∧ Off (fun x => x = b) w w' ∧ w'.heap.size = w.heap.size := by
  obtain ⟨es, cl, hb, hs, hm⟩ := h
  obtain ⟨r, h1, h2⟩ := findNow_list k none es.toList m 0 hm
  have hck := run_checkKey (w := w) (k := .int .i64 k) hk (by simp [IsKey]) false 9999
  have hf := run_findKey (w := w) hk h1
  have hoff : ∀ o, Off (fun x => x = b) w { w with heap := w.heap.setIfInBounds b o } := fun o =>
    ⟨rfl, rfl, rfl, by simp, fun i _ hi => (heap_set hb).2 i hi⟩
  rcases h2 with ⟨rfl, hl, hne⟩ | ⟨j, v0, rfl, hl, e0, he1, he2, he3⟩
  · refine ⟨_, by simp [Instr.mapUpdate, run_underlying ht, MapKept.run_getObj_map hb, hck, hf, run_setObj_map _ hb, Result.andThen]; rfl, ?_, hoff _, by simp⟩
    refine ⟨_, _, (heap_set hb).1, stamped_push hs hne, ?_⟩
    have : put m k v = m ++ [(k, v)] := by unfold put; rw [any_lookup, hl]; rfl
    rw [this]
    simp [hm]
  · have hj : es[j]? = some e0 := by simpa using he1
    rw [Nat.zero_add] at hf
    refine ⟨_, by simp [Instr.mapUpdate, run_underlying ht, MapKept.run_getObj_map hb, hck, hf, hj, he2, run_keyThatStays (d := .int .i64) (k := .int .i64 k) (by simp [IsKey]), run_setObj_map _ hb, Result.andThen]; rfl, ?_, hoff _, by simp⟩
    refine ⟨_, _, (heap_set hb).1, stamped_modify hs _ _ (fun _ _ => rfl) (fun e' _ he' => by rw [hj] at he'; cases he'; exact he2.symm), ?_⟩
    have hput : put m k v = m.map (fun p => if p.1 == k then (k, v) else p) := by unfold put; rw [any_lookup, hl]; rfl
    rw [hput]
    have hnd : es.toList.Pairwise (fun x y => x.key ≠ y.key) := ((stamped_iff _ _).1 hs).2.2
    have hlen : es.toList.length = m.length := by simpa using congrArg List.length hm
    apply List.ext_getElem?
    intro i
    have hmi := congrArg (fun l => l[i]?) hm
    simp only [List.getElem?_map, Array.getElem?_toList, Array.getElem?_modify] at hmi ⊢
    by_cases hij : j = i
    · subst hij
      simp only [if_true, hj, Option.map_some] at hmi ⊢
      cases hp : m[j]? with
      | none => rw [hp] at hmi; simp at hmi
      | some p =>
        rw [hp] at hmi
        simp only [Option.map_some, Option.some.injEq, Prod.mk.injEq] at hmi
        have : p.1 = k := by have := hmi.1; rw [he2] at this; injection this with _ this; exact this.symm
        simp [this]
    · simp only [hij, if_false]
      rw [hmi]
      cases hp : m[i]? with
      | none => simp
      | some p =>
        simp only [Option.map_some, Option.some.injEq]
        have hne : p.1 ≠ k := by
          intro e
          cases hei : es[i]? with
          | none => rw [hei, hp] at hmi; simp at hmi
          | some ei =>
            rw [hei, hp] at hmi
            simp only [Option.map_some, Option.some.injEq, Prod.mk.injEq] at hmi
            have hkk : ei.key = e0.key := by rw [hmi.1, he2, e]
            have h1 : es.toList[i]? = some ei := by simpa using hei
            have h2 : es.toList[j]? = some e0 := he1
            obtain ⟨hi', hi''⟩ := List.getElem?_eq_some_iff.1 h1
            obtain ⟨hj', hj''⟩ := List.getElem?_eq_some_iff.1 h2
            rcases Nat.lt_or_gt_of_ne hij with hlt | hlt
            · exact (List.pairwise_iff_getElem.1 hnd j i hj' hi' hlt) (by rw [hi'', hj'', hkk])
            · exact (List.pairwise_iff_getElem.1 hnd i j hi' hj' hlt) (by rw [hi'', hj'', hkk])
        rw [show (p.1 == k) = false from by simpa using hne]
        rfl
end

/-! ### The two operations, for the walk -/
section
variable {P : Program} (w : World) {ops : Array Oper} {o : Oper} {a : Act} {Q : Exit → Act → World → Prop} {K : Act → World → Prop}

theorem wp_mapUpdate_imap (mo x v : Operand) (t : TypeId) (hop : o.op = Op.mapUpdate t mo x v) (tk e : TypeId) (ht : P.underlying t = some (.map tk e)) (hk : P.underlying tk = some (.int .i64))
    (b : Nat) (m : List (Int × Value)) (k : Int) (val : Value) (hm : a.eval mo = .map (some b)) (hx : a.eval x = .int .i64 k) (hv : a.eval v = val) (him : IMap w b m)
    (h : ∀ w', IMap w' b (put m k val) → Off (fun x => x = b) w w' → w'.heap.size = w.heap.size → K (a.put o.dst undef) w') : o.wp P a w K Q := by
  obtain ⟨w', hrun, r1, r2, r3⟩ := him.update (P := P) ht hk k val
  unfold Oper.wp
  simp [execOp, hop, hm, hx, hv, hrun, Result.andThen]
  exact h w' r1 r2 r3

theorem wpList_mapUpdate_imap {rest : List Oper} (hg : o.guard = none) (mo x v : Operand) (t : TypeId) (hop : o.op = Op.mapUpdate t mo x v) (tk e : TypeId) (ht : P.underlying t = some (.map tk e)) (hk : P.underlying tk = some (.int .i64))
    (b : Nat) (m : List (Int × Value)) (k : Int) (val : Value) (hm : a.eval mo = .map (some b)) (hx : a.eval x = .int .i64 k) (hv : a.eval v = val) (him : IMap w b m)
    (h : ∀ w', IMap w' b (put m k val) → Off (fun x => x = b) w w' → w'.heap.size = w.heap.size → wpList P ops Q rest (a.put o.dst undef) w') : wpList P ops Q (o :: rest) a w :=
  wpList_plain hg fun _ hK' => wp_mapUpdate_imap w mo x v t hop tk e ht hk b m k val hm hx hv him fun w' r1 r2 r3 => hK' _ _ (h w' r1 r2 r3)

theorem step_mapUpdate_imap {E : Prop} (hgd : o.guard = none) (mo x v : Operand) (t : TypeId) (hop : o.op = Op.mapUpdate t mo x v) (tk e : TypeId) (ht : P.underlying t = some (.map tk e)) (hk : P.underlying tk = some (.int .i64))
    (b : Nat) (m : List (Int × Value)) (k : Int) (val : Value) (hm : a.eval mo = .map (some b)) (hx : a.eval x = .int .i64 k) (hv : a.eval v = val) (him : IMap w b m)
    (h : ∀ w', IMap w' b (put m k val) → Off (fun x => x = b) w w' → w'.heap.size = w.heap.size → K (a.put o.dst undef) w') :
    if Region.wanted o (yielded ops a.tmps) = true then Oper.wp P o a w K Q else E := by
  have hw : Region.wanted o (yielded ops a.tmps) = true := by simp [Region.wanted, hgd]
  rw [if_pos hw]
  exact wp_mapUpdate_imap w mo x v t hop tk e ht hk b m k val hm hx hv him h
end

end Go.Proofs.Ytkkmkkgjpmlhaaa
