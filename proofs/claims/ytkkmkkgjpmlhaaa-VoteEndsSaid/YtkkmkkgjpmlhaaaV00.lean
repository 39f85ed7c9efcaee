/- Words for memory of the proofs over vote and board: what a call leaves alone, slices of bytes read as lists, maps with int keys read as lists of pairs. No program in sight. Contracts of the library's functions that vote and board call: slices.Clone and bytes.Equal at bytes. A core of layer 18 as plain data, and what its functions do to it: no program in sight. Lists of pairs: what is put in, what is found. -/
import Derived.WalkKit
import Derived.WalkSpells
import Derived.WalkLawsBesides
import Derived.Maps.OwnOps
import Derived.Deep.Draws
import Derived.Test.YtkkmkkgjpmlhaaaProg
import Derived.Lib.SliceRun
import Derived.Lib.Walk
import Derived.KernelRfl
import Derived.Deep.Quiet
import Derived.Deep.QuietTactic
import Derived.BigQuiet
import Derived.Laws.BytesArg
import Derived.Maps.AppendAt
import Derived.Deep.AppendLies
namespace Go.Proofs.Ytkkmkkgjpmlhaaa
open Go.RowKit Go.MapKept

/-- A fact kept from the walk's rewriting. -/
theorem hid {p : Prop} (h : p) : Hid p := h

/-- Outside the old blocks that 'F' names, 'w'' is as 'w' was. -/
structure Off (F : Nat → Prop) (w w' : World) : Prop where
  os : w'.os = w.os
  tape : w'.tape = w.tape
  output : w'.output = w.output
  size : w.heap.size ≤ w'.heap.size
  block : ∀ k, k < w.heap.size → ¬ F k → w'.heap[k]? = w.heap[k]?

section
variable {F G : Nat → Prop} {w w1 w2 : World}

theorem Off.refl (F : Nat → Prop) (w : World) : Off F w w := ⟨rfl, rfl, rfl, Nat.le_refl _, fun _ _ _ => rfl⟩
theorem Off.trans (h : Off F w w1) (k : Off G w1 w2) (hg : ∀ b, b < w.heap.size → G b → F b) : Off F w w2 :=
  ⟨k.os.trans h.os, k.tape.trans h.tape, k.output.trans h.output, Nat.le_trans h.size k.size,
   fun b hb hf => (k.block b (Nat.lt_of_lt_of_le hb h.size) (fun g => hf (hg b hb g))).trans (h.block b hb hf)⟩
theorem Off.mono (h : Off F w w1) (hf : ∀ b, b < w.heap.size → F b → G b) : Off G w w1 :=
  ⟨h.os, h.tape, h.output, h.size, fun b hb hg => h.block b hb (fun f => hg (hf b hb f))⟩
theorem Off.of_below (h : Below w.heap.size w w1) : Off F w w1 := ⟨h.os, h.tape, h.output, h.size, fun b hb _ => h.block b hb⟩
theorem Off.below (h : Off (fun _ => False) w w1) : Below w.heap.size w w1 := ⟨h.os, h.tape, h.output, h.size, fun b hb => h.block b hb (fun f => f)⟩
theorem Off.of_low {B : Nat} (h : Below B w w1) : Off (fun k => B ≤ k) w w1 := ⟨h.os, h.tape, h.output, h.size, fun b _ hf => h.block b (Nat.not_le.1 hf)⟩
theorem Off.low {B : Nat} (h : Off (fun k => B ≤ k) w w1) (hB : B ≤ w.heap.size) : Below B w w1 := ⟨h.os, h.tape, h.output, h.size, fun b hb => h.block b (Nat.lt_of_lt_of_le hb hB) (Nat.not_le.2 hb)⟩
theorem Off.drew (h : Off F w w1) : Off F w w1.drew := ⟨h.os, h.tape, h.output, h.size, h.block⟩
theorem Off.drewN (h : Off F w w1) (n : Nat) : Off F w (w1.drewN n) := ⟨h.os, h.tape, h.output, h.size, h.block⟩
theorem Off.drew_l (h : Off F w.drew w1) : Off F w w1 := ⟨h.os, h.tape, h.output, h.size, h.block⟩
theorem Off.alloc (h : Off F w w1) (o : Obj) : Off F w (w1.alloc o) :=
  ⟨h.os, h.tape, h.output, Nat.le_trans h.size (by simp), fun b hb hf => (Below.heap_alloc w1 o b (Nat.lt_of_lt_of_le hb h.size)).trans (h.block b hb hf)⟩
theorem Off.setCell (h : Off F w w1) {p : Addr} (hp : p.block < w.heap.size → F p.block) (u : Value) : Off F w (w1.setCell p u) :=
  ⟨h.os, h.tape, h.output, Nat.le_trans h.size (by simp [World.setCell]), fun b hb hf => (Below.heap_setCell w1 p u b (fun e => hf (e ▸ hp (e ▸ hb)))).trans (h.block b hb hf)⟩
theorem Off.then_below (h : Off F w w1) (k : Below w1.heap.size w1 w2) : Off F w w2 := h.trans (Off.of_below (F := fun _ => False) k) (fun _ _ f => f.elim)
theorem Off.grown {row : Option Nat} (h : Off F w w1) (k : w1.grownBy w2 row) (hr : ∀ b, row = some b → b < w.heap.size → F b) : Off F w w2 :=
  ⟨k.os.trans h.os, k.tape.trans h.tape, k.output.trans h.output, Nat.le_trans h.size k.size,
   fun b hb hf => (k.block b (Nat.lt_of_lt_of_le hb h.size) (fun e => hf (hr b e.symm hb))).trans (h.block b hb hf)⟩
theorem Off.cell (h : Off F w w1) {a : Addr} (hb : a.block < w.heap.size) (hf : ¬ F a.block) : w1.cell? a = w.cell? a :=
  World.cell?_of_block (h.block a.block hb hf)
theorem Off.frozen (h : Off F w w1) {a : Addr} (hb : a.block < w.heap.size) (hf : ¬ F a.block) : w1.frozen? a = w.frozen? a :=
  World.frozen?_of_block (h.block a.block hb hf)
theorem Off.cell_some (h : Off F w w1) {a : Addr} {v : Value} (hc : w.cell? a = some v) (hf : ¬ F a.block) : w1.cell? a = some v :=
  (h.cell (World.block_lt_of_cell? w a hc) hf).trans hc
theorem below_off_new {n r : Nat} {w w1 w2 : World} (h : Below n w w1) (ho : Off (fun k => k = r) w1 w2) (hr : n ≤ r) (hn : n ≤ w.heap.size) : Below n w w2 :=
  h.trans ⟨ho.os, ho.tape, ho.output, ho.size, fun k hk => ho.block k (by have := h.size; omega) (by omega)⟩
theorem below_drew_l {n : Nat} {w w1 : World} (h : Below n w.drew w1) : Below n w w1 := ⟨h.os, h.tape, h.output, h.size, h.block⟩
theorem heap_lt {w : World} {b : Nat} {o : Obj} (h : w.heap[b]? = some o) : b < w.heap.size := (Array.getElem?_eq_some_iff.1 h).1
theorem Off.heap_some (h : Off F w w1) {b : Nat} {o : Obj} (hc : w.heap[b]? = some o) (hf : ¬ F b) : w1.heap[b]? = some o :=
  (h.block b (heap_lt hc) hf).trans hc
end

theorem cell_alloc_new (w : World) (cs : Array Value) (t : TypeId) (k j : Nat) (hk : k = w.heap.size) : (w.alloc (.cells cs t)).cell? ⟨k, j, none⟩ = cs[j]? := by
  subst hk; unfold World.cell?; rw [heap_alloc_new]; rfl
theorem cell_alloc_old (w : World) (o : Obj) (k j : Nat) (h : k < w.heap.size) : (w.alloc o).cell? ⟨k, j, none⟩ = w.cell? ⟨k, j, none⟩ := World.cell?_of_block (a := ⟨k, j, none⟩) (Below.heap_alloc w o k h)
theorem frozen_alloc_new (w : World) (cs : Array Value) (t : TypeId) (k j : Nat) (hk : k = w.heap.size) : (w.alloc (.cells cs t)).frozen? ⟨k, j, none⟩ = false := by
  subst hk; unfold World.frozen?; rw [heap_alloc_new]; simp
theorem frozen_alloc_old (w : World) (o : Obj) (k j : Nat) (h : k < w.heap.size) : (w.alloc o).frozen? ⟨k, j, none⟩ = w.frozen? ⟨k, j, none⟩ := World.frozen?_of_block (a := ⟨k, j, none⟩) (Below.heap_alloc w o k h)

/-! ### A slice of bytes that reads as a list -/

/-- The slice value 'v' reads as the bytes 'l', all in blocks of which 'O' holds. -/
def Bs (w : World) (O : Nat → Prop) (v : Value) (l : List UInt8) : Prop :=
  ∃ A cap, v = .slice A l.length cap ∧ l.length ≤ cap ∧ (A = none → cap = 0) ∧
    (0 < l.length → ∃ b off, A = some ⟨b, off, none⟩ ∧ O b ∧ ∀ j u, l[j]? = some u → w.cell? ⟨b, off + j, none⟩ = some (.int .u8 u.toNat))

section
variable {O O' F : Nat → Prop} {w w1 : World} {v : Value} {l : List UInt8}
theorem Bs.nil (w : World) (O : Nat → Prop) : Bs w O (.slice none 0 0) [] := ⟨none, 0, rfl, Nat.le_refl _, fun _ => rfl, fun h => absurd h (by simp)⟩
theorem Bs.mono (h : Bs w O v l) (ho : ∀ b, b < w.heap.size → O b → O' b) : Bs w O' v l := by
  obtain ⟨A, cap, rfl, h1, h2, h3⟩ := h
  refine ⟨A, cap, rfl, h1, h2, fun hl => ?_⟩
  obtain ⟨b, off, rfl, hb, hc⟩ := h3 hl
  have h0 := hc 0 _ (List.getElem?_eq_getElem hl)
  exact ⟨b, off, rfl, ho b (World.block_lt_of_cell? w _ h0) hb, hc⟩
theorem Bs.keep (h : Bs w O v l) (hoff : Off F w w1) (hf : ∀ b, b < w.heap.size → O b → ¬ F b) : Bs w1 O v l := by
  obtain ⟨A, cap, rfl, h1, h2, h3⟩ := h
  refine ⟨A, cap, rfl, h1, h2, fun hl => ?_⟩
  obtain ⟨b, off, rfl, hb, hc⟩ := h3 hl
  exact ⟨b, off, rfl, hb, fun j u hu => hoff.cell_some (hc j u hu) (hf b (World.block_lt_of_cell? w _ (hc j u hu)) hb)⟩
theorem Bs.keep' (h : Bs w O v l) (hoff : Off F w w1) (hf : ∀ b c, w.cell? ⟨b, c, none⟩ ≠ none → ¬ F b) : Bs w1 O v l := by
  obtain ⟨A, cap, rfl, h1, h2, h3⟩ := h
  refine ⟨A, cap, rfl, h1, h2, fun hl => ?_⟩
  obtain ⟨b, off, rfl, hb, hc⟩ := h3 hl
  exact ⟨b, off, rfl, hb, fun j u hu => hoff.cell_some (hc j u hu) (hf b (off + j) (by rw [hc j u hu]; simp))⟩
theorem Bs.below (h : Bs w O v l) (hb : Below w.heap.size w w1) : Bs w1 O v l := h.keep (Off.of_below (F := fun _ => False) hb) (fun _ _ _ f => f)
theorem Bs.drew (h : Bs w O v l) : Bs w.drew O v l := h
theorem Bs.drewN (h : Bs w O v l) (n : Nat) : Bs (w.drewN n) O v l := h
end

/-! ### Maps with int keys -/

/-- Block 'b' is a map whose entries are, one behind the other, 'm'. -/
def IMap (w : World) (b : Nat) (m : List (Int × Value)) : Prop :=
  ∃ es clock, w.heap[b]? = some (.map es clock) ∧ Stamped es clock ∧ es.toList.map (fun e => (e.key, e.val)) = m.map (fun p => (Value.int .i64 p.1, p.2))

/-- The list with the pair put in: in its place, or at the end. -/
def put {α : Type} (m : List (Int × α)) (k : Int) (v : α) : List (Int × α) :=
  if m.any (·.1 == k) then m.map (fun p => if p.1 == k then (k, v) else p) else m ++ [(k, v)]

theorem map_put {α β : Type} (f : α → β) (m : List (Int × α)) (k : Int) (v : α) : (put m k v).map (fun p => (p.1, f p.2)) = put (m.map fun p => (p.1, f p.2)) k (f v) := by
  unfold put
  have e : (m.map fun p => (p.1, f p.2)).any (·.1 == k) = m.any (·.1 == k) := by rw [List.any_map]; rfl
  rw [e]
  split
  · rw [List.map_map, List.map_map]
    apply List.map_congr_left
    intro p _
    by_cases h : p.1 = k <;> simp [h]
  · simp

section
variable {P : Program} {w w1 : World} {b : Nat} {m : List (Int × Value)}
theorem IMap.lt (h : IMap w b m) : b < w.heap.size := by obtain ⟨es, c, hb, _⟩ := h; exact heap_lt hb
theorem IMap.nocell (h : IMap w b m) (c : Nat) : w.cell? ⟨b, c, none⟩ = none := by obtain ⟨es, cl, hb, _⟩ := h; simp [World.cell?, hb]
theorem IMap.keep {F : Nat → Prop} (h : IMap w b m) (ho : Off F w w1) (hf : ¬ F b) : IMap w1 b m := by
  obtain ⟨es, c, hb, r⟩ := h
  exact ⟨es, c, ho.heap_some hb hf, r⟩
theorem IMap.below (h : IMap w b m) (hb : Below w.heap.size w w1) : IMap w1 b m := h.keep (Off.of_below (F := fun _ => False) hb) (fun f => f)
theorem IMap.drew (h : IMap w b m) : IMap w.drew b m := h
theorem IMap.drewN (h : IMap w b m) (n : Nat) : IMap (w.drewN n) b m := h
theorem IMap.alloc (h : IMap w b m) (o : Obj) : IMap (w.alloc o) b m := h.keep ((Off.refl (fun _ => False) w).alloc o) (fun f => f)
theorem IMap.made (w : World) : IMap (w.alloc (.map #[] 0)) w.heap.size [] := ⟨#[], 0, (MapKept.heap_alloc w _).1, stamped_empty 0, rfl⟩
theorem IMap.nodup (h : IMap w b m) : (m.map (·.1)).Nodup := by
  obtain ⟨es, c, hb, ⟨_, _, hk⟩, hm⟩ := h
  have e : es.toList.map (·.key) = (m.map (·.1)).map (Value.int .i64) := by
    have := congrArg (List.map Prod.fst) hm
    simpa [List.map_map, Function.comp_def] using this
  rw [e, List.Nodup, List.pairwise_map] at hk
  exact hk.imp (fun h e => h (by rw [e]))

theorem findNow_list (k : Int) (z : Option (Nat × Value)) : ∀ (es : List MapEntry) (m : List (Int × Value)) (i : Nat), es.map (fun e => (e.key, e.val)) = m.map (fun p => (Value.int .i64 p.1, p.2)) →
    ∃ r, Instr.findNow (.int .i64) (.int .i64 k) es i = some r ∧
      ((r = none ∧ m.lookup k = none ∧ ∀ e ∈ es, e.key ≠ .int .i64 k) ∨ ∃ j v, r = some (i + j, v) ∧ m.lookup k = some v ∧ (∃ e, es[j]? = some e ∧ e.key = .int .i64 k ∧ e.val = v))
  | [], [], i, _ => ⟨none, rfl, .inl ⟨rfl, rfl, by simp⟩⟩
  | [], _ :: _, _, h => by simp at h
  | _ :: _, [], _, h => by simp at h
  | e :: es, p :: m, i, h => by
    simp only [List.map_cons, List.cons.injEq, Prod.mk.injEq] at h
    obtain ⟨⟨hk, hv⟩, hr⟩ := h
    by_cases hp : k = p.1
    · refine ⟨some (i, e.val), by simp [Instr.findNow, Instr.sameNow, hk, hp], .inr ⟨0, e.val, rfl, ?_, ⟨e, rfl, by rw [hk, hp], rfl⟩⟩⟩
      simp [List.lookup, hp, hv]
    · obtain ⟨r, h1, h2⟩ := findNow_list k z es m (i + 1) hr
      refine ⟨r, ?_, ?_⟩
      · simp only [Instr.findNow, Instr.sameNow, hk, if_true]
        rw [show (k == p.1) = false from by simpa using hp]
        exact h1
      · have e0 : List.lookup k (p :: m) = List.lookup k m := by
          simp only [List.lookup]
          rw [show (k == p.1) = false from by simpa using hp]
        rw [e0]
        rcases h2 with ⟨a, b, c⟩ | ⟨j, v, a, b, e', c1, c2, c3⟩
        · refine .inl ⟨a, b, fun x hx => ?_⟩
          rcases List.mem_cons.1 hx with rfl | hx
          · rw [hk]; intro he; injection he with _ he; exact hp he.symm
          · exact c x hx
        · exact .inr ⟨j + 1, v, by rw [a]; congr 2; omega, b, e', by simpa using c1, c2, c3⟩

/-- 'm[k]', 'v, ok := m[k]'. -/
theorem IMap.lookup {t tk e : TypeId} {z : Value} (h : IMap w b m) (ht : P.underlying t = some (.map tk e)) (hk : P.underlying tk = some (.int .i64)) (hz : (zeroValue e).run P w = .ok z w) (k : Int) (c : Bool) :
    (Instr.lookup t (.map (some b)) (.int .i64 k) c).run P w =
      .ok (if c then .tuple #[(m.lookup k).getD z, .bool (m.lookup k).isSome] else (m.lookup k).getD z) w := by
  obtain ⟨es, cl, hb, _, hm⟩ := h
  obtain ⟨r, h1, h2⟩ := findNow_list k none es.toList m 0 hm
  have hck := run_checkKey (w := w) (k := .int .i64 k) hk (by simp [IsKey]) es.isEmpty 9999
  have hf := run_findKey (w := w) hk h1
  rcases h2 with ⟨rfl, hl, _⟩ | ⟨j, v, rfl, hl, _⟩
  · simp [Instr.lookup, run_underlying ht, MapKept.run_getObj_map hb, hck, hf, hz, Result.andThen, hl]
  · simp [Instr.lookup, run_underlying ht, MapKept.run_getObj_map hb, hck, hf, Result.andThen, hl]

theorem any_lookup {α : Type} (m : List (Int × α)) (k : Int) : m.any (·.1 == k) = (m.lookup k).isSome := by
  induction m with
  | nil => rfl
  | cons p m ih =>
    simp only [List.any_cons, List.lookup]
    by_cases h : p.1 = k
    · subst h; simp
    · rw [show (k == p.1) = false from by simpa using Ne.symm h, show (p.1 == k) = false from by simpa using h, ih]; rfl

/-- 'm[k] = v'. -/
theorem IMap.update {t tk e : TypeId} (h : IMap w b m) (ht : P.underlying t = some (.map tk e)) (hk : P.underlying tk = some (.int .i64)) (k : Int) (v : Value) :
    ∃ w', (Instr.mapUpdate t (.map (some b)) (.int .i64 k) v).run P w = .ok () w' ∧ IMap w' b (put m k v) ∧ Off (fun x => x = b) w w' ∧ w'.heap.size = w.heap.size := by
  obtain ⟨es, cl, hb, hs, hm⟩ := h
  obtain ⟨r, h1, h2⟩ := findNow_list k none es.toList m 0 hm
  have hck := run_checkKey (w := w) (k := .int .i64 k) hk (by simp [IsKey]) false 9999
  have hf := run_findKey (w := w) hk h1
  have hoff : ∀ o, Off (fun x => x = b) w { w with heap := w.heap.setIfInBounds b o } := fun o =>
    ⟨rfl, rfl, rfl, by simp, fun i _ hi => (heap_set hb).2 i hi⟩
  rcases h2 with ⟨rfl, hl, hne⟩ | ⟨j, v0, rfl, hl, e0, he1, he2, he3⟩
  · refine ⟨_, by simp [Instr.mapUpdate, run_underlying ht, MapKept.run_getObj_map hb, hck, hf, run_setObj_map _ hb, Result.andThen]; rfl, ?_, hoff _, by simp⟩
    refine ⟨_, _, (heap_set hb).1, stamped_push hs hne, ?_⟩
    have : put m k v = m ++ [(k, v)] := by unfold put; rw [any_lookup, hl]; rfl
    rw [this]
    simp [hm]
  · have hj : es[j]? = some e0 := by simpa using he1
    rw [Nat.zero_add] at hf
    refine ⟨_, by simp [Instr.mapUpdate, run_underlying ht, MapKept.run_getObj_map hb, hck, hf, hj, he2, run_keyThatStays (d := .int .i64) (k := .int .i64 k) (by simp [IsKey]), run_setObj_map _ hb, Result.andThen]; rfl, ?_, hoff _, by simp⟩
    refine ⟨_, _, (heap_set hb).1, stamped_modify hs _ _ (fun _ _ => rfl) (fun e' _ he' => by rw [hj] at he'; cases he'; exact he2.symm), ?_⟩
    have hput : put m k v = m.map (fun p => if p.1 == k then (k, v) else p) := by unfold put; rw [any_lookup, hl]; rfl
    rw [hput]
    have hnd : es.toList.Pairwise (fun x y => x.key ≠ y.key) := ((stamped_iff _ _).1 hs).2.2
    have hlen : es.toList.length = m.length := by simpa using congrArg List.length hm
    apply List.ext_getElem?
    intro i
    have hmi := congrArg (fun l => l[i]?) hm
    simp only [List.getElem?_map, Array.getElem?_toList, Array.getElem?_modify] at hmi ⊢
    by_cases hij : j = i
    · subst hij
      simp only [if_true, hj, Option.map_some] at hmi ⊢
      cases hp : m[j]? with
      | none => rw [hp] at hmi; simp at hmi
      | some p =>
        rw [hp] at hmi
        simp only [Option.map_some, Option.some.injEq, Prod.mk.injEq] at hmi
        have : p.1 = k := by have := hmi.1; rw [he2] at this; injection this with _ this; exact this.symm
        simp [this]
    · simp only [hij, if_false]
      rw [hmi]
      cases hp : m[i]? with
      | none => simp
      | some p =>
        simp only [Option.map_some, Option.some.injEq]
        have hne : p.1 ≠ k := by
          intro e
          cases hei : es[i]? with
          | none => rw [hei, hp] at hmi; simp at hmi
          | some ei =>
            rw [hei, hp] at hmi
            simp only [Option.map_some, Option.some.injEq, Prod.mk.injEq] at hmi
            have hkk : ei.key = e0.key := by rw [hmi.1, he2, e]
            have h1 : es.toList[i]? = some ei := by simpa using hei
            have h2 : es.toList[j]? = some e0 := he1
            obtain ⟨hi', hi''⟩ := List.getElem?_eq_some_iff.1 h1
            obtain ⟨hj', hj''⟩ := List.getElem?_eq_some_iff.1 h2
            rcases Nat.lt_or_gt_of_ne hij with hlt | hlt
            · exact (List.pairwise_iff_getElem.1 hnd j i hj' hi' hlt) (by rw [hi'', hj'', hkk])
            · exact (List.pairwise_iff_getElem.1 hnd i j hi' hj' hlt) (by rw [hi'', hj'', hkk])
        rw [show (p.1 == k) = false from by simpa using hne]
        rfl
end

/-! ### The two operations, for the walk -/
section
variable {P : Program} (w : World) {ops : Array Oper} {o : Oper} {a : Act} {Q : Exit → Act → World → Prop} {K : Act → World → Prop}

theorem wp_mapUpdate_imap (mo x v : Operand) (t : TypeId) (hop : o.op = Op.mapUpdate t mo x v) (tk e : TypeId) (ht : P.underlying t = some (.map tk e)) (hk : P.underlying tk = some (.int .i64))
    (b : Nat) (m : List (Int × Value)) (k : Int) (val : Value) (hm : a.eval mo = .map (some b)) (hx : a.eval x = .int .i64 k) (hv : a.eval v = val) (him : IMap w b m)
    (h : ∀ w', IMap w' b (put m k val) → Off (fun x => x = b) w w' → w'.heap.size = w.heap.size → K (a.put o.dst undef) w') : o.wp P a w K Q := by
  obtain ⟨w', hrun, r1, r2, r3⟩ := him.update (P := P) ht hk k val
  unfold Oper.wp
  simp [execOp, hop, hm, hx, hv, hrun, Result.andThen]
  exact h w' r1 r2 r3

theorem wpList_mapUpdate_imap {rest : List Oper} (hg : o.guard = none) (mo x v : Operand) (t : TypeId) (hop : o.op = Op.mapUpdate t mo x v) (tk e : TypeId) (ht : P.underlying t = some (.map tk e)) (hk : P.underlying tk = some (.int .i64))
    (b : Nat) (m : List (Int × Value)) (k : Int) (val : Value) (hm : a.eval mo = .map (some b)) (hx : a.eval x = .int .i64 k) (hv : a.eval v = val) (him : IMap w b m)
    (h : ∀ w', IMap w' b (put m k val) → Off (fun x => x = b) w w' → w'.heap.size = w.heap.size → wpList P ops Q rest (a.put o.dst undef) w') : wpList P ops Q (o :: rest) a w :=
  wpList_plain hg fun _ hK' => wp_mapUpdate_imap w mo x v t hop tk e ht hk b m k val hm hx hv him fun w' r1 r2 r3 => hK' _ _ (h w' r1 r2 r3)

theorem step_mapUpdate_imap {E : Prop} (hgd : o.guard = none) (mo x v : Operand) (t : TypeId) (hop : o.op = Op.mapUpdate t mo x v) (tk e : TypeId) (ht : P.underlying t = some (.map tk e)) (hk : P.underlying tk = some (.int .i64))
    (b : Nat) (m : List (Int × Value)) (k : Int) (val : Value) (hm : a.eval mo = .map (some b)) (hx : a.eval x = .int .i64 k) (hv : a.eval v = val) (him : IMap w b m)
    (h : ∀ w', IMap w' b (put m k val) → Off (fun x => x = b) w w' → w'.heap.size = w.heap.size → K (a.put o.dst undef) w') :
    if Region.wanted o (yielded ops a.tmps) = true then Oper.wp P o a w K Q else E := by
  have hw : Region.wanted o (yielded ops a.tmps) = true := by simp [Region.wanted, hgd]
  rw [if_pos hw]
  exact wp_mapUpdate_imap w mo x v t hop tk e ht hk b m k val hm hx hv him h
end

end Go.Proofs.Ytkkmkkgjpmlhaaa
namespace Go.Proofs.Ytkkmkkgjpmlhaaa
open Go.RowKit Go.MapKept

theorem info_u8 : (Try.prog.info? 5).map (fun i => (i.zero, i.size, i.bytes)) = some (some (.int .u8 0), 1, 1) := by kernel_rfl

/-- What a row of the call's own reads as. -/
theorem Bs.of_own {w : World} {base n : Nat} {e : TypeId} {v : Value} {l : List UInt8} (h : w.ownsRow base e 1 v n (l.map fun u => .int .u8 u.toNat)) : Bs w (fun b => base ≤ b) v l := by
  obtain ⟨hl, h | ⟨g, cap, cur, rfl, hg, hb, hn, _, _, ht⟩⟩ := h
  · obtain ⟨rfl, rfl⟩ := h
    have : l = [] := by simpa using hl
    subst this
    exact Bs.nil _ _
  · have hl' : l.length = n := by simpa using hl
    subst hl'
    refine ⟨some ⟨g, 0, none⟩, cap, rfl, hn, (fun h => by cases h), fun _ => ⟨g, 0, rfl, hg, fun j u hu => ?_⟩⟩
    rw [Nat.zero_add]
    simp only [World.cell?, hb, Option.isSome_none, Bool.false_eq_true, if_false]
    have e1 : (cur.toList.take (l.length * 1))[j]? = some (Value.int .u8 u.toNat) := by rw [ht]; simp [hu]
    have hj : j < l.length := (List.getElem?_eq_some_iff.1 hu).1
    rw [List.getElem?_take, if_pos (by omega)] at e1
    simpa using e1

/-- slices.Clone at bytes. -/
def ClonePost (w : World) (l : List UInt8) (e : Ending) (w' : World) : Prop := ∃ v', e = .returned v' ∧ Bs w' (fun b => w.heap.size ≤ b) v' l ∧ Below w.heap.size w w'

set_option maxRecDepth 100000 in
theorem clone_any {O : Nat → Prop} {v : Value} {l : List UInt8} (w : World) (h : Bs w O v l) (hl : l.length ≤ 140737488355328) :
    Calls Try.prog 52 #[v] w (ClonePost w l) := by
  obtain ⟨A, cap, rfl, hcap, hnil, hc⟩ := h
  have q : ∀ (w : World) (a : Option Addr) (n c n' c' : Nat), (binOp .eql 29 (.slice a n c) (.slice none n' c')).run Try.prog w = .ok (.bool a.isNone) w := fun w a n c n' c' => Lib.run_eql_slice_nil w _ _ a n c n' c' Try.underlying29
  obtain ⟨i0, hi0, hz0, hz1, hz2⟩ := info_parts info_u8
  rcases A with _ | ad
  · have hl0 : l = [] := by
      rcases Nat.eq_zero_or_pos l.length with h0 | h0
      · exact List.eq_nil_of_length_eq_zero h0
      · obtain ⟨b, off, h, _⟩ := hc h0; cases h
    subst hl0
    obtain rfl := hnil rfl
    go_enter Try.func52, Try.ntmps52
    go_wp2
    go_ret
    exact ⟨_, rfl, Bs.nil _ _, Below.refl _ _⟩
  · have hcells : ∀ j u, (l.map fun u => Value.int .u8 u.toNat)[j]? = some u → w.cell? (ad.add j) = some u := by
      intro j u hu
      rw [List.getElem?_map] at hu
      cases hj : l[j]? with
      | none => rw [hj] at hu; cases hu
      | some x =>
        rw [hj] at hu
        obtain ⟨b, off, h, _, hcc⟩ := hc (by have := (List.getElem?_eq_some_iff.1 hj).1; omega)
        cases h
        cases hu
        rw [Addr.add_lit]
        exact hcc j x hj
    have hH := hid hcells
    have hC := hid hc
    clear hcells hc hnil
    go_enter Try.func52, Try.ntmps52
    go_wp2_with (at_builtin; refine wpList_append_own _ rfl _ _ 29 rfl w.heap.size 5 i0 (.int .u8 0) 1 1 Try.underlying29 hi0 hz0 hz1 hz2 rfl (by decide) _ _ _ rfl (World.ownsRow_made w #[] 0 (Nat.le_refl _) (Nat.zero_le _) rfl) ad l.length cap (l.map fun u => .int .u8 u.toNat) rfl ?qc1 ?qc2 ?qc3 ?qc4 ?qc5 ?qc6 ?_)
    case qc1 => simp
    case qc2 => intro j u hj; exact Lib.cell?_alloc_some _ (hH.out j u hj)
    case qc3 => intro u hu; obtain ⟨x, _, rfl⟩ := List.mem_map.1 hu; rfl
    case qc4 => unfold maxLen; omega
    case qc5 => omega
    case qc6 => simp
    intro v' w1 hown hgrow hnil
    go_wp2
    go_ret
    refine ⟨v', rfl, Bs.of_own (by simpa using hown), ((Below.refl _ w).alloc (Nat.le_refl _) _).grown hgrow (by simp) (by intro k hk; simp [Value.ownBlock] at hk; omega)⟩

theorem bytes_nums (l : List UInt8) : strOfNums (l.map fun b => (b.toNat : Int)) = ⟨l.toArray⟩ := by
  unfold strOfNums
  congr 2
  rw [List.map_map]
  conv => rhs; rw [← List.map_id l]
  apply List.map_congr_left
  intro x _
  simp

/-- 'string(b)' of bytes. -/
theorem Bs.convert {O : Nat → Prop} {w : World} {v : Value} {l : List UInt8} (h : Bs w O v l) :
    (convert 29 9 v).run Try.prog w = .ok (.string ⟨l.toArray⟩) w := by
  obtain ⟨A, cap, rfl, _, _, hc⟩ := h
  rcases Nat.eq_zero_or_pos l.length with h0 | h0
  · have hl := List.eq_nil_of_length_eq_zero h0
    subst hl
    rw [run_convert_bytes_string w _ _ 5 _ _ cap Try.underlying29 Try.underlying5 Try.underlying9]
    rcases A with _ | ad
    · simp [Conv.bytesToString]; rfl
    · have hl : (loadCells ad 0).run Try.prog w = .ok (([] : List Int).map (Value.int .u8)).toArray w := by
        simpa using run_loadCells_list (P := Try.prog) w ad [] (by simp)
      have := run_bytesToString (P := Try.prog) w ad 0 cap [] hl
      exact (by simpa using this : _ = Result.ok (Value.string ByteArray.empty) w)
  · obtain ⟨b, off, rfl, _, hcc⟩ := hc h0
    have := run_convert_bytes_arg (P := Try.prog) w 29 5 Try.underlying29 Try.underlying5 b off l.length cap (l.map fun b => (b.toNat : Int)) (by simp)
      (fun i hi => by
        rw [hcc i l[i] (List.getElem?_eq_getElem hi)]
        simp [List.getD, List.getElem?_eq_getElem hi]) 9 Try.underlying9
    rw [this, bytes_nums]

/-- bytes.Equal. -/
theorem equal_any {O O' : Nat → Prop} {v v' : Value} {l l' : List UInt8} (w : World) (h : Bs w O v l) (h' : Bs w O' v' l') :
    Calls Try.prog 61 #[v, v'] w fun e w' => e = .returned (.bool (l == l')) ∧ w = w' := by
  have c1 := h.convert
  have c2 := h'.convert
  clear h h'
  go_enter Try.func61, Try.ntmps61
  go_wp2
  go_ret
  exact ⟨rfl, rfl⟩
/-- The bytes as cells. -/
def cells8 (l : List UInt8) : List Value := l.map fun u => .int .u8 u.toNat

theorem ownsRow_slice {w : World} {base n : Nat} {e : TypeId} {size : Nat} {v : Value} {xs : List Value} (h : w.ownsRow base e size v n xs) : ∃ A c, v = .slice A n c := by
  rcases h.2 with ⟨rfl, rfl⟩ | ⟨g, cap, cur, rfl, _⟩
  · exact ⟨none, 0, rfl⟩
  · exact ⟨_, cap, rfl⟩

section
variable {P : Program} (w : World)

/-- 'append(s, b...)' of bytes that read as a list, onto a row of the call's own. -/
theorem run_append_bs (base : Nat) (t ty e : TypeId) (i : TypeInfo) (ht : P.underlying t = some (.slice e)) (hi : P.info? e = some i) (hz : i.zero = some (.int .u8 0)) (hsize : i.size = 1) (hby : i.bytes = 1)
    (v : Value) (n : Nat) (xs : List Value) (hown : w.ownsRow base e 1 v n xs) (O : Nat → Prop) (v2 : Value) (l : List UInt8) (h : Bs w O v2 l)
    (hbytes : n + l.length ≤ 140737488355328) (hbase : base ≤ w.heap.size) :
    ∃ A' c' w', (Builtin.append_ #[t, t] ty #[v, v2]).run P w = .ok (.slice A' (n + l.length) c') w' ∧ w'.ownsRow base e 1 (.slice A' (n + l.length) c') (n + l.length) (xs ++ cells8 l) ∧ w.grownBy w' v.ownBlock ∧ ((Value.slice A' (n + l.length) c').ownBlock = v.ownBlock ∨ (Value.slice A' (n + l.length) c').ownBlock = some w.heap.size) := by
  obtain ⟨A, cap, rfl, _, hnil, hc⟩ := h
  rcases A with _ | ad
  · have hl0 : l = [] := by
      rcases Nat.eq_zero_or_pos l.length with h0 | h0
      · exact List.eq_nil_of_length_eq_zero h0
      · obtain ⟨b, off, h, _⟩ := hc h0; cases h
    subst hl0
    obtain ⟨A', c', rfl⟩ := ownsRow_slice hown
    refine ⟨A', c', w, ?_, by simpa [cells8] using hown, World.grownBy.refl w _, .inl rfl⟩
    rcases hown.2 with ⟨hv, rfl⟩ | ⟨g, cap, cur, hv, _, _, hnc, _⟩
    · cases hv
      simp [Builtin.append_, run_underlying ht, sizeOf, typeInfo, hi, Builtin.lenOf, Builtin.firstCells]
    · cases hv
      simp [Builtin.append_, run_underlying ht, sizeOf, typeInfo, hi, Builtin.lenOf, Builtin.firstCells, hnc, storeCells]
  · have hcells : ∀ j u, (cells8 l)[j]? = some u → w.cell? (ad.add j) = some u := by
      intro j u hu
      rw [cells8, List.getElem?_map] at hu
      cases hj : l[j]? with
      | none => rw [hj] at hu; cases hu
      | some x =>
        rw [hj] at hu
        obtain ⟨b, off, h, _, hcc⟩ := hc (by have := (List.getElem?_eq_some_iff.1 hj).1; omega)
        cases h
        cases hu
        rw [Addr.add_lit]
        exact hcc j x hj
    obtain ⟨v', w', hrun, h2, h3, _, h5⟩ := run_append_own_at (P := P) w base t ty e i (.int .u8 0) 1 1 ht hi hz hsize hby rfl (by decide) v n xs hown ad l.length cap (cells8 l) (by simp [cells8]) hcells
      (fun u hu => by obtain ⟨x, _, rfl⟩ := List.mem_map.1 hu; rfl) (by unfold maxLen; omega) (by omega) hbase
    obtain ⟨A', c', rfl⟩ := ownsRow_slice h2
    exact ⟨A', c', w', hrun, h2, h3, h5⟩

theorem wp_append_bs {o : Oper} {a : Act} {K : Act → World → Prop} {Q : Exit → Act → World → Prop} (s x : Operand) (t : TypeId)
    (ho : o.op = .call { callee := .builtin .append, args := #[s, x], argTypes := #[t, t] })
    (base : Nat) (e : TypeId) (i : TypeInfo) (ht : P.underlying t = some (.slice e)) (hi : P.info? e = some i) (hz : i.zero = some (.int .u8 0)) (hsize : i.size = 1) (hby : i.bytes = 1)
    (v : Value) (n : Nat) (xs : List Value) (hs : a.eval s = v) (hown : w.ownsRow base e 1 v n xs) (O : Nat → Prop) (v2 : Value) (l : List UInt8) (hx : a.eval x = v2) (h2 : Bs w O v2 l)
    (hbytes : n + l.length ≤ 140737488355328) (hbase : base ≤ w.heap.size)
    (h : ∀ A' c' w', w'.ownsRow base e 1 (.slice A' (n + l.length) c') (n + l.length) (xs ++ cells8 l) → w.grownBy w' v.ownBlock → ((Value.slice A' (n + l.length) c').ownBlock = v.ownBlock ∨ (Value.slice A' (n + l.length) c').ownBlock = some w.heap.size) → K (a.put o.dst (.slice A' (n + l.length) c')) w') : o.wp P a w K Q := by
  obtain ⟨A', c', w', hrun, h2, h3, h4⟩ := run_append_bs (P := P) w base t o.type e i ht hi hz hsize hby v n xs hown O v2 l h2 hbytes hbase
  unfold Oper.wp execOp
  simp only [ho, resolve, invoke, builtin, Sem.run_bind, Sem.run_pure, Result.andThen_ok, List.map_toArray, List.map_cons, List.map_nil, hs, hx, hrun]
  exact h A' c' w' h2 h3 h4

theorem wpList_append_bs {ops : Array Oper} {rest : List Oper} {o : Oper} {a : Act} {Q : Exit → Act → World → Prop} (hgd : o.guard = none) (s x : Operand) (t : TypeId)
    (ho : o.op = .call { callee := .builtin .append, args := #[s, x], argTypes := #[t, t] })
    (base : Nat) (e : TypeId) (i : TypeInfo) (ht : P.underlying t = some (.slice e)) (hi : P.info? e = some i) (hz : i.zero = some (.int .u8 0)) (hsize : i.size = 1) (hby : i.bytes = 1)
    (v : Value) (n : Nat) (xs : List Value) (hs : a.eval s = v) (hown : w.ownsRow base e 1 v n xs) (O : Nat → Prop) (v2 : Value) (l : List UInt8) (hx : a.eval x = v2) (h2 : Bs w O v2 l)
    (hbytes : n + l.length ≤ 140737488355328) (hbase : base ≤ w.heap.size)
    (h : ∀ A' c' w', w'.ownsRow base e 1 (.slice A' (n + l.length) c') (n + l.length) (xs ++ cells8 l) → w.grownBy w' v.ownBlock → ((Value.slice A' (n + l.length) c').ownBlock = v.ownBlock ∨ (Value.slice A' (n + l.length) c').ownBlock = some w.heap.size) → wpList P ops Q rest (a.put o.dst (.slice A' (n + l.length) c')) w') : wpList P ops Q (o :: rest) a w :=
  wpList_plain hgd fun _ hK => wp_append_bs w s x t ho base e i ht hi hz hsize hby v n xs hs hown O v2 l hx h2 hbytes hbase fun A' c' w' h2 h3 h4 => hK _ _ (h A' c' w' h2 h3 h4)

theorem step_append_bs {ops : Array Oper} {o : Oper} {a : Act} {K : Act → World → Prop} {Q : Exit → Act → World → Prop} {E : Prop} (hgd : o.guard = none) (s x : Operand) (t : TypeId)
    (ho : o.op = .call { callee := .builtin .append, args := #[s, x], argTypes := #[t, t] })
    (base : Nat) (e : TypeId) (i : TypeInfo) (ht : P.underlying t = some (.slice e)) (hi : P.info? e = some i) (hz : i.zero = some (.int .u8 0)) (hsize : i.size = 1) (hby : i.bytes = 1)
    (v : Value) (n : Nat) (xs : List Value) (hs : a.eval s = v) (hown : w.ownsRow base e 1 v n xs) (O : Nat → Prop) (v2 : Value) (l : List UInt8) (hx : a.eval x = v2) (h2 : Bs w O v2 l)
    (hbytes : n + l.length ≤ 140737488355328) (hbase : base ≤ w.heap.size)
    (h : ∀ A' c' w', w'.ownsRow base e 1 (.slice A' (n + l.length) c') (n + l.length) (xs ++ cells8 l) → w.grownBy w' v.ownBlock → ((Value.slice A' (n + l.length) c').ownBlock = v.ownBlock ∨ (Value.slice A' (n + l.length) c').ownBlock = some w.heap.size) → K (a.put o.dst (.slice A' (n + l.length) c')) w') :
    if Region.wanted o (yielded ops a.tmps) = true then Oper.wp P o a w K Q else E := by
  have hw : Region.wanted o (yielded ops a.tmps) = true := by simp [Region.wanted, hgd]
  rw [if_pos hw]
  exact wp_append_bs w s x t ho base e i ht hi hz hsize hby v n xs hs hown O v2 l hx h2 hbytes hbase h
end
end Go.Proofs.Ytkkmkkgjpmlhaaa
namespace Go.Proofs.Ytkkmkkgjpmlhaaa

/-! ### Sorting, so that the kernel can run it -/
def insZ (x : Int) : List Int → List Int
  | [] => [x]
  | y :: l => if x ≤ y then x :: y :: l else y :: insZ x l
def sortZ : List Int → List Int
  | [] => []
  | x :: l => insZ x (sortZ l)
theorem insZ_perm (x : Int) : ∀ l : List Int, (insZ x l).Perm (x :: l)
  | [] => List.Perm.refl _
  | y :: l => by
    unfold insZ
    split
    · exact List.Perm.refl _
    · exact ((insZ_perm x l).cons y).trans (List.Perm.swap _ _ _)
theorem sortZ_perm : ∀ l : List Int, (sortZ l).Perm l
  | [] => List.Perm.refl _
  | x :: l => (insZ_perm x _).trans ((sortZ_perm l).cons x)
@[simp] theorem length_sortZ (l : List Int) : (sortZ l).length = l.length := (sortZ_perm l).length_eq
theorem insZ_sorted (x : Int) : ∀ l : List Int, l.Pairwise (· ≤ ·) → (insZ x l).Pairwise (· ≤ ·)
  | [], _ => by simp [insZ]
  | y :: l, h => by
    unfold insZ
    split
    · rename_i hxy
      refine List.pairwise_cons.2 ⟨fun z hz => ?_, h⟩
      rcases List.mem_cons.1 hz with rfl | hz
      · exact hxy
      · exact Int.le_trans hxy ((List.pairwise_cons.1 h).1 z hz)
    · rename_i hxy
      have h2 := List.pairwise_cons.1 h
      refine List.pairwise_cons.2 ⟨fun z hz => ?_, insZ_sorted x l h2.2⟩
      rcases List.mem_cons.1 ((insZ_perm x l).mem_iff.1 hz) with rfl | hz
      · omega
      · exact h2.1 z hz
theorem sortZ_sorted : ∀ l : List Int, (sortZ l).Pairwise (· ≤ ·)
  | [] => List.Pairwise.nil
  | x :: l => insZ_sorted x _ (sortZ_sorted l)
theorem sortZ_eq (l : List Int) : sortZ l = l.mergeSort (fun x y => decide (x ≤ y)) := by
  have tr : ∀ a b c : Int, decide (a ≤ b) = true → decide (b ≤ c) = true → decide (a ≤ c) = true := fun a b c h1 h2 => by simp only [decide_eq_true_eq] at *; exact Int.le_trans h1 h2
  have to : ∀ a b : Int, (decide (a ≤ b) || decide (b ≤ a)) = true := fun a b => by simp only [Bool.or_eq_true, decide_eq_true_eq]; exact Int.le_total a b
  refine List.Perm.eq_of_pairwise (le := fun a b => a ≤ b) (fun a b _ _ h1 h2 => Int.le_antisymm h1 h2) (sortZ_sorted l) ?_ ((sortZ_perm l).trans (List.mergeSort_perm l _).symm)
  exact (List.pairwise_mergeSort tr to l).imp (fun h => by simpa using h)

abbrev TM := List (Int × List (Int × List UInt8))
def inner (t : TM) (view : Int) : List (Int × List UInt8) := (t.lookup view).getD []
def setT (t : TM) (view who : Int) (l : List UInt8) : TM := put t view (put (inner t view) who l)
def hasT (t : TM) (view who : Int) : Bool := ((inner t view).lookup who).isSome

/-- A vote as a Go value: its five numbers and its bytes. -/
structure Vote where
  kind : Int
  frm : Int
  slot : Int
  view : Int
  valid : Int
  value : List UInt8
  deriving DecidableEq

/-- A vote that can be. -/
def Vote.okB (x : Vote) : Bool :=
  decide (1 ≤ x.kind) && decide (x.kind ≤ 5) && decide (1 ≤ x.frm) && decide (x.frm ≤ 64) && decide (0 ≤ x.slot) && decide (x.slot ≤ 256) && decide (0 ≤ x.view) && decide (x.view ≤ 1048576) &&
    decide (-1 ≤ x.valid) && decide (x.valid ≤ 1048576) && decide (x.value.length ≤ 4096)

structure CoreM where
  n : Int
  me : Int
  slot : Int
  view : Int := 0
  wish : List UInt8 := []
  wishes : Bool := false
  props : List (Int × (List UInt8 × Int)) := []
  preps : TM := []
  comms : TM := []
  turns : TM := []
  seen : List (Int × Int) := []
  decs : List (Int × List UInt8) := []
  lock : Int := -1
  locked : List UInt8 := []
  decided : Bool := false
  value : List UInt8 := []
  deriving DecidableEq

namespace CoreM
def f (c : CoreM) : Int := (c.n - 1) / 3
def quorum (c : CoreM) : Int := c.n - (c.n - 1) / 3
def proposer (c : CoreM) (view : Int) : Int := 1 + (c.slot + view) % c.n

/-- The keys, rising. -/
def keys {α : Type} (m : List (Int × α)) : List Int := sortZ (m.map (·.1))

/-- How many of the values are this one. -/
def votes (t : List (Int × List UInt8)) (v : List UInt8) : Nat := (t.filter fun p => p.2 == v).length

/-- The value of a peer, if at least so many told it. -/
def cand (t : List (Int × List UInt8)) (least who : Int) : Option (List UInt8) :=
  match t.lookup who with
  | some v => if (votes t v : Int) ≥ least then some v else none
  | none => none
/-- told.count. -/
def count (t : List (Int × List UInt8)) (least : Int) : Option (List UInt8) := (keys t).findSome? (cand t least)

/-- know: was it new? And the core behind it. -/
def know (c : CoreM) (v : Vote) : Bool × CoreM :=
  if v.kind = 1 then
    if (c.props.lookup v.view).isSome || v.frm != c.proposer v.view then (false, c) else (true, { c with props := put c.props v.view (v.value, v.valid) })
  else if v.kind = 2 then (!hasT c.preps v.view v.frm, if hasT c.preps v.view v.frm then c else { c with preps := setT c.preps v.view v.frm v.value })
  else if v.kind = 3 then (!hasT c.comms v.view v.frm, if hasT c.comms v.view v.frm then c else { c with comms := setT c.comms v.view v.frm v.value })
  else if v.kind = 5 then (!hasT c.turns v.view v.frm, if hasT c.turns v.view v.frm then c else { c with turns := setT c.turns v.view v.frm v.value })
  else if (c.decs.lookup v.frm).isSome then (false, c) else (true, { c with decs := put c.decs v.frm v.value })

def prepared (c : CoreM) (view : Int) : Option (List UInt8) := count (inner c.preps view) c.quorum

/-- The value that is prepared in a view below another one. -/
def bestAt (c : CoreM) (below view : Int) : Option (Int × List UInt8) :=
  match c.prepared view with
  | some v => if view < below then some (view, v) else none
  | none => none
def best (c : CoreM) (below : Int) : Option (Int × List UInt8) := (keys c.preps).reverse.findSome? (c.bestAt below)

/-- The views of what others told, rising. -/
def views (c : CoreM) : List Int := sortZ (c.seen.map (·.2))
/-- The view to which more than f others have come. -/
def reach (c : CoreM) : Option Int :=
  if (c.views.length : Int) ≤ c.f then none else c.views[(c.views.length - 1 - c.f).toNat]?

def turn (c : CoreM) : Option CoreM :=
  match c.reach with
  | some v => if v ≤ c.view then none else some { c with view := v }
  | none => none

def propose (c : CoreM) : Option CoreM :=
  if (c.props.lookup c.view).isSome || c.proposer c.view != c.me then none else
  match c.best c.view with
  | some (view, v) => some { c with props := put c.props c.view (v, view) }
  | none => if c.wishes then some { c with props := put c.props c.view (c.wish, -1) } else none

def fit (acc : List UInt8 → Bool) (c : CoreM) (p : List UInt8 × Int) : Bool :=
  if !acc p.1 then false else
  if c.lock < 0 || p.1 == c.locked then true else
  decide (p.2 ≥ c.lock) && decide (p.2 < c.view) && c.prepared p.2 == some p.1

def prepare (acc : List UInt8 → Bool) (c : CoreM) : Option CoreM :=
  match c.props.lookup c.view with
  | none => none
  | some p => if hasT c.preps c.view c.me || !c.fit acc p then none else some { c with preps := setT c.preps c.view c.me p.1 }

def commit (c : CoreM) : Option CoreM :=
  match c.prepared c.view with
  | none => none
  | some v => if hasT c.comms c.view c.me then none else some { c with lock := c.view, locked := v, comms := setT c.comms c.view c.me v }

/-- How many peers told this value as a Commit of the view, or as Decided. -/
def backers (c : CoreM) (view : Int) (v : List UInt8) : Nat :=
  ((List.range c.n.toNat).filter fun (p : Nat) => (inner c.comms view).lookup (Int.ofNat p + 1) == some v || c.decs.lookup (Int.ofNat p + 1) == some v).length

/-- A peer's Commit of a view, if enough back it. -/
def backed (c : CoreM) (view who : Int) : Option (List UInt8) :=
  match (inner c.comms view).lookup who with
  | some v => if (c.backers view v : Int) ≥ c.quorum then some v else none
  | none => none
def agreed (c : CoreM) (view : Int) : Option (List UInt8) := (keys (inner c.comms view)).findSome? (c.backed view)

def decide_ (c : CoreM) : Option CoreM :=
  match (keys c.comms).findSome? c.agreed with
  | some v => some { c with decided := true, value := v }
  | none => match count c.decs (c.f + 1) with
    | some v => some { c with decided := true, value := v }
    | none => none

/-- decide leaves no value where it decides nothing. -/
def undecided (c : CoreM) : CoreM := { c with decided := false, value := [] }

/-- The first thing that can be done. -/
def step (acc : List UInt8 → Bool) (c : CoreM) : Option CoreM :=
  c.turn.or (c.propose.or ((c.prepare acc).or (c.commit.or c.decide_)))

/-- All that it can do, in at most so many steps. -/
def acts (acc : List UInt8 → Bool) : Nat → CoreM → CoreM
  | 0, c => c
  | k + 1, c => if c.decided then c else match c.step acc with
    | some c' => acts acc k c'
    | none => c.undecided

end CoreM
end Go.Proofs.Ytkkmkkgjpmlhaaa
namespace Go.Proofs.Ytkkmkkgjpmlhaaa

/-- The values turned. -/
def mv {α β : Type} (f : α → β) (m : List (Int × α)) : List (Int × β) := m.map fun p => (p.1, f p.2)
theorem mv_keys {α β : Type} (f : α → β) (m : List (Int × α)) : (mv f m).map (·.1) = m.map (·.1) := by unfold mv; rw [List.map_map]; rfl
theorem mv_put {α β : Type} (f : α → β) (m : List (Int × α)) (k : Int) (v : α) : mv f (put m k v) = put (mv f m) k (f v) := map_put f m k v
theorem mv_id {α : Type} (m : List (Int × α)) : mv (fun x => x) m = m := by unfold mv; simp
theorem mv_mv {α β γ : Type} (f : α → β) (g : β → γ) (m : List (Int × α)) : mv g (mv f m) = mv (fun x => g (f x)) m := by unfold mv; rw [List.map_map]; rfl
theorem lookup_mv {α β : Type} (f : α → β) (m : List (Int × α)) (k : Int) : (mv f m).lookup k = (m.lookup k).map f := by
  induction m with
  | nil => rfl
  | cons p m ih =>
    simp only [mv, List.map_cons, List.lookup] at *
    cases k == p.1 <;> simp [ih]

theorem lookup_mem {α : Type} {m : List (Int × α)} {k : Int} {v : α} (h : m.lookup k = some v) : (k, v) ∈ m := by
  induction m with
  | nil => cases h
  | cons p m ih =>
    simp only [List.lookup] at h
    cases hk : k == p.1 with
    | true =>
      rw [hk] at h
      have e : k = p.1 := by simpa using hk
      cases h
      subst e
      exact List.mem_cons_self
    | false => rw [hk] at h; exact List.mem_cons_of_mem _ (ih h)

theorem mem_put {α : Type} {m : List (Int × α)} {k : Int} {v : α} {p : Int × α} (h : p ∈ put m k v) : p = (k, v) ∨ (p ∈ m ∧ p.1 ≠ k) := by
  unfold put at h
  split at h
  · obtain ⟨q, hq, rfl⟩ := List.mem_map.1 h
    by_cases e : q.1 = k
    · left; simp [e]
    · right; rw [if_neg (by simpa using e)]; exact ⟨hq, e⟩
  · rename_i hn
    rcases List.mem_append.1 h with h | h
    · right
      refine ⟨h, fun e => hn ?_⟩
      rw [List.any_eq_true]
      exact ⟨p, h, by simpa using e⟩
    · left; simpa using h


theorem lookup_of_mem {α : Type} {m : List (Int × α)} {k : Int} {v : α} (hn : (m.map (·.1)).Nodup) (h : (k, v) ∈ m) : m.lookup k = some v := by
  induction m with
  | nil => cases h
  | cons p m ih =>
    simp only [List.map_cons, List.nodup_cons] at hn
    rcases List.mem_cons.1 h with rfl | h
    · simp [List.lookup]
    · have hne : k ≠ p.1 := fun e => hn.1 (e ▸ List.mem_map.2 ⟨(k, v), h, rfl⟩)
      simp only [List.lookup]
      rw [show (k == p.1) = false from by simpa using hne]
      exact ih hn.2 h

theorem put_self {α : Type} {m : List (Int × α)} {k : Int} {v : α} (hn : (m.map (·.1)).Nodup) (h : m.lookup k = some v) : put m k v = m := by
  have ha : m.any (·.1 == k) = true := by rw [any_lookup, h]; rfl
  unfold put
  rw [if_pos ha]
  conv => rhs; rw [← List.map_id m]
  apply List.map_congr_left
  intro p hp
  by_cases e : p.1 = k
  · have : p = (k, v) := by
      have h2 := lookup_of_mem (k := p.1) (v := p.2) hn hp
      rw [e, h] at h2
      cases h2
      rw [← e]
    subst this
    simp
  · simp [e]


theorem mem_mv {α β : Type} {f : α → β} {m : List (Int × α)} {p : Int × β} (h : p ∈ mv f m) : ∃ q ∈ m, p = (q.1, f q.2) := by
  obtain ⟨q, hq, rfl⟩ := List.mem_map.1 h
  exact ⟨q, hq, rfl⟩
theorem put_put {α : Type} (m : List (Int × α)) (k : Int) (u v : α) : put (put m k u) k v = put m k v := by
  unfold put
  by_cases h : m.any (·.1 == k) = true
  · rw [if_pos h, if_pos h]
    rw [if_pos (by
      rw [List.any_map, List.any_eq_true] at *
      obtain ⟨x, hx, e⟩ := h
      exact ⟨x, hx, by simp only [Function.comp]; rw [if_pos e]; simp⟩), List.map_map]
    apply List.map_congr_left
    intro p _
    by_cases e : p.1 = k <;> simp [e]
  · rw [if_neg h, if_neg h, if_pos (by simp)]
    simp only [List.map_append, List.map_cons, List.map_nil, beq_self_eq_true, if_true]
    congr 1
    conv => rhs; rw [← List.map_id m]
    apply List.map_congr_left
    intro p hp
    rw [if_neg]
    · rfl
    · intro e
      exact h (List.any_eq_true.2 ⟨p, hp, e⟩)
theorem lookup_put {α : Type} (m : List (Int × α)) (k j : Int) (v : α) : (put m k v).lookup j = if j = k then some v else m.lookup j := by
  unfold put
  split
  · rename_i h
    induction m with
    | nil => simp at h
    | cons p m ih =>
      simp only [List.map_cons, List.lookup]
      by_cases e : p.1 = k
      · subst e
        simp only [beq_self_eq_true, if_true]
        by_cases hj : j = p.1
        · subst hj; simp
        · rw [show (j == p.1) = false from by simpa using hj]
          simp only [hj, if_false]
          by_cases hm : m.any (·.1 == p.1) = true
          · rw [ih hm, if_neg hj]
          · congr 1
            conv => rhs; rw [← List.map_id m]
            apply List.map_congr_left
            intro q hq
            rw [if_neg (fun e => hm (List.any_eq_true.2 ⟨q, hq, e⟩))]
            rfl
      · have hm : m.any (·.1 == k) = true := by
          rw [List.any_cons, show (p.1 == k) = false from by simpa using e] at h
          simpa using h
        rw [show (p.1 == k) = false from by simpa using e]
        simp only [Bool.false_eq_true, if_false]
        by_cases hj : j = p.1
        · subst hj; simp [e]
        · rw [show (j == p.1) = false from by simpa using hj]
          exact ih hm
  · rename_i h
    induction m with
    | nil =>
      by_cases e : j = k
      · simp [List.lookup, e]
      · simp only [List.nil_append, List.lookup]; rw [show (j == k) = false from by simpa using e, if_neg e]
    | cons p m ih =>
      simp only [List.cons_append, List.lookup]
      rw [List.any_cons] at h
      simp only [Bool.or_eq_true, not_or] at h
      by_cases hj : j = p.1
      · subst hj
        have : ¬ p.1 = k := by simpa using h.1
        simp [this]
      · rw [show (j == p.1) = false from by simpa using hj]
        exact ih h.2


end Go.Proofs.Ytkkmkkgjpmlhaaa
