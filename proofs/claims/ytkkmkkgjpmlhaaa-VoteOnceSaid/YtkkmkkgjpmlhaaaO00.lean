/- Maps whose keys are structs of three numbers and whose values are strings. -/
import Derived.Test.YtkkmkkgjpmlhaaaA00
import Derived.Test.YtkkmkkgjpmlhaaaV28
namespace Go.Proofs.Ytkkmkkgjpmlhaaa
open Go.RowKit Go.MapKept

abbrev Plc := Int × Int × Int
def encP (p : Plc) : Value := .agg #[.int .i64 p.1, .int .i64 p.2.1, .int .i64 p.2.2]
theorem encP_inj {p q : Plc} (h : encP p = encP q) : p = q := by
  unfold encP at h
  injection h with h
  injection h with h
  injection h with h1 h
  injection h with h2 h
  injection h with h3 _
  injection h1 with _ h1
  injection h2 with _ h2
  injection h3 with _ h3
  obtain ⟨a, b, c⟩ := p
  obtain ⟨a', b', c'⟩ := q
  simp_all
theorem eq_plc (p q : Plc) (w : World) : (Op.equalIn 10000 66 (encP p) (encP q)).run Try.prog w = .ok (decide (p = q)) w := by
  have u3 := Try.underlying3
  have hh : Try.prog.stoodInHeld 66 = false := by kernel_rfl
  unfold encP
  rw [show (10000 : Nat) = 9999 + 1 from rfl, Op.equalIn]
  simp only [Sem.run_bind, run_underlying Try.underlying66, Result.andThen_ok]
  go_simp
  obtain ⟨a, b, c⟩ := p
  obtain ⟨a', b', c'⟩ := q
  by_cases h1 : a = a' <;> by_cases h2 : b = b' <;> by_cases h3 : c = c' <;> simp [h1, h2, h3]
theorem check_plc (e : Bool) (p : Plc) (w : World) : (Instr.checkKey e 10000 66 (encP p)).run Try.prog w = .ok () w := by
  unfold encP
  rw [show (10000 : Nat) = 9999 + 1 from rfl, Instr.checkKey]
  simp only [Sem.run_bind, run_underlying Try.underlying66, Result.andThen_ok]
  go_simp
  have hi : ∀ (a : Int) (w : World), (Instr.checkKey e 9999 3 (.int .i64 a)).run Try.prog w = .ok () w := fun a w => run_checkKey (w := w) (k := .int .i64 a) Try.underlying3 (by simp [IsKey]) e 9998
  simp [hi]

/-! ### The map -/
/-- The list with the pair put in: in its place, or at the end. -/
def putF {β : Type} : List (Plc × β) → Plc → β → List (Plc × β)
  | [], k, v => [(k, v)]
  | p :: m, k, v => if p.1 = k then (k, v) :: m else p :: putF m k v
def lookF {β : Type} : List (Plc × β) → Plc → Option β
  | [], _ => none
  | p :: m, k => if p.1 = k then some p.2 else lookF m k
theorem lookF_put {β : Type} (k k' : Plc) (v : β) : ∀ m : List (Plc × β), lookF (putF m k v) k' = if k = k' then some v else lookF m k'
  | [] => by unfold putF lookF; rfl
  | p :: m => by
    unfold putF
    by_cases h : p.1 = k
    · rw [if_pos h]
      unfold lookF
      by_cases h2 : k = k'
      · rw [if_pos h2, if_pos h2]
      · rw [if_neg h2, if_neg h2, if_neg (fun e => h2 (h.symm.trans e))]
    · rw [if_neg h]
      unfold lookF
      by_cases h2 : p.1 = k'
      · rw [if_pos h2, if_pos h2, if_neg (fun e => h (h2.trans e.symm))]
      · rw [if_neg h2, if_neg h2]; exact lookF_put k k' v m
def PlMap (w : World) (b : Nat) (m : List (Plc × List UInt8)) : Prop :=
  ∃ es clock, w.heap[b]? = some (.map es clock) ∧ es.toList.map (fun e => (e.key, e.val)) = m.map (fun p => (encP p.1, Value.string ⟨p.2.toArray⟩))
section
variable {w w1 : World} {b : Nat} {m : List (Plc × List UInt8)}
theorem PlMap.keep {F : Nat → Prop} (h : PlMap w b m) (ho : Off F w w1) (hf : ¬ F b) : PlMap w1 b m := by
  obtain ⟨es, c, hb, r⟩ := h
  exact ⟨es, c, ho.heap_some hb hf, r⟩
theorem PlMap.below (h : PlMap w b m) (hb : Below w.heap.size w w1) : PlMap w1 b m := h.keep (Off.of_below (F := fun _ => False) hb) (fun f => f)
theorem PlMap.made (w : World) : PlMap (w.alloc (.map #[] 0)) w.heap.size [] := ⟨#[], 0, (MapKept.heap_alloc w _).1, rfl⟩
theorem ask_plc (k : Plc) (w : World) : ∀ (es : List MapEntry) (m : List (Plc × List UInt8)) (i : Nat), es.map (fun e => (e.key, e.val)) = m.map (fun p => (encP p.1, Value.string ⟨p.2.toArray⟩)) →
    ∃ r, (Instr.findAsking 66 (encP k) es i).run Try.prog w = .ok r w ∧
      ((r = none ∧ lookF m k = none ∧ ∀ v, putF m k v = m ++ [(k, v)]) ∨ ∃ j x, r = some (i + j, .string ⟨x.toArray⟩) ∧ m[j]? = some (k, x) ∧ lookF m k = some x ∧ ∀ v, putF m k v = m.set j (k, v))
  | [], [], i, _ => ⟨none, rfl, .inl ⟨rfl, rfl, fun _ => rfl⟩⟩
  | [], _ :: _, _, h => by simp at h
  | _ :: _, [], _, h => by simp at h
  | e :: es, p :: m, i, h => by
    simp only [List.map_cons, List.cons.injEq, Prod.mk.injEq] at h
    obtain ⟨⟨hk, hv⟩, hr⟩ := h
    have heq : (Op.equalIn Op.maxDepth 66 (encP k) (encP p.1)).run Try.prog w = .ok (decide (k = p.1)) w := eq_plc k p.1 w
    unfold Instr.findAsking
    simp only [Op.equal, hk, Sem.run_bind, heq, Result.andThen_ok]
    by_cases hp : k = p.1
    · have heq' := heq
      rw [hp] at heq'
      refine ⟨some (i, e.val), by simp [hp, heq'], .inr ⟨0, p.2, by rw [hv]; rfl, by rw [hp]; rfl, by unfold lookF; rw [if_pos hp.symm], fun v => by unfold putF; rw [if_pos hp.symm]; rfl⟩⟩
    · obtain ⟨r, h1, h2⟩ := ask_plc k w es m (i + 1) hr
      refine ⟨r, by simp [hp, h1, heq], ?_⟩
      rcases h2 with ⟨a, b, c⟩ | ⟨j, x, a, b, c, d⟩
      · exact .inl ⟨a, by unfold lookF; rw [if_neg (fun e => hp e.symm)]; exact b, fun v => by unfold putF; rw [if_neg (fun e => hp e.symm), c v]; rfl⟩
      · exact .inr ⟨j + 1, x, by rw [a, show i + 1 + j = i + (j + 1) from by omega], by rw [List.getElem?_cons_succ]; exact b, by unfold lookF; rw [if_neg (fun e => hp e.symm)]; exact c, fun v => by unfold putF; rw [if_neg (fun e => hp e.symm), d v]; rfl⟩
theorem find_plc (k : Plc) (w : World) (es : List MapEntry) (m : List (Plc × List UInt8)) (h : es.map (fun e => (e.key, e.val)) = m.map (fun p => (encP p.1, Value.string ⟨p.2.toArray⟩))) :
    ∃ r, (Instr.findKey 66 (encP k) es).run Try.prog w = .ok r w ∧
      ((r = none ∧ lookF m k = none ∧ ∀ v, putF m k v = m ++ [(k, v)]) ∨ ∃ j x, r = some (j, .string ⟨x.toArray⟩) ∧ m[j]? = some (k, x) ∧ lookF m k = some x ∧ ∀ v, putF m k v = m.set j (k, v)) := by
  obtain ⟨r, h1, h2⟩ := ask_plc k w es m 0 h
  simp only [Nat.zero_add] at h2
  refine ⟨r, ?_, h2⟩
  unfold Instr.findKey
  simp only [Sem.run_bind, run_underlying Try.underlying66, Result.andThen_ok]
  cases es with
  | nil =>
    simp only [Instr.findNow]
    simpa [Instr.findAsking] using h1
  | cons e es =>
    simp only [Instr.findNow, Instr.sameNow]
    exact h1
/-- 'v, ok := m[k]'. -/
theorem PlMap.lookup (h : PlMap w b m) (k : Plc) : (Instr.lookup 60 (.map (some b)) (encP k) true).run Try.prog w = .ok (.tuple #[.string ⟨((lookF m k).getD []).toArray⟩, .bool (lookF m k).isSome]) w := by
  obtain ⟨es, cl, hb, hm⟩ := h
  obtain ⟨r, h1, h2⟩ := find_plc k w es.toList m hm
  have hck := check_plc es.isEmpty k w
  have hz : (zeroValue 9).run Try.prog w = .ok (.string ⟨#[]⟩) w := by kernel_rfl
  rcases h2 with ⟨rfl, hl, _⟩ | ⟨j, x, rfl, _, hl, _⟩
  · simp [Instr.lookup, run_underlying Try.underlying60, MapKept.run_getObj_map hb, hck, h1, hz, Result.andThen, hl]
  · simp [Instr.lookup, run_underlying Try.underlying60, MapKept.run_getObj_map hb, hck, h1, Result.andThen, hl]
/-- 'm[k] = v'. -/
theorem PlMap.update (h : PlMap w b m) (k : Plc) (v : List UInt8) :
    ∃ w', (Instr.mapUpdate 60 (.map (some b)) (encP k) (.string ⟨v.toArray⟩)).run Try.prog w = .ok () w' ∧ PlMap w' b (putF m k v) ∧ Off (fun x => x = b) w w' ∧ w'.heap.size = w.heap.size := by
  obtain ⟨es, cl, hb, hm⟩ := h
  obtain ⟨r, h1, h2⟩ := find_plc k w es.toList m hm
  have hck := check_plc false k w
  have hoff : ∀ o, Off (fun x => x = b) w { w with heap := w.heap.setIfInBounds b o } := fun o =>
    ⟨rfl, rfl, rfl, by simp, fun i _ hi => (heap_set hb).2 i hi⟩
  rcases h2 with ⟨rfl, hl, hput⟩ | ⟨j, x, rfl, hj, hl, hput⟩
  · refine ⟨_, by simp [Instr.mapUpdate, run_underlying Try.underlying60, MapKept.run_getObj_map hb, hck, h1, run_setObj_map _ hb, Result.andThen]; rfl, ?_, hoff _, by simp⟩
    refine ⟨_, _, (heap_set hb).1, ?_⟩
    rw [hput]
    simp [hm]
  · have hje : ∃ e0, es[j]? = some e0 ∧ e0.key = encP k := by
      have h3 := congrArg (fun l => l[j]?) hm
      simp only [List.getElem?_map, hj, Option.map_some] at h3
      obtain ⟨e0, he0, h4⟩ := Option.map_eq_some_iff.1 h3
      injection h4 with h5 h6
      exact ⟨e0, by simpa using he0, h5⟩
    obtain ⟨e0, he1, he2⟩ := hje
    have hks : (Instr.keyThatStays (encP k) (encP k)).run Try.prog w = .ok (encP k) w := by
      have hb : Instr.sameBits 10000 (encP k) (encP k) = true := by
        unfold encP
        rw [show (10000 : Nat) = 9998 + 1 + 1 from rfl]
        simp [Instr.sameBits]
      simp [Instr.keyThatStays, hb]
    refine ⟨_, by simp [Instr.mapUpdate, run_underlying Try.underlying60, MapKept.run_getObj_map hb, hck, h1, he1, he2, hks, run_setObj_map _ hb, Result.andThen]; rfl, ?_, hoff _, by simp⟩
    refine ⟨_, _, (heap_set hb).1, ?_⟩
    rw [hput]
    apply List.ext_getElem?
    intro i
    have hmi := congrArg (fun l => l[i]?) hm
    simp only [List.getElem?_map, Array.getElem?_toList, Array.getElem?_modify, List.getElem?_set] at hmi ⊢
    by_cases hij : j = i
    · subst hij
      have hjl : j < m.length := (List.getElem?_eq_some_iff.1 hj).1
      simp [he1, hjl]
    · simp only [hij, if_false]
      exact hmi
end
end Go.Proofs.Ytkkmkkgjpmlhaaa
