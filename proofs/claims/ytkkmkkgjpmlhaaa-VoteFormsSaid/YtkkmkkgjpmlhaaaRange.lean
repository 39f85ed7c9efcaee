/- Ranging over a map with int keys: each entry comes once. -/
import Derived.Test.YtkkmkkgjpmlhaaaBase
import Derived.Maps.RangeWalk
import Derived.Test.YtkkmkkgjpmlhaaaLists
namespace Go.Proofs.Ytkkmkkgjpmlhaaa
open Go.RowKit Go.MapKept

/-- Block r is a walk over the map in block b, whose entries are m; 'left' are to come. -/
def Ranging (w : World) (b r : Nat) (m left : List (Int × Value)) : Prop :=
  ∃ es clock since seen, w.heap[b]? = some (.map es clock) ∧ Stamped es clock ∧ es.toList.map (fun e => (e.key, e.val)) = m.map (fun p => (Value.int .i64 p.1, p.2)) ∧
    w.heap[r]? = some (.mapIter (some b) since seen clock) ∧ (∀ x ∈ es.toList, x.born < since) ∧ since ≤ clock ∧
    ((es.toList.filter fun e => !seen.contains e.born).map fun e => (e.key, e.val)).Perm (left.map fun p => (Value.int .i64 p.1, p.2))

section
variable {P : Program} {w w1 : World} {b r : Nat} {m left : List (Int × Value)}

theorem Ranging.imap (h : Ranging w b r m left) : IMap w b m := by
  obtain ⟨es, clock, since, seen, h1, h2, h3, _⟩ := h
  exact ⟨es, clock, h1, h2, h3⟩
theorem Ranging.ne (h : Ranging w b r m left) : b ≠ r := by
  obtain ⟨es, clock, since, seen, h1, _, _, h4, _⟩ := h
  rintro rfl
  rw [h1] at h4
  cases h4
theorem Ranging.lt (h : Ranging w b r m left) : r < w.heap.size := by
  obtain ⟨es, clock, since, seen, h1, _, _, h4, _⟩ := h
  exact heap_lt h4
theorem Ranging.keep {F : Nat → Prop} (h : Ranging w b r m left) (ho : Off F w w1) (hb : ¬ F b) (hr : ¬ F r) : Ranging w1 b r m left := by
  obtain ⟨es, clock, since, seen, h1, h2, h3, h4, h5⟩ := h
  exact ⟨es, clock, since, seen, ho.heap_some h1 hb, h2, h3, ho.heap_some h4 hr, h5⟩

/-- 'for .. := range m' begins. -/
theorem IMap.range {t k e : TypeId} (h : IMap w b m) (ht : P.underlying t = some (.map k e)) :
    ∃ w', (Instr.range t (.map (some b))).run P w = .ok (.pointer (some ⟨w.heap.size, 0, none⟩)) w' ∧ Ranging w' b w.heap.size m m ∧ Below w.heap.size w w' ∧ w'.heap.size = w.heap.size + 1 := by
  obtain ⟨es, clock, hb, hs, hm⟩ := h
  have hlt := heap_lt hb
  refine ⟨w.alloc (.mapIter (some b) clock #[] clock), by simp [Instr.range, run_underlying ht, MapKept.run_getObj_map hb, Result.andThen], ?_, (Below.refl _ w).alloc (Nat.le_refl _) _, by simp⟩
  refine ⟨es, clock, clock, #[], (Below.heap_alloc w _ b hlt).trans hb, hs, hm, (MapKept.heap_alloc w _).1, hs.1, Nat.le_refl _, ?_⟩
  rw [← hm]
  rw [List.filter_eq_self.2 (fun x _ => by simp)]

theorem filter_push (l : List MapEntry) (seen : Array Nat) (e : MapEntry) (hn : (l.map (·.born)).Nodup) (he : e ∈ l) (hs : seen.contains e.born = false) :
    (l.filter fun x => !seen.contains x.born).Perm (e :: l.filter fun x => !(seen.push e.born).contains x.born) := by
  induction l with
  | nil => cases he
  | cons x l ih =>
    simp only [List.map_cons, List.nodup_cons] at hn
    rcases List.mem_cons.1 he with rfl | he
    · have e1 : (l.filter fun x => !seen.contains x.born) = l.filter fun x => !(seen.push e.born).contains x.born := by
        apply List.filter_congr
        intro y hy
        have : y.born ≠ e.born := fun q => hn.1 (q ▸ List.mem_map.2 ⟨y, hy, rfl⟩)
        simp [this]
      rw [List.filter_cons, List.filter_cons]
      simp only [hs, Bool.not_false, if_true]
      rw [if_neg (by simp), e1]
    · have hne : x.born ≠ e.born := fun q => hn.1 (q ▸ List.mem_map.2 ⟨e, he, rfl⟩)
      have ih := ih hn.2 he
      rw [List.filter_cons, List.filter_cons]
      have e2 : (seen.push e.born).contains x.born = seen.contains x.born := by simp [hne]
      rw [e2]
      cases seen.contains x.born
      · simp only [Bool.not_false, if_true]
        exact (ih.cons x).trans (List.Perm.swap _ _ _)
      · simpa using ih

/-- The walk's step. -/
theorem Ranging.next (h : Ranging w b r m left) (ty : TypeId) :
    (left = [] ∧ (Instr.next (.pointer (some ⟨r, 0, none⟩)) false ty).run P w = .ok (.tuple #[.bool false]) w) ∨
    ∃ p left' w', left.Perm (p :: left') ∧ (Instr.next (.pointer (some ⟨r, 0, none⟩)) false ty).run P w = .ok (.tuple #[.bool true, .int .i64 p.1, p.2]) w' ∧ Ranging w' b r m left' ∧ Off (fun k => k = r) w w' ∧ w'.heap.size = w.heap.size ∧
      (Instr.entry (.pointer (some ⟨r, 0, none⟩))).run P w' = .ok (.tuple #[.int .i64 p.1, p.2]) w' := by
  obtain ⟨es, clock, since, seen, hb, hs, hm, hr, hborn, hsc, hperm⟩ := id h
  have hne := h.ne
  rcases run_next_at (P := P) w ty r b since clock seen es clock hr hb hborn hsc with ⟨h0, hrun⟩ | ⟨e, he, wd, hwd, hrun⟩
  · left
    refine ⟨?_, hrun⟩
    have : (es.toList.filter fun e => !seen.contains e.born) = [] := by
      have : (leftOf es seen).toList = [] := by simpa using h0
      simpa [leftOf] using this
    rw [this] at hperm
    have := hperm.length_eq
    simp at this
    exact List.eq_nil_of_length_eq_zero this.symm
  · right
    have hdr : wd.heap = w.heap := by rcases hwd with rfl | rfl <;> rfl
    have hos : wd.os = w.os ∧ wd.tape = w.tape ∧ wd.output = w.output := by rcases hwd with rfl | rfl <;> exact ⟨rfl, rfl, rfl⟩
    have hmem : e ∈ es.toList ∧ seen.contains e.born = false := by simpa [leftOf] using he
    have hkey : (e.key, e.val) ∈ m.map (fun p => (Value.int .i64 p.1, p.2)) := by rw [← hm]; exact List.mem_map.2 ⟨e, hmem.1, rfl⟩
    obtain ⟨p, hp, hpe⟩ := List.mem_map.1 hkey
    simp only [Prod.mk.injEq] at hpe
    have hpush := filter_push es.toList seen e hs.2.1 hmem.1 hmem.2
    have hleft : (Value.int .i64 p.1, p.2) ∈ left.map fun p => (Value.int .i64 p.1, p.2) := by
      refine hperm.mem_iff.1 ((hpush.map _).mem_iff.2 ?_)
      rw [hpe.1, hpe.2]
      exact List.mem_cons_self
    obtain ⟨q, hq, hqe⟩ := List.mem_map.1 hleft
    simp only [Prod.mk.injEq, Value.int.injEq, true_and] at hqe
    have hqp : q = p := Prod.ext hqe.1 hqe.2
    subst hqp
    obtain ⟨l1, l2, rfl⟩ := List.append_of_mem hq
    have hsb : (Go.ChangeMaps.setBlock wd r (.mapIter (some b) since (seen.push e.born) clock)).heap = w.heap.setIfInBounds r (.mapIter (some b) since (seen.push e.born) clock) := by
      unfold Go.ChangeMaps.setBlock; rw [hdr]
    have hb' : (Go.ChangeMaps.setBlock wd r (.mapIter (some b) since (seen.push e.born) clock)).heap[b]? = some (.map es clock) := by rw [hsb]; exact ((heap_set hr).2 b hne).trans hb
    have hr' : (Go.ChangeMaps.setBlock wd r (.mapIter (some b) since (seen.push e.born) clock)).heap[r]? = some (.mapIter (some b) since (seen.push e.born) clock) := by rw [hsb]; exact (heap_set hr).1
    refine ⟨q, l1 ++ l2, _, List.perm_middle, by rw [hrun, hpe.1, hpe.2], ⟨es, clock, since, seen.push e.born, hb', hs, hm, hr', hborn, hsc, ?_⟩, ⟨hos.1, hos.2.1, hos.2.2, by rw [hsb]; simp, fun k _ hk => by rw [hsb]; exact (heap_set hr).2 k hk⟩, by rw [hsb]; simp, ?_⟩
    · have h2 := (hpush.map fun e => (e.key, e.val)).symm.trans hperm
      have h3 : ((l1 ++ q :: l2).map fun p => (Value.int .i64 p.1, p.2)).Perm ((e.key, e.val) :: (l1 ++ l2).map fun p => (Value.int .i64 p.1, p.2)) := by
        rw [← hpe.1, ← hpe.2]
        exact (List.perm_middle.map _)
      exact (h2.trans h3).cons_inv
    · rw [hpe.1, hpe.2]
      exact run_entry_at _ r b since seen es clock e hr' hb' hmem.1 hs.2.1

variable {ops : Array Oper} {rest : List Oper} {o : Oper} {a : Act} {Q : Exit → Act → World → Prop}

theorem wpList_range_im (hg : o.guard = none) (mo : Operand) (t : TypeId) (hop : o.op = Op.range t mo) (k e : TypeId) (ht : P.underlying t = some (.map k e)) (hm : a.eval mo = .map (some b)) (him : IMap w b m)
    (hK : ∀ w', Ranging w' b w.heap.size m m → Below w.heap.size w w' → w'.heap.size = w.heap.size + 1 → wpList P ops Q rest (a.put o.dst (.pointer (some ⟨w.heap.size, 0, none⟩))) w') : wpList P ops Q (o :: rest) a w := by
  refine wpList_plain hg fun K' hK' => ?_
  obtain ⟨w', hrun, r1, r2, r3⟩ := him.range (P := P) ht
  unfold Oper.wp
  simp [execOp, hop, hm, hrun, Result.andThen]
  exact hK' _ _ (hK w' r1 r2 r3)

theorem wpList_next_im (hg : o.guard = none) (it : Operand) (hop : o.op = Op.next it false) (hit : a.eval it = .pointer (some ⟨r, 0, none⟩)) (h : Ranging w b r m left)
    (hDone : left = [] → wpList P ops Q rest (a.put o.dst (.tuple #[.bool false])) w)
    (hMore : ∀ x c left' w', left.Perm ((x, c) :: left') → Ranging w' b r m left' → Off (fun k => k = r) w w' → w'.heap.size = w.heap.size →
      (Instr.entry (.pointer (some ⟨r, 0, none⟩))).run P w' = .ok (.tuple #[.int .i64 x, c]) w' → wpList P ops Q rest (a.put o.dst (.tuple #[.bool true, .int .i64 x, c])) w') : wpList P ops Q (o :: rest) a w := by
  refine wpList_plain hg fun K' hK' => ?_
  unfold Oper.wp
  rcases h.next (P := P) o.type with ⟨h0, hrun⟩ | ⟨p, left', w', hp, hrun, h1, h2, h3, h4⟩
  · simp [execOp, hop, hit, hrun, Result.andThen]
    exact hK' _ _ (hDone h0)
  · simp [execOp, hop, hit, hrun, Result.andThen]
    exact hK' _ _ (hMore p.1 p.2 left' w' hp h1 h2 h3 h4)

/-- The same over a list that says more than the entries do. -/
def RangingZ {α : Type} (f : α → Value) (w : World) (b r : Nat) (z zl : List (Int × α)) : Prop := ∃ left, Ranging w b r (mv f z) left ∧ left.Perm (mv f zl)

section
variable {α : Type} {f : α → Value} {z zl : List (Int × α)}
theorem RangingZ.imap (h : RangingZ f w b r z zl) : IMap w b (mv f z) := by obtain ⟨left, h, _⟩ := h; exact h.imap
theorem RangingZ.ne (h : RangingZ f w b r z zl) : b ≠ r := by obtain ⟨left, h, _⟩ := h; exact h.ne
theorem RangingZ.lt (h : RangingZ f w b r z zl) : r < w.heap.size := by obtain ⟨left, h, _⟩ := h; exact h.lt
theorem RangingZ.keep {F : Nat → Prop} (h : RangingZ f w b r z zl) (ho : Off F w w1) (hb : ¬ F b) (hr : ¬ F r) : RangingZ f w1 b r z zl := by
  obtain ⟨left, h, hp⟩ := h
  exact ⟨left, h.keep ho hb hr, hp⟩
theorem RangingZ.below (h : RangingZ f w b r z zl) (hb : Below w.heap.size w w1) : RangingZ f w1 b r z zl := h.keep (Off.of_below (F := fun _ => False) hb) (fun f => f) (fun f => f)
theorem RangingZ.len (h : RangingZ f w b r z zl) : w.rangeLeft b r = zl.length := by
  obtain ⟨left, ⟨es, clock, since, seen, h1, _, _, h4, _, _, h7⟩, hp⟩ := h
  have e1 := h7.length_eq
  have e2 := hp.length_eq
  simp only [List.length_map, mv] at e1 e2
  unfold World.rangeLeft
  rw [h1, h4]
  show (leftOf es seen).size = _
  have : (leftOf es seen).size = (es.toList.filter fun e => !seen.contains e.born).length := by
    rw [← Array.length_toList]
    simp [leftOf]
  omega

theorem wpList_range_z (hg : o.guard = none) (mo : Operand) (t : TypeId) (hop : o.op = Op.range t mo) (k e : TypeId) (ht : P.underlying t = some (.map k e)) (hm : a.eval mo = .map (some b)) (f : α → Value) (z : List (Int × α)) (him : IMap w b (mv f z))
    (hK : ∀ w', RangingZ f w' b w.heap.size z z → Below w.heap.size w w' → w'.heap.size = w.heap.size + 1 → wpList P ops Q rest (a.put o.dst (.pointer (some ⟨w.heap.size, 0, none⟩))) w') : wpList P ops Q (o :: rest) a w :=
  wpList_range_im hg mo t hop k e ht hm him (fun w' h1 h2 h3 => hK w' ⟨_, h1, List.Perm.refl _⟩ h2 h3)

theorem wpList_next_z (hg : o.guard = none) (it : Operand) (hop : o.op = Op.next it false) (hit : a.eval it = .pointer (some ⟨r, 0, none⟩)) (h : RangingZ f w b r z zl)
    (hDone : zl = [] → wpList P ops Q rest (a.put o.dst (.tuple #[.bool false])) w)
    (hMore : ∀ x y zl' w', zl.Perm ((x, y) :: zl') → RangingZ f w' b r z zl' → Off (fun k => k = r) w w' → w'.heap.size = w.heap.size →
      (Instr.entry (.pointer (some ⟨r, 0, none⟩))).run P w' = .ok (.tuple #[.int .i64 x, f y]) w' → wpList P ops Q rest (a.put o.dst (.tuple #[.bool true, .int .i64 x, f y])) w') : wpList P ops Q (o :: rest) a w := by
  obtain ⟨left, h, hp⟩ := h
  refine wpList_next_im hg it hop hit h (fun e => hDone ?_) (fun x c left' w' hl h1 h2 h3 h4 => ?_)
  · rw [e] at hp
    have := hp.length_eq
    exact List.eq_nil_of_length_eq_zero (by simpa [mv] using this.symm)
  · have hmem : (x, c) ∈ mv f zl := (hl.symm.trans hp).mem_iff.1 List.mem_cons_self
    obtain ⟨q, hq, hqe⟩ := mem_mv hmem
    simp only [Prod.mk.injEq] at hqe
    obtain ⟨rfl, rfl⟩ := hqe
    obtain ⟨l1, l2, rfl⟩ := List.append_of_mem hq
    have hz : (l1 ++ q :: l2).Perm (q :: (l1 ++ l2)) := List.perm_middle
    refine hMore q.1 q.2 (l1 ++ l2) w' hz ⟨left', h1, ?_⟩ h2 h3 h4
    have h5 : (mv f (l1 ++ q :: l2)).Perm ((q.1, f q.2) :: mv f (l1 ++ l2)) := hz.map _
    exact ((hl.symm.trans hp).trans h5).cons_inv
end
end
end Go.Proofs.Ytkkmkkgjpmlhaaa
