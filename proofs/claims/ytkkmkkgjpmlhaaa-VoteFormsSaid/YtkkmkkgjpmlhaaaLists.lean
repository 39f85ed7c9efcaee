/- Lists of pairs: what is put in, what is found. -/
import Derived.Test.YtkkmkkgjpmlhaaaBase
namespace Go.Proofs.Ytkkmkkgjpmlhaaa

/-- The values turned. -/
def mv {α β : Type} (f : α → β) (m : List (Int × α)) : List (Int × β) := m.map fun p => (p.1, f p.2)
theorem mv_keys {α β : Type} (f : α → β) (m : List (Int × α)) : (mv f m).map (·.1) = m.map (·.1) := by unfold mv; rw [List.map_map]; rfl
theorem mv_put {α β : Type} (f : α → β) (m : List (Int × α)) (k : Int) (v : α) : mv f (put m k v) = put (mv f m) k (f v) := map_put f m k v
theorem mv_id {α : Type} (m : List (Int × α)) : mv (fun x => x) m = m := by unfold mv; simp
theorem mv_mv {α β γ : Type} (f : α → β) (g : β → γ) (m : List (Int × α)) : mv g (mv f m) = mv (fun x => g (f x)) m := by unfold mv; rw [List.map_map]; rfl
theorem lookup_mv {α β : Type} (f : α → β) (m : List (Int × α)) (k : Int) : (mv f m).lookup k = (m.lookup k).map f := by
  induction m with
  | nil => rfl
  | cons p m ih =>
    simp only [mv, List.map_cons, List.lookup] at *
    cases k == p.1 <;> simp [ih]

theorem lookup_mem {α : Type} {m : List (Int × α)} {k : Int} {v : α} (h : m.lookup k = some v) : (k, v) ∈ m := by
  induction m with
  | nil => cases h
  | cons p m ih =>
    simp only [List.lookup] at h
    cases hk : k == p.1 with
    | true =>
      rw [hk] at h
      have e : k = p.1 := by simpa using hk
      cases h
      subst e
      exact List.mem_cons_self
    | false => rw [hk] at h; exact List.mem_cons_of_mem _ (ih h)

theorem mem_put {α : Type} {m : List (Int × α)} {k : Int} {v : α} {p : Int × α} (h : p ∈ put m k v) : p = (k, v) ∨ (p ∈ m ∧ p.1 ≠ k) := by
  unfold put at h
  split at h
  · obtain ⟨q, hq, rfl⟩ := List.mem_map.1 h
    by_cases e : q.1 = k
    · left; simp [e]
    · right; rw [if_neg (by simpa using e)]; exact ⟨hq, e⟩
  · rename_i hn
    rcases List.mem_append.1 h with h | h
    · right
      refine ⟨h, fun e => hn ?_⟩
      rw [List.any_eq_true]
      exact ⟨p, h, by simpa using e⟩
    · left; simpa using h


theorem lookup_of_mem {α : Type} {m : List (Int × α)} {k : Int} {v : α} (hn : (m.map (·.1)).Nodup) (h : (k, v) ∈ m) : m.lookup k = some v := by
  induction m with
  | nil => cases h
  | cons p m ih =>
    simp only [List.map_cons, List.nodup_cons] at hn
    rcases List.mem_cons.1 h with rfl | h
    · simp [List.lookup]
    · have hne : k ≠ p.1 := fun e => hn.1 (e ▸ List.mem_map.2 ⟨(k, v), h, rfl⟩)
      simp only [List.lookup]
      rw [show (k == p.1) = false from by simpa using hne]
      exact ih hn.2 h

theorem put_self {α : Type} {m : List (Int × α)} {k : Int} {v : α} (hn : (m.map (·.1)).Nodup) (h : m.lookup k = some v) : put m k v = m := by
  have ha : m.any (·.1 == k) = true := by rw [any_lookup, h]; rfl
  unfold put
  rw [if_pos ha]
  conv => rhs; rw [← List.map_id m]
  apply List.map_congr_left
  intro p hp
  by_cases e : p.1 = k
  · have : p = (k, v) := by
      have h2 := lookup_of_mem (k := p.1) (v := p.2) hn hp
      rw [e, h] at h2
      cases h2
      rw [← e]
    subst this
    simp
  · simp [e]


theorem mem_mv {α β : Type} {f : α → β} {m : List (Int × α)} {p : Int × β} (h : p ∈ mv f m) : ∃ q ∈ m, p = (q.1, f q.2) := by
  obtain ⟨q, hq, rfl⟩ := List.mem_map.1 h
  exact ⟨q, hq, rfl⟩
theorem put_put {α : Type} (m : List (Int × α)) (k : Int) (u v : α) : put (put m k u) k v = put m k v := by
  unfold put
  by_cases h : m.any (·.1 == k) = true
  · rw [if_pos h, if_pos h]
    rw [if_pos (by
      rw [List.any_map, List.any_eq_true] at *
      obtain ⟨x, hx, e⟩ := h
      exact ⟨x, hx, by simp only [Function.comp]; rw [if_pos e]; simp⟩), List.map_map]
    apply List.map_congr_left
    intro p _
    by_cases e : p.1 = k <;> simp [e]
  · rw [if_neg h, if_neg h, if_pos (by simp)]
    simp only [List.map_append, List.map_cons, List.map_nil, beq_self_eq_true, if_true]
    congr 1
    conv => rhs; rw [← List.map_id m]
    apply List.map_congr_left
    intro p hp
    rw [if_neg]
    · rfl
    · intro e
      exact h (List.any_eq_true.2 ⟨p, hp, e⟩)
theorem lookup_put {α : Type} (m : List (Int × α)) (k j : Int) (v : α) : (put m k v).lookup j = if j = k then some v else m.lookup j := by
  unfold put
  split
  · rename_i h
    induction m with
    | nil => simp at h
    | cons p m ih =>
      simp only [List.map_cons, List.lookup]
      by_cases e : p.1 = k
      · subst e
        simp only [beq_self_eq_true, if_true]
        by_cases hj : j = p.1
        · subst hj; simp
        · rw [show (j == p.1) = false from by simpa using hj]
          simp only [hj, if_false]
          by_cases hm : m.any (·.1 == p.1) = true
          · rw [ih hm, if_neg hj]
          · congr 1
            conv => rhs; rw [← List.map_id m]
            apply List.map_congr_left
            intro q hq
            rw [if_neg (fun e => hm (List.any_eq_true.2 ⟨q, hq, e⟩))]
            rfl
      · have hm : m.any (·.1 == k) = true := by
          rw [List.any_cons, show (p.1 == k) = false from by simpa using e] at h
          simpa using h
        rw [show (p.1 == k) = false from by simpa using e]
        simp only [Bool.false_eq_true, if_false]
        by_cases hj : j = p.1
        · subst hj; simp [e]
        · rw [show (j == p.1) = false from by simpa using hj]
          exact ih hm
  · rename_i h
    induction m with
    | nil =>
      by_cases e : j = k
      · simp [List.lookup, e]
      · simp only [List.nil_append, List.lookup]; rw [show (j == k) = false from by simpa using e, if_neg e]
    | cons p m ih =>
      simp only [List.cons_append, List.lookup]
      rw [List.any_cons] at h
      simp only [Bool.or_eq_true, not_or] at h
      by_cases hj : j = p.1
      · subst hj
        have : ¬ p.1 = k := by simpa using h.1
        simp [this]
      · rw [show (j == p.1) = false from by simpa using hj]
        exact ih h.2


end Go.Proofs.Ytkkmkkgjpmlhaaa
