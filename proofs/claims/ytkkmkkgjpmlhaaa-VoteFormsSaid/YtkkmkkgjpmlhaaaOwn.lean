/- What a core has told of its own stays; counting peers. No program in sight. -/
import Derived.Test.YtkkmkkgjpmlhaaaActs
namespace Go.Proofs.Ytkkmkkgjpmlhaaa

theorem lookup_inner_setT (t : TM) (view who v2 w2 : Int) (l : List UInt8) : (inner (setT t view who l) v2).lookup w2 = if v2 = view ∧ w2 = who then some l else (inner t v2).lookup w2 := by
  unfold setT
  by_cases h : v2 = view
  · subst h
    have e : inner (put t v2 (put (inner t v2) who l)) v2 = put (inner t v2) who l := by
      conv => lhs; unfold inner
      rw [lookup_put, if_pos rfl]; rfl
    rw [e, lookup_put]
    by_cases h2 : w2 = who <;> simp [h2]
  · have e : inner (put t view (put (inner t view) who l)) v2 = inner t v2 := by
      conv => lhs; unfold inner
      rw [lookup_put, if_neg h]; rfl
    rw [e, if_neg (fun e => h e.1)]

/-! ### Counting -/
def cnt (n : Nat) (A : Nat → Bool) : Nat := ((List.range n).filter A).length
section
variable {n : Nat} {A B C : Nat → Bool}
theorem cnt_succ (n : Nat) (A : Nat → Bool) : cnt (n + 1) A = cnt n A + (if A n then 1 else 0) := by
  unfold cnt
  rw [List.range_succ, List.filter_append, List.length_append]
  congr 1
  by_cases h : A n <;> simp [h]
theorem cnt_mono (h : ∀ j, j < n → A j = true → B j = true) : cnt n A ≤ cnt n B := by
  induction n with
  | zero => exact Nat.le_refl _
  | succ n ih =>
    have := ih (fun j hj => h j (by omega))
    have hn := h n (by omega)
    rw [cnt_succ, cnt_succ]
    by_cases ha : A n = true
    · rw [if_pos ha, if_pos (hn ha)]; omega
    · rw [if_neg ha]; omega
theorem cnt_congr (h : ∀ j, j < n → A j = B j) : cnt n A = cnt n B :=
  Nat.le_antisymm (cnt_mono fun j hj e => by rw [← h j hj]; exact e) (cnt_mono fun j hj e => by rw [h j hj]; exact e)
theorem cnt_le (n : Nat) (A : Nat → Bool) : cnt n A ≤ n := by
  have := List.length_filter_le A (List.range n)
  rw [List.length_range] at this
  exact this
theorem cnt_and (n : Nat) (A B : Nat → Bool) : cnt n A + cnt n B ≤ cnt n (fun j => A j && B j) + n := by
  induction n with
  | zero => simp [cnt]
  | succ n ih =>
    rw [cnt_succ, cnt_succ, cnt_succ]
    by_cases ha : A n = true <;> by_cases hb : B n = true <;> simp [ha, hb] <;> omega
theorem cnt_lt (h : cnt n A < cnt n B) : ∃ j, j < n ∧ A j = false ∧ B j = true := by
  by_cases hx : ∃ j, j < n ∧ A j = false ∧ B j = true
  · exact hx
  · have := cnt_mono (n := n) (A := B) (B := A) (fun j hj hb => by
      cases ha : A j with
      | true => rfl
      | false => exact absurd ⟨j, hj, ha, hb⟩ hx)
    omega
/-- Two quorums have a right one in common. -/
theorem quorum_meet {wrong a b : Nat → Bool} (h4 : 4 ≤ n) (hw : cnt n wrong ≤ (n - 1) / 3) (ha : n - (n - 1) / 3 ≤ cnt n (fun j => wrong j || a j)) (hb : n - (n - 1) / 3 ≤ cnt n (fun j => wrong j || b j)) :
    ∃ j, j < n ∧ wrong j = false ∧ a j = true ∧ b j = true := by
  have h1 := cnt_and n (fun j => wrong j || a j) (fun j => wrong j || b j)
  obtain ⟨j, hj, h2, h3⟩ := cnt_lt (n := n) (A := wrong) (B := fun j => (wrong j || a j) && (wrong j || b j)) (by omega)
  simp only [h2, Bool.false_or, Bool.and_eq_true] at h3
  exact ⟨j, hj, h2, h3.1, h3.2⟩
/-- A quorum has a right one. -/
theorem quorum_some {wrong a : Nat → Bool} (h4 : 4 ≤ n) (hw : cnt n wrong ≤ (n - 1) / 3) (ha : n - (n - 1) / 3 ≤ cnt n (fun j => wrong j || a j)) : ∃ j, j < n ∧ wrong j = false ∧ a j = true := by
  obtain ⟨j, h1, h2, h3, _⟩ := quorum_meet h4 hw ha ha
  exact ⟨j, h1, h2, h3⟩
end

theorem nodup_sub_length : ∀ (l m : List Int), l.Nodup → (∀ x ∈ l, x ∈ m) → l.length ≤ m.length
  | [], _, _, _ => Nat.zero_le _
  | x :: l, m, hn, hs => by
    rw [List.nodup_cons] at hn
    have hx := hs x List.mem_cons_self
    have h1 := nodup_sub_length l (m.erase x) hn.2 (fun y hy => (List.mem_erase_of_ne (by rintro rfl; exact hn.1 hy)).2 (hs y (List.mem_cons_of_mem _ hy)))
    have h2 := List.length_erase_of_mem hx
    have h3 := List.length_pos_of_mem hx
    simp only [List.length_cons]
    omega

/-- Values of a map whose keys are peers, counted by peers. -/
theorem votes_cnt {n : Nat} {t : List (Int × List UInt8)} {v : List UInt8} (hn : (t.map (·.1)).Nodup) (hk : ∀ p ∈ t, 1 ≤ p.1 ∧ p.1 ≤ n) : CoreM.votes t v = cnt n (fun j => t.lookup ((j : Int) + 1) == some v) := by
  apply Nat.le_antisymm
  · unfold CoreM.votes cnt
    have e1 := (t.filter fun p => p.2 == v).length_map (·.1)
    have e2 := ((List.range n).filter fun (j : Nat) => t.lookup ((j : Int) + 1) == some v).length_map (fun j : Nat => (j : Int) + 1)
    rw [← e1, ← e2]
    apply nodup_sub_length
    · exact ((List.filter_sublist).map _).nodup hn
    · intro x hx
      obtain ⟨p, hp, rfl⟩ := List.mem_map.1 hx
      obtain ⟨hp, he⟩ := List.mem_filter.1 hp
      have hb := hk p hp
      have hl := lookup_of_mem hn (k := p.1) (v := p.2) hp
      refine List.mem_map.2 ⟨(p.1 - 1).toNat, List.mem_filter.2 ⟨List.mem_range.2 (by omega), ?_⟩, by omega⟩
      have e : (((p.1 - 1).toNat : Nat) : Int) + 1 = p.1 := by omega
      rw [e, hl]
      simpa using he
  · unfold CoreM.votes cnt
    have e1 := (t.filter fun p => p.2 == v).length_map (·.1)
    have e2 := ((List.range n).filter fun (j : Nat) => t.lookup ((j : Int) + 1) == some v).length_map (fun j : Nat => (j : Int) + 1)
    rw [← e1, ← e2]
    apply nodup_sub_length
    · have h1 : ((List.range n).filter fun (j : Nat) => t.lookup ((j : Int) + 1) == some v).Nodup := (List.filter_sublist).nodup List.nodup_range
      rw [List.Nodup, List.pairwise_map]
      exact List.Pairwise.imp (fun h e => h (by omega)) h1
    · intro x hx
      obtain ⟨j, hj, rfl⟩ := List.mem_map.1 hx
      obtain ⟨_, he⟩ := List.mem_filter.1 hj
      have he : t.lookup ((j : Int) + 1) = some v := by simpa using he
      exact List.mem_map.2 ⟨_, List.mem_filter.2 ⟨lookup_mem he, by simp⟩, rfl⟩

namespace CoreM
variable {acc : List UInt8 → Bool} {c c' : CoreM}
/-- The Prepare, the Commit that it told in a view. -/
def ownP (c : CoreM) (v : Int) : Option (List UInt8) := (inner c.preps v).lookup c.me
def ownC (c : CoreM) (v : Int) : Option (List UInt8) := (inner c.comms v).lookup c.me

/-- What holds of each core by itself. -/
structure Loc (acc : List UInt8 → Bool) (c : CoreM) : Prop where
  fine : c.Fine
  lp : ∀ v x, c.ownP v = some x → v ≤ c.view
  lc : ∀ v x, c.ownC v = some x → v ≤ c.view
  lk1 : ∀ v x, c.ownC v = some x → v ≤ c.lock
  lk2 : 0 ≤ c.lock → c.ownC c.lock = some c.locked
  la : ∀ v x, c.ownP v = some x → acc x = true
  kp : ∀ v, ∀ p ∈ inner c.preps v, 1 ≤ p.1 ∧ p.1 ≤ c.n
  kc : ∀ v, ∀ p ∈ inner c.comms v, 1 ≤ p.1 ∧ p.1 ≤ c.n
  kd : ∀ p ∈ c.decs, 1 ≤ p.1 ∧ p.1 ≤ c.n

/-- What a core goes on to: its own words stay. -/
structure Next (c c' : CoreM) : Prop where
  n : c'.n = c.n
  me : c'.me = c.me
  slot : c'.slot = c.slot
  view : c.view ≤ c'.view
  keepP : ∀ v x, c.ownP v = some x → c'.ownP v = some x
  keepC : ∀ v x, c.ownC v = some x → c'.ownC v = some x
  fresh : ∀ v x, c'.ownC v = some x → c.ownC v = some x ∨ (c.ownC v = none ∧ c.view ≤ v)
  keepD : c.decided = true → c'.decided = true ∧ c'.value = c.value
theorem Next.refl (c : CoreM) : Next c c := ⟨rfl, rfl, rfl, Int.le_refl _, fun _ _ h => h, fun _ _ h => h, fun _ _ h => .inl h, fun h => ⟨h, rfl⟩⟩
theorem Next.trans {c1 c2 : CoreM} (h : Next c c1) (k : Next c1 c2) : Next c c2 :=
  ⟨k.n.trans h.n, k.me.trans h.me, k.slot.trans h.slot, Int.le_trans h.view k.view, fun v x e => k.keepP v x (h.keepP v x e), fun v x e => k.keepC v x (h.keepC v x e),
   (fun v x e => by
    rcases k.fresh v x e with e1 | ⟨e1, e2⟩
    · exact h.fresh v x e1
    · refine .inr ⟨?_, Int.le_trans h.view e2⟩
      cases h0 : c.ownC v with
      | none => rfl
      | some y => rw [h.keepC v y h0] at e1; cases e1),
   (fun e => by obtain ⟨a, b⟩ := h.keepD e; obtain ⟨a2, b2⟩ := k.keepD a; exact ⟨a2, b2.trans b⟩)⟩
end CoreM
end Go.Proofs.Ytkkmkkgjpmlhaaa
