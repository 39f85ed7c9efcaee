/- Cores that can be: numbers, keys and lengths in bounds; the things that a core does keep them. -/
import Derived.Test.YtkkmkkgjpmlhaaaPrep
import Derived.Test.YtkkmkkgjpmlhaaaLists
namespace Go.Proofs.Ytkkmkkgjpmlhaaa

theorem wf64 {n : Int} (h0 : 0 ≤ n) (h1 : n ≤ 4294967296) : (Lit.int .i64 n).wf = true := by
  simp [Lit.wf, IntKind.min, IntKind.max, IntKind.signed, IntKind.bits]; omega

theorem nodup_length : ∀ (N : Nat) (l : List Int), l.Nodup → (∀ x ∈ l, 0 ≤ x ∧ x < N) → l.length ≤ N
  | 0, l, _, h => by
    cases l with
    | nil => simp
    | cons x l => have := h x List.mem_cons_self; omega
  | N + 1, l, hn, h => by
    have h1 := nodup_length N (l.erase N) (hn.erase _) (fun x hx => by
      have := h x (List.mem_of_mem_erase hx)
      have hne : x ≠ N := ((List.Nodup.mem_erase_iff hn).1 hx).1
      omega)
    by_cases hm : (N : Int) ∈ l
    · have := List.length_erase_of_mem hm
      have := List.length_pos_of_mem hm
      omega
    · rw [List.erase_of_not_mem hm] at h1; omega

theorem put_keys {α : Type} (m : List (Int × α)) (k : Int) (v : α) : (put m k v).map (·.1) = if m.any (·.1 == k) then m.map (·.1) else m.map (·.1) ++ [k] := by
  unfold put
  split
  · rw [List.map_map]
    apply List.map_congr_left
    intro p _
    by_cases e : p.1 = k <;> simp [e]
  · simp
theorem put_nodup {α : Type} {m : List (Int × α)} (h : (m.map (·.1)).Nodup) (k : Int) (v : α) : ((put m k v).map (·.1)).Nodup := by
  rw [put_keys]
  split
  · exact h
  · rename_i hn
    rw [List.nodup_append]
    refine ⟨h, by simp, fun a ha b hb => ?_⟩
    rw [List.mem_singleton.1 hb]
    rintro rfl
    obtain ⟨p, hp, e⟩ := List.mem_map.1 ha
    exact hn (List.any_eq_true.2 ⟨p, hp, by simpa using e⟩)

theorem put_all {α : Type} {m : List (Int × α)} {k : Int} {v : α} {Q : Int × α → Prop} (h1 : Q (k, v)) (h2 : ∀ p ∈ m, Q p) : ∀ p ∈ put m k v, Q p := fun p hp => by
  rcases mem_put hp with rfl | ⟨hp, _⟩
  · exact h1
  · exact h2 p hp

/-- Keys, all different, from 0 on. -/
def KeysFine {α : Type} (m : List (Int × α)) : Prop := (m.map (·.1)).Nodup ∧ ∀ p ∈ m, 0 ≤ p.1 ∧ p.1 ≤ 4294967296
theorem KeysFine.ok {α : Type} {m : List (Int × α)} (h : KeysFine m) : KeysOk m := by
  refine ⟨?_, fun p hp => wf64 (h.2 p hp).1 (h.2 p hp).2⟩
  have := nodup_length 4294967297 (m.map (·.1)) h.1 (fun x hx => by obtain ⟨p, hp, rfl⟩ := List.mem_map.1 hx; have := h.2 p hp; omega)
  rw [List.length_map] at this
  omega
theorem KeysFine.nil {α : Type} : KeysFine ([] : List (Int × α)) := ⟨by simp, by simp⟩
theorem KeysFine.put {α : Type} {m : List (Int × α)} (h : KeysFine m) {k : Int} (h0 : 0 ≤ k) (h1 : k ≤ 4294967296) (v : α) : KeysFine (Ytkkmkkgjpmlhaaa.put m k v) :=
  ⟨put_nodup h.1 k v, put_all (⟨h0, h1⟩) h.2⟩

/-- Values that aren't too long. -/
def Short (l : List UInt8) : Prop := l.length ≤ 16777216
theorem Short.lim {l : List UInt8} (h : Short l) : l.length ≤ 140737488355328 := by unfold Short at h; omega
def ToldFine (t : List (Int × List UInt8)) : Prop := KeysFine t ∧ ∀ p ∈ t, Short p.2
def TMFine (t : TM) : Prop := KeysFine t ∧ ∀ p ∈ t, ToldFine p.2
theorem ToldFine.nil : ToldFine [] := ⟨KeysFine.nil, by simp⟩
theorem TMFine.nil : TMFine [] := ⟨KeysFine.nil, by simp⟩
theorem TMFine.ok {t : TM} (h : TMFine t) : TMOk t := ⟨h.1.ok, fun p hp => (h.2 p hp).1.ok⟩
theorem TMFine.inner {t : TM} (h : TMFine t) (view : Int) : ToldFine (inner t view) := by
  unfold Ytkkmkkgjpmlhaaa.inner
  cases hl : t.lookup view with
  | none => exact ToldFine.nil
  | some x => exact h.2 _ (lookup_mem hl)
theorem ToldFine.put {t : List (Int × List UInt8)} (h : ToldFine t) {k : Int} (h0 : 0 ≤ k) (h1 : k ≤ 4294967296) {v : List UInt8} (hv : Short v) : ToldFine (Ytkkmkkgjpmlhaaa.put t k v) :=
  ⟨h.1.put h0 h1 v, put_all (hv) h.2⟩
theorem TMFine.setT {t : TM} (h : TMFine t) {view who : Int} (h0 : 0 ≤ view) (h1 : view ≤ 4294967296) (h2 : 0 ≤ who) (h3 : who ≤ 4294967296) {v : List UInt8} (hv : Short v) : TMFine (Ytkkmkkgjpmlhaaa.setT t view who v) :=
  ⟨h.1.put h0 h1 _, put_all ((h.inner view).put h2 h3 hv) h.2⟩
theorem ToldFine.lookup {t : List (Int × List UInt8)} (h : ToldFine t) {k : Int} {v : List UInt8} (hl : t.lookup k = some v) : Short v := h.2 _ (lookup_mem hl)

theorem cand_mem {t : List (Int × List UInt8)} {least : Int} {v : List UInt8} {who : Int} (h : CoreM.cand t least who = some v) : t.lookup who = some v ∧ (CoreM.votes t v : Int) ≥ least := by
  unfold CoreM.cand at h
  split at h
  · rename_i u hu
    split at h
    · cases h; exact ⟨hu, by assumption⟩
    · cases h
  · cases h
theorem count_mem {t : List (Int × List UInt8)} {least : Int} {v : List UInt8} (h : CoreM.count t least = some v) : (∃ who, t.lookup who = some v) ∧ (CoreM.votes t v : Int) ≥ least := by
  obtain ⟨who, _, h⟩ := List.exists_of_findSome?_eq_some h
  exact ⟨⟨who, (cand_mem h).1⟩, (cand_mem h).2⟩

/-- A core that can be. -/
structure CoreM.Fine (c : CoreM) : Prop where
  ok : c.Ok
  wish : Short c.wish
  locked : Short c.locked
  value : Short c.value
  props : KeysFine c.props
  propsV : ∀ p ∈ c.props, Short p.2.1 ∧ -1 ≤ p.2.2 ∧ p.2.2 ≤ 4294967296
  preps : TMFine c.preps
  comms : TMFine c.comms
  turns : TMFine c.turns
  seen : KeysFine c.seen
  seenV : ∀ p ∈ c.seen, 0 ≤ p.2 ∧ p.2 ≤ 4294967296
  decs : ToldFine c.decs
  lock0 : -1 ≤ c.lock
  lock1 : c.lock ≤ 4294967296

theorem CoreM.Fine.keys {c : CoreM} (h : c.Fine) : c.Keys := ⟨h.props.ok, h.preps.ok, h.comms.ok, h.turns.ok, h.seen.ok, h.decs.1.ok⟩
section
variable {c c' : CoreM}
theorem CoreM.Fine.prepared (h : c.Fine) {view : Int} {v : List UInt8} (hp : c.prepared view = some v) : Short v := by
  obtain ⟨⟨who, hw⟩, _⟩ := count_mem hp
  exact (h.preps.inner view).lookup hw
theorem bestAt_some {below view : Int} {r : Int × List UInt8} (hb : c.bestAt below view = some r) : r.1 = view ∧ c.prepared view = some r.2 ∧ view < below := by
  unfold CoreM.bestAt at hb
  split at hb
  · rename_i v hv
    split at hb
    · cases hb; exact ⟨rfl, hv, by assumption⟩
    · cases hb
  · cases hb
theorem best_mem {below : Int} {r : Int × List UInt8} (hb : c.best below = some r) : (∃ t, (r.1, t) ∈ c.preps) ∧ c.prepared r.1 = some r.2 ∧ r.1 < below := by
  obtain ⟨view, hm, hb⟩ := List.exists_of_findSome?_eq_some hb
  obtain ⟨h1, h2, h3⟩ := bestAt_some hb
  rw [List.mem_reverse] at hm
  obtain ⟨t, ht⟩ := mem_keys.1 hm
  subst h1
  exact ⟨⟨t, ht⟩, h2, h3⟩
theorem reach_mem {x : Int} (h : c.reach = some x) : ∃ p ∈ c.seen, p.2 = x := by
  unfold CoreM.reach at h
  split at h
  · cases h
  · have := List.mem_of_getElem? h
    unfold CoreM.views at this
    rw [(sortZ_perm _).mem_iff] at this
    obtain ⟨p, hp, e⟩ := List.mem_map.1 this
    exact ⟨p, hp, e⟩
theorem turn_some (h : c.turn = some c') : ∃ x, c.reach = some x ∧ c.view < x ∧ c' = { c with view := x } := by
  unfold CoreM.turn at h
  split at h
  · rename_i v hv
    split at h
    · cases h
    · exact ⟨v, hv, by omega, by cases h; rfl⟩
  · cases h
theorem propose_some (h : c.propose = some c') : (c.props.lookup c.view) = none ∧ c.proposer c.view = c.me ∧ ((∃ view v, c.best c.view = some (view, v) ∧ c' = { c with props := put c.props c.view (v, view) }) ∨ (c.best c.view = none ∧ c.wishes = true ∧ c' = { c with props := put c.props c.view (c.wish, -1) })) := by
  unfold CoreM.propose at h
  split at h
  · cases h
  · rename_i hn
    simp only [Bool.or_eq_true, not_or, Bool.not_eq_true, Option.isSome_eq_false_iff, Option.isNone_iff_eq_none, bne_eq_false_iff_eq] at hn
    refine ⟨hn.1, hn.2, ?_⟩
    split at h
    · rename_i view v hb
      exact .inl ⟨view, v, hb, by cases h; rfl⟩
    · rename_i hb
      split at h
      · exact .inr ⟨hb, by assumption, by cases h; rfl⟩
      · cases h
theorem prepare_some {acc : List UInt8 → Bool} (h : c.prepare acc = some c') : ∃ p, c.props.lookup c.view = some p ∧ hasT c.preps c.view c.me = false ∧ c.fit acc p = true ∧ c' = { c with preps := setT c.preps c.view c.me p.1 } := by
  unfold CoreM.prepare at h
  split at h
  · cases h
  · rename_i p hp
    split at h
    · cases h
    · rename_i hn
      simp only [Bool.or_eq_true, not_or, Bool.not_eq_true, Bool.not_eq_false'] at hn
      exact ⟨p, hp, hn.1, hn.2, by cases h; rfl⟩
theorem commit_some (h : c.commit = some c') : ∃ v, c.prepared c.view = some v ∧ hasT c.comms c.view c.me = false ∧ c' = { c with lock := c.view, locked := v, comms := setT c.comms c.view c.me v } := by
  unfold CoreM.commit at h
  split at h
  · cases h
  · rename_i v hv
    split at h
    · cases h
    · rename_i hn
      exact ⟨v, hv, by simpa using hn, by cases h; rfl⟩
theorem backed_some {view who : Int} {v : List UInt8} (h : c.backed view who = some v) : (inner c.comms view).lookup who = some v ∧ (c.backers view v : Int) ≥ c.quorum := by
  unfold CoreM.backed at h
  split at h
  · rename_i u hu
    split at h
    · cases h; exact ⟨hu, by assumption⟩
    · cases h
  · cases h
theorem agreed_some {view : Int} {v : List UInt8} (h : c.agreed view = some v) : (∃ who, (inner c.comms view).lookup who = some v) ∧ (c.backers view v : Int) ≥ c.quorum := by
  obtain ⟨who, _, h⟩ := List.exists_of_findSome?_eq_some h
  exact ⟨⟨who, (backed_some h).1⟩, (backed_some h).2⟩
theorem decide_some (h : c.decide_ = some c') : ∃ v, c' = { c with decided := true, value := v } ∧ ((∃ view, c.agreed view = some v) ∨ CoreM.count c.decs (c.f + 1) = some v) := by
  unfold CoreM.decide_ at h
  split at h
  · rename_i v hv
    obtain ⟨view, _, hv⟩ := List.exists_of_findSome?_eq_some hv
    exact ⟨v, by cases h; rfl, .inl ⟨view, hv⟩⟩
  · split at h
    · rename_i v hv
      exact ⟨v, by cases h; rfl, .inr hv⟩
    · cases h

theorem CoreM.Fine.turn (h : c.Fine) (ht : c.turn = some c') : c'.Fine := by
  obtain ⟨x, hx, _, rfl⟩ := turn_some ht
  obtain ⟨p, hp, rfl⟩ := reach_mem hx
  have := h.seenV p hp
  obtain ⟨⟨a1, a2, a3, a4, a5, a6, a7, a8⟩, b1, b2, b3, b4, b5, b6, b7, b8, b9, b10, b11, b12, b13⟩ := h
  exact ⟨⟨a1, a2, a3, a4, a5, a6, this.1, this.2⟩, b1, b2, b3, b4, b5, b6, b7, b8, b9, b10, b11, b12, b13⟩
theorem CoreM.Fine.propose (h : c.Fine) (ht : c.propose = some c') : c'.Fine := by
  obtain ⟨_, _, ht⟩ := propose_some ht
  have hv := h.ok.view0
  have hv1 := h.ok.view1
  rcases ht with ⟨view, v, hb, rfl⟩ | ⟨_, _, rfl⟩
  · obtain ⟨⟨t, hm⟩, hp, _⟩ := best_mem hb
    have hs := h.prepared hp
    have hk := h.preps.1.2 _ hm
    dsimp only at hs hk
    obtain ⟨a, b1, b2, b3, b4, b5, b6, b7, b8, b9, b10, b11, b12, b13⟩ := h
    exact ⟨⟨a.1, a.2, a.3, a.4, a.5, a.6, a.7, a.8⟩, b1, b2, b3, b4.put hv hv1 _, put_all (⟨hs, show (-1 : Int) ≤ view by omega, hk.2⟩) b5, b6, b7, b8, b9, b10, b11, b12, b13⟩
  · obtain ⟨a, b1, b2, b3, b4, b5, b6, b7, b8, b9, b10, b11, b12, b13⟩ := h
    exact ⟨⟨a.1, a.2, a.3, a.4, a.5, a.6, a.7, a.8⟩, b1, b2, b3, b4.put hv hv1 _, put_all (⟨b1, show (-1 : Int) ≤ -1 by decide, show (-1 : Int) ≤ 4294967296 by decide⟩) b5, b6, b7, b8, b9, b10, b11, b12, b13⟩
theorem CoreM.Fine.prepare {acc : List UInt8 → Bool} (h : c.Fine) (ht : c.prepare acc = some c') : c'.Fine := by
  obtain ⟨p, hp, _, _, rfl⟩ := prepare_some ht
  have hs := (h.propsV _ (lookup_mem hp)).1
  obtain ⟨a, b1, b2, b3, b4, b5, b6, b7, b8, b9, b10, b11, b12, b13⟩ := h
  have := a.me0; have := a.me1; have := a.n1
  exact ⟨⟨a.1, a.2, a.3, a.4, a.5, a.6, a.7, a.8⟩, b1, b2, b3, b4, b5, b6.setT a.view0 a.view1 (by omega) (by omega) hs, b7, b8, b9, b10, b11, b12, b13⟩
theorem CoreM.Fine.commit (h : c.Fine) (ht : c.commit = some c') : c'.Fine := by
  obtain ⟨v, hp, _, rfl⟩ := commit_some ht
  have hs := h.prepared hp
  obtain ⟨a, b1, b2, b3, b4, b5, b6, b7, b8, b9, b10, b11, b12, b13⟩ := h
  have := a.me0; have := a.me1; have := a.n1; have := a.view0
  exact ⟨⟨a.1, a.2, a.3, a.4, a.5, a.6, a.7, a.8⟩, b1, hs, b3, b4, b5, b6, b7.setT a.view0 a.view1 (by omega) (by omega) hs, b8, b9, b10, b11, by dsimp only; omega, a.view1⟩
theorem CoreM.Fine.agreed (h : c.Fine) {view : Int} {v : List UInt8} (hp : c.agreed view = some v) : Short v := by
  obtain ⟨⟨who, hw⟩, _⟩ := agreed_some hp
  exact (h.comms.inner view).lookup hw
theorem CoreM.Fine.decide_ (h : c.Fine) (ht : c.decide_ = some c') : c'.Fine := by
  obtain ⟨v, rfl, hv⟩ := decide_some ht
  have hs : Short v := by
    rcases hv with ⟨view, hv⟩ | hv
    · exact h.agreed hv
    · obtain ⟨⟨who, hw⟩, _⟩ := count_mem hv
      exact h.decs.lookup hw
  obtain ⟨a, b1, b2, b3, b4, b5, b6, b7, b8, b9, b10, b11, b12, b13⟩ := h
  exact ⟨⟨a.1, a.2, a.3, a.4, a.5, a.6, a.7, a.8⟩, b1, b2, hs, b4, b5, b6, b7, b8, b9, b10, b11, b12, b13⟩
theorem CoreM.Fine.undecided (h : c.Fine) : c.undecided.Fine := by
  obtain ⟨a, b1, b2, b3, b4, b5, b6, b7, b8, b9, b10, b11, b12, b13⟩ := h
  exact ⟨⟨a.1, a.2, a.3, a.4, a.5, a.6, a.7, a.8⟩, b1, b2, show (0 : Nat) ≤ 16777216 by decide, b4, b5, b6, b7, b8, b9, b10, b11, b12, b13⟩
theorem step_some {acc : List UInt8 → Bool} (h : c.step acc = some c') : c.turn = some c' ∨ (c.turn = none ∧ c.propose = some c') ∨ (c.turn = none ∧ c.propose = none ∧ c.prepare acc = some c') ∨
    (c.turn = none ∧ c.propose = none ∧ c.prepare acc = none ∧ c.commit = some c') ∨ (c.turn = none ∧ c.propose = none ∧ c.prepare acc = none ∧ c.commit = none ∧ c.decide_ = some c') := by
  unfold CoreM.step at h
  cases h1 : c.turn with
  | some x => rw [h1] at h; exact .inl h
  | none =>
    rw [h1, Option.none_or] at h
    cases h2 : c.propose with
    | some x => rw [h2] at h; exact .inr (.inl ⟨rfl, h⟩)
    | none =>
      rw [h2, Option.none_or] at h
      cases h3 : c.prepare acc with
      | some x => rw [h3] at h; exact .inr (.inr (.inl ⟨rfl, rfl, h⟩))
      | none =>
        rw [h3, Option.none_or] at h
        cases h4 : c.commit with
        | some x => rw [h4] at h; exact .inr (.inr (.inr (.inl ⟨rfl, rfl, rfl, h⟩)))
        | none => rw [h4, Option.none_or] at h; exact .inr (.inr (.inr (.inr ⟨rfl, rfl, rfl, rfl, h⟩)))
theorem CoreM.Fine.step {acc : List UInt8 → Bool} (h : c.Fine) (ht : c.step acc = some c') : c'.Fine := by
  rcases step_some ht with e | ⟨_, e⟩ | ⟨_, _, e⟩ | ⟨_, _, _, e⟩ | ⟨_, _, _, _, e⟩
  · exact h.turn e
  · exact h.propose e
  · exact h.prepare e
  · exact h.commit e
  · exact h.decide_ e
end
theorem CoreM.Fine.acts {acc : List UInt8 → Bool} : ∀ (k : Nat) {c : CoreM}, c.Fine → (CoreM.acts acc k c).Fine
  | 0, _, h => h
  | k + 1, c, h => by
    unfold CoreM.acts
    split
    · exact h
    · split
      · rename_i c' hc; exact CoreM.Fine.acts k (h.step hc)
      · exact h.undecided
end Go.Proofs.Ytkkmkkgjpmlhaaa
