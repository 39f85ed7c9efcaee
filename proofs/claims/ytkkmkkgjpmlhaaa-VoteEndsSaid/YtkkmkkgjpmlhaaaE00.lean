/- What a core knows grows; a core that has done all it can; bounds of views. No program in sight. Bounds of the views that a core knows of; its wish. No program in sight. Peers of whom none is wrong tell one another all: what all know then; who decides. No program in sight. A core that knows enough Commits has decided; where one has decided all have behind a round. No program in sight. A view in which none has decided: its one proposal, who prepares it and who opposes it. No program in sight. A view in which a quorum has prepared: all decide. One in which fewer have: all know of all Prepares behind it. No program in sight. -/
import Derived.Test.YtkkmkkgjpmlhaaaA00
namespace Go.Proofs.Ytkkmkkgjpmlhaaa
namespace CoreM
variable {acc : List UInt8 → Bool} {c c' : CoreM}

/-- What a core knows stays. -/
structure Grows (c c' : CoreM) : Prop where
  preps : ∀ v who x, (inner c.preps v).lookup who = some x → (inner c'.preps v).lookup who = some x
  comms : ∀ v who x, (inner c.comms v).lookup who = some x → (inner c'.comms v).lookup who = some x
  props : ∀ v p, c.props.lookup v = some p → c'.props.lookup v = some p
theorem Grows.refl (c : CoreM) : Grows c c := ⟨fun _ _ _ h => h, fun _ _ _ h => h, fun _ _ h => h⟩
theorem Grows.trans {c1 c2 : CoreM} (h : Grows c c1) (k : Grows c1 c2) : Grows c c2 :=
  ⟨fun v who x e => k.preps v who x (h.preps v who x e), fun v who x e => k.comms v who x (h.comms v who x e), fun v p e => k.props v p (h.props v p e)⟩
theorem Grows.same (e : c'.props = c.props ∧ c'.preps = c.preps ∧ c'.comms = c.comms) : Grows c c' :=
  ⟨fun v who x h => by rw [e.2.1]; exact h, fun v who x h => by rw [e.2.2]; exact h, fun v p h => by rw [e.1]; exact h⟩
theorem setT_grows {t : TM} {view who : Int} {l : List UInt8} (h : hasT t view who = false) : ∀ v w x, (inner t v).lookup w = some x → (inner (setT t view who l) v).lookup w = some x := fun v w x e => by
  rw [lookup_inner_setT]
  split
  · rename_i e2
    rw [e2.1, e2.2, hasT_none h] at e
    cases e
  · exact e
theorem put_grows {α : Type} {m : List (Int × α)} {k : Int} {a : α} (h : m.lookup k = none) : ∀ v p, m.lookup v = some p → (put m k a).lookup v = some p := fun v p e => by
  rw [lookup_put]
  split
  · rename_i e2; rw [e2, h] at e; cases e
  · exact e
theorem step_grows (hs : c.step acc = some c') : Grows c c' := by
  rcases step_some hs with e | ⟨_, e⟩ | ⟨_, _, e⟩ | ⟨_, _, _, e⟩ | ⟨_, _, _, _, e⟩
  · obtain ⟨x, _, _, rfl⟩ := turn_some e; exact .same ⟨rfl, rfl, rfl⟩
  · obtain ⟨hn, _, ⟨view, v, _, rfl⟩ | ⟨_, _, rfl⟩⟩ := propose_some e
    · exact ⟨fun _ _ _ h => h, fun _ _ _ h => h, put_grows hn⟩
    · exact ⟨fun _ _ _ h => h, fun _ _ _ h => h, put_grows hn⟩
  · obtain ⟨p, _, hn, _, rfl⟩ := prepare_some e
    exact ⟨setT_grows hn, fun _ _ _ h => h, fun _ _ h => h⟩
  · obtain ⟨x, _, hn, rfl⟩ := commit_some e
    exact ⟨fun _ _ _ h => h, setT_grows hn, fun _ _ h => h⟩
  · obtain ⟨v, rfl, _⟩ := decide_some e; exact .same ⟨rfl, rfl, rfl⟩
theorem settle_grows (c : CoreM) : Grows c (c.settle acc) :=
  settle_keep (Grows c) (fun _ _ h _ hs => h.trans (step_grows hs)) (fun _ h _ => h.trans (.same ⟨rfl, rfl, rfl⟩)) (.refl c)
theorem know_grows (c : CoreM) (v : Vote) : Grows c (c.know v).2 := by
  unfold know
  split
  · split
    · exact .refl c
    · rename_i h
      simp only [Bool.or_eq_true, not_or, Bool.not_eq_true, Option.isSome_eq_false_iff, Option.isNone_iff_eq_none] at h
      exact ⟨fun _ _ _ h => h, fun _ _ _ h => h, put_grows h.1⟩
  split
  · dsimp only
    split
    · exact .refl c
    · rename_i h; exact ⟨setT_grows (by simpa using h), fun _ _ _ h => h, fun _ _ h => h⟩
  split
  · dsimp only
    split
    · exact .refl c
    · rename_i h; exact ⟨fun _ _ _ h => h, setT_grows (by simpa using h), fun _ _ h => h⟩
  split
  · dsimp only
    split
    · exact .refl c
    · exact .same ⟨rfl, rfl, rfl⟩
  split
  · exact .refl c
  · exact .same ⟨rfl, rfl, rfl⟩
theorem see_grows (c : CoreM) (v : Vote) : Grows c (c.see v) := by
  unfold see
  split
  · exact .refl c
  · exact .same ⟨rfl, rfl, rfl⟩
theorem take_grows (c : CoreM) (v : Vote) : Grows c (c.take acc v).2 := by
  rcases take_cases acc c v with e | ⟨_, _, _, _, _, e⟩
  · rw [e]; exact .refl c
  · rw [e]; exact ((know_grows c v).trans (see_grows _ v)).trans (settle_grows _)
theorem late_grows (c : CoreM) : Grows c (c.late acc) := by
  unfold late
  split
  · exact Grows.trans (c1 := { c with view := c.view + 1 }) (.same ⟨rfl, rfl, rfl⟩) (settle_grows _)
  · exact .refl c
theorem ask_grows (c : CoreM) (l : List UInt8) : Grows c (c.ask acc l) := by
  unfold ask
  split
  · exact .refl c
  · exact Grows.trans (c1 := { c with wish := l, wishes := true }) (.same ⟨rfl, rfl, rfl⟩) (settle_grows _)

/-- It has done all that it can. -/
def Settled (acc : List UInt8 → Bool) (c : CoreM) : Prop := c.decided = true ∨ c.step acc = none
theorem none_or {α : Type} {a b : Option α} (h : a.or b = none) : a = none ∧ b = none := by cases a <;> simp_all
theorem step_none (h : c.step acc = none) : c.turn = none ∧ c.propose = none ∧ c.prepare acc = none ∧ c.commit = none ∧ c.decide_ = none := by
  unfold step at h
  obtain ⟨h1, h⟩ := none_or h
  obtain ⟨h2, h⟩ := none_or h
  obtain ⟨h3, h⟩ := none_or h
  obtain ⟨h4, h5⟩ := none_or h
  exact ⟨h1, h2, h3, h4, h5⟩
theorem none_step (h1 : c.turn = none) (h2 : c.propose = none) (h3 : c.prepare acc = none) (h4 : c.commit = none) (h5 : c.decide_ = none) : c.step acc = none := by
  unfold step
  rw [h1, h2, h3, h4, h5]
  rfl
theorem map_none {α β : Type} {a : Option α} {f g : α → Option β} (h : ∀ x, f x = none → g x = none) (e : a.bind f = none) : a.bind g = none := by
  cases a with
  | none => rfl
  | some x => exact h x e
theorem undecided_step (h : c.step acc = none) : c.undecided.step acc = none := by
  obtain ⟨h1, h2, h3, h4, h5⟩ := step_none h
  refine none_step ?_ ?_ ?_ ?_ ?_
  · unfold turn at h1 ⊢
    show (match c.reach with | some v => if v ≤ c.view then none else some { c.undecided with view := v } | none => none) = none
    cases hr : c.reach with
    | none => rfl
    | some v =>
      rw [hr] at h1
      dsimp only at h1 ⊢
      split at h1
      · rename_i hv; rw [if_pos hv]
      · cases h1
  · unfold propose at h2 ⊢
    show (if (c.props.lookup c.view).isSome || c.proposer c.view != c.me then none else match c.best c.view with
      | some (view, v) => some { c.undecided with props := put c.props c.view (v, view) }
      | none => if c.wishes then some { c.undecided with props := put c.props c.view (c.wish, -1) } else none) = none
    split at h2
    · rename_i hh; rw [if_pos hh]
    · rename_i hh
      rw [if_neg hh]
      split at h2
      · cases h2
      · rename_i hb
        split at h2
        · cases h2
        · rename_i hw; rw [hb]; dsimp only; rw [if_neg hw]
  · unfold prepare at h3 ⊢
    show (match c.props.lookup c.view with | none => none | some p => if hasT c.preps c.view c.me || !c.fit acc p then none else some { c.undecided with preps := setT c.preps c.view c.me p.1 }) = none
    cases hp : c.props.lookup c.view with
    | none => rfl
    | some p =>
      rw [hp] at h3
      dsimp only at h3 ⊢
      split at h3
      · rename_i hh; rw [if_pos hh]
      · cases h3
  · unfold commit at h4 ⊢
    show (match c.prepared c.view with | none => none | some v => if hasT c.comms c.view c.me then none else some { c.undecided with lock := c.view, locked := v, comms := setT c.comms c.view c.me v }) = none
    cases hp : c.prepared c.view with
    | none => rfl
    | some p =>
      rw [hp] at h4
      dsimp only at h4 ⊢
      split at h4
      · rename_i hh; rw [if_pos hh]
      · cases h4
  · unfold decide_ at h5 ⊢
    show (match (keys c.comms).findSome? c.agreed with | some v => some { c.undecided with decided := true, value := v } | none => match count c.decs (c.f + 1) with | some v => some { c.undecided with decided := true, value := v } | none => none) = none
    split at h5
    · cases h5
    · rename_i hh
      rw [hh]
      split at h5
      · cases h5
      · rename_i hh2; rw [hh2]
theorem settle_settled : ∀ (m : Nat) {c : CoreM}, c.mu ≤ m → c.Fine → Settled acc (c.settle acc)
  | m, c, hm, hf => by
    cases hd : c.decided with
    | true => rw [settle_decided hd]; exact .inl hd
    | false =>
      cases hs : c.step acc with
      | none => rw [settle_none hd hs]; exact .inr (undecided_step hs)
      | some c' =>
        have hlt := mu_step hf hd hs
        rw [← settle_some hf hd hs]
        match m, hm with
        | 0, hm => omega
        | m + 1, hm => exact settle_settled m (by omega) (hf.step hs)
theorem Settled.settle (h : c.Fine) : Settled acc (c.settle acc) := settle_settled _ (Nat.le_refl _) h
theorem Settled.take (h : Settled acc c) (hf : c.Fine) (v : Vote) : Settled acc (c.take acc v).2 := by
  rcases take_cases acc c v with e | ⟨_, _, _, hv, _, e⟩
  · rw [e]; exact h
  · rw [e]; exact .settle ((hf.know hv).see hv)
theorem Settled.late (h : Settled acc c) (hf : c.Fine) : Settled acc (c.late acc) := by
  unfold CoreM.late
  split
  · rename_i hc
    simp only [Bool.and_eq_true, decide_eq_true_eq] at hc
    exact .settle (hf.nextView hc.2)
  · exact h
theorem Settled.ask (h : Settled acc c) (hf : c.Fine) (l : List UInt8) : Settled acc (c.ask acc l) := by
  unfold CoreM.ask
  split
  · exact h
  · rename_i hc
    simp only [Bool.or_eq_true, decide_eq_true_eq, not_or] at hc
    exact .settle (hf.wishFor (by unfold Short; omega))
end CoreM
end Go.Proofs.Ytkkmkkgjpmlhaaa
namespace Go.Proofs.Ytkkmkkgjpmlhaaa
namespace CoreM
variable {acc : List UInt8 → Bool} {c c' : CoreM} {M : Int}

/-- No view beyond M: its own, those that it saw, those of proposals. -/
structure Cap (M : Int) (c : CoreM) : Prop where
  view : c.view ≤ M
  seen : ∀ p ∈ c.seen, p.2 ≤ M
  props : ∀ v p, c.props.lookup v = some p → v ≤ M
theorem Cap.mono {M' : Int} (h : Cap M c) (hm : M ≤ M') : Cap M' c := ⟨Int.le_trans h.view hm, fun p hp => Int.le_trans (h.seen p hp) hm, fun v p e => Int.le_trans (h.props v p e) hm⟩
theorem Cap.same (h : Cap M c) (e : c'.view = c.view ∧ c'.seen = c.seen ∧ c'.props = c.props) : Cap M c' :=
  ⟨by rw [e.1]; exact h.view, by rw [e.2.1]; exact h.seen, by rw [e.2.2]; exact h.props⟩
theorem put_cap {α : Type} {m : List (Int × α)} {k : Int} {a : α} (h : ∀ v p, m.lookup v = some p → v ≤ M) (hk : k ≤ M) : ∀ v p, (put m k a).lookup v = some p → v ≤ M := fun v p e => by
  rw [lookup_put] at e
  split at e
  · rename_i e2; rw [e2]; exact hk
  · exact h v p e
theorem Cap.step (h : Cap M c) (hs : c.step acc = some c') : Cap M c' := by
  rcases step_some hs with e | ⟨_, e⟩ | ⟨_, _, e⟩ | ⟨_, _, _, e⟩ | ⟨_, _, _, _, e⟩
  · obtain ⟨x, hx, _, rfl⟩ := turn_some e
    obtain ⟨p, hp, rfl⟩ := reach_mem hx
    exact ⟨h.seen p hp, h.seen, h.props⟩
  · obtain ⟨_, _, ⟨view, v, _, rfl⟩ | ⟨_, _, rfl⟩⟩ := propose_some e
    · exact ⟨h.view, h.seen, put_cap h.props h.view⟩
    · exact ⟨h.view, h.seen, put_cap h.props h.view⟩
  · obtain ⟨p, _, _, _, rfl⟩ := prepare_some e; exact h.same ⟨rfl, rfl, rfl⟩
  · obtain ⟨x, _, _, rfl⟩ := commit_some e; exact h.same ⟨rfl, rfl, rfl⟩
  · obtain ⟨v, rfl, _⟩ := decide_some e; exact h.same ⟨rfl, rfl, rfl⟩
theorem Cap.settle (h : Cap M c) : Cap M (c.settle acc) := settle_keep (Cap M) (fun _ _ h _ hs => h.step hs) (fun _ h _ => h.same ⟨rfl, rfl, rfl⟩) h
theorem Cap.know (h : Cap M c) {v : Vote} (hv : v.view ≤ M) : Cap M (c.know v).2 := by
  unfold CoreM.know
  split
  · split
    · exact h
    · exact ⟨h.view, h.seen, put_cap h.props hv⟩
  split
  · dsimp only
    split
    · exact h
    · exact h.same ⟨rfl, rfl, rfl⟩
  split
  · dsimp only
    split
    · exact h
    · exact h.same ⟨rfl, rfl, rfl⟩
  split
  · dsimp only
    split
    · exact h
    · exact h.same ⟨rfl, rfl, rfl⟩
  split
  · exact h
  · exact h.same ⟨rfl, rfl, rfl⟩
theorem Cap.see (h : Cap M c) {v : Vote} (hv : v.view ≤ M) (h0 : 0 ≤ M) : Cap M (c.see v) := by
  unfold CoreM.see
  split
  · exact h
  · refine ⟨h.view, put_all ?_ h.seen, h.props⟩
    have : (c.seen.lookup v.frm).getD 0 ≤ M := by
      cases hl : c.seen.lookup v.frm with
      | none => exact h0
      | some x => exact h.seen _ (lookup_mem hl)
    show max ((c.seen.lookup v.frm).getD 0) v.view ≤ M
    omega
theorem Cap.take (h : Cap M c) {v : Vote} (hv : v.view ≤ M) (h0 : 0 ≤ M) : Cap M (c.take acc v).2 := by
  rcases take_cases acc c v with e | ⟨_, _, _, _, _, e⟩
  · rw [e]; exact h
  · rw [e]; exact ((h.know hv).see hv h0).settle
theorem Cap.late (h : Cap M c) (hv : c.view < M) : Cap M (c.late acc) := by
  unfold CoreM.late
  split
  · exact Cap.settle (c := { c with view := c.view + 1 }) ⟨by dsimp only; omega, h.seen, h.props⟩
  · exact h
theorem Cap.ask (h : Cap M c) (l : List UInt8) : Cap M (c.ask acc l) := by
  unfold CoreM.ask
  split
  · exact h
  · exact Cap.settle (c := { c with wish := l, wishes := true }) (h.same ⟨rfl, rfl, rfl⟩)

/-- The wish stays. -/
def SameWish (c c' : CoreM) : Prop := c'.wish = c.wish ∧ c'.wishes = c.wishes
theorem SameWish.trans {c1 c2 : CoreM} (h : SameWish c c1) (k : SameWish c1 c2) : SameWish c c2 := ⟨k.1.trans h.1, k.2.trans h.2⟩
theorem settle_wish (c : CoreM) : SameWish c (c.settle acc) :=
  settle_keep (SameWish c) (fun d d' h _ hs => h.trans (by
    rcases step_some hs with e | ⟨_, e⟩ | ⟨_, _, e⟩ | ⟨_, _, _, e⟩ | ⟨_, _, _, _, e⟩
    · obtain ⟨x, _, _, rfl⟩ := turn_some e; exact ⟨rfl, rfl⟩
    · obtain ⟨hn, _, ⟨view, v, _, rfl⟩ | ⟨_, _, rfl⟩⟩ := propose_some e <;> exact ⟨rfl, rfl⟩
    · obtain ⟨p, _, hn, _, rfl⟩ := prepare_some e; exact ⟨rfl, rfl⟩
    · obtain ⟨x, _, hn, rfl⟩ := commit_some e; exact ⟨rfl, rfl⟩
    · obtain ⟨v, rfl, _⟩ := decide_some e; exact ⟨rfl, rfl⟩)) (fun _ h _ => h.trans ⟨rfl, rfl⟩) ⟨rfl, rfl⟩
theorem know_wish (c : CoreM) (v : Vote) : SameWish c (c.know v).2 := by
  unfold CoreM.know
  split
  · split <;> exact ⟨rfl, rfl⟩
  split
  · dsimp only; split <;> exact ⟨rfl, rfl⟩
  split
  · dsimp only; split <;> exact ⟨rfl, rfl⟩
  split
  · dsimp only; split <;> exact ⟨rfl, rfl⟩
  split <;> exact ⟨rfl, rfl⟩
theorem take_wish (c : CoreM) (v : Vote) : SameWish c (c.take acc v).2 := by
  rcases take_cases acc c v with e | ⟨_, _, _, _, _, e⟩
  · rw [e]; exact ⟨rfl, rfl⟩
  · rw [e]
    refine (know_wish c v).trans (SameWish.trans (c1 := see (c.know v).2 v) ?_ (settle_wish _))
    unfold see
    split <;> exact ⟨rfl, rfl⟩
theorem late_wish (c : CoreM) : SameWish c (c.late acc) := by
  unfold CoreM.late
  split
  · exact SameWish.trans (c1 := { c with view := c.view + 1 }) ⟨rfl, rfl⟩ (settle_wish _)
  · exact ⟨rfl, rfl⟩

/-- What holds of a core of which nobody is wrong. -/
structure Live (M : Int) (c : CoreM) : Prop where
  settled : Settled notB c
  cap : Cap M c
  wish : c.wishes = true → notB c.wish = true
theorem Live.mono {M' : Int} (h : Live M c) (hm : M ≤ M') : Live M' c := ⟨h.settled, h.cap.mono hm, h.wish⟩
theorem Live.take (h : Live M c) (hf : c.Fine) {v : Vote} (hv : v.view ≤ M) (h0 : 0 ≤ M) : Live M (c.take notB v).2 :=
  ⟨h.settled.take hf v, h.cap.take hv h0, fun e => by obtain ⟨a, b⟩ := take_wish (acc := notB) c v; rw [b] at e; rw [a]; exact h.wish e⟩
theorem Live.late (h : Live M c) (hf : c.Fine) (hv : c.view < M) : Live M (c.late notB) :=
  ⟨h.settled.late hf, h.cap.late hv, fun e => by obtain ⟨a, b⟩ := late_wish (acc := notB) c; rw [b] at e; rw [a]; exact h.wish e⟩
theorem Live.ask (h : Live M c) (hf : c.Fine) {l : List UInt8} (hl : notB l = true) : Live M (c.ask notB l) := by
  refine ⟨h.settled.ask hf l, h.cap.ask l, ?_⟩
  unfold CoreM.ask
  split
  · exact h.wish
  · intro e
    rw [(settle_wish (acc := notB) { c with wish := l, wishes := true }).1]
    exact hl
theorem ask_wishes (c : CoreM) {l : List UInt8} (hl : l.length ≤ 4096) : (c.ask acc l).wishes = true := by
  unfold CoreM.ask
  by_cases h : c.wishes = true
  · rw [if_pos (by simp [h])]; exact h
  · rw [if_neg (by simp [h]; omega), (settle_wish (acc := acc) { c with wish := l, wishes := true }).2]

/-! ### Beginning anew -/
theorem votes_one {t : List (Int × List UInt8)} {me : Int} (hn : (t.map (·.1)).Nodup) (h : ∀ p ∈ t, p.1 = me) (v : List UInt8) : votes t v ≤ 1 := by
  unfold votes
  refine Nat.le_trans (List.length_filter_le _ _) ?_
  match t, hn, h with
  | [], _, _ => exact Nat.zero_le _
  | [_], _, _ => exact Nat.le_refl _
  | p :: q :: t, hn, h =>
    have h1 := h p (by simp)
    have h2 := h q (by simp)
    simp only [List.map_cons, List.nodup_cons, List.mem_cons, not_or] at hn
    exact absurd (h1.trans h2.symm) hn.1.1
theorem count_few {t : List (Int × List UInt8)} {least : Int} (h : ∀ v, (votes t v : Int) < least) : count t least = none := by
  cases e : count t least with
  | none => rfl
  | some v => have := (count_mem e).2; have := h v; omega
theorem cnt_eq (k : Nat) : ∀ n : Nat, cnt n (fun j => decide (j = k)) ≤ if k < n then 1 else 0
  | 0 => by unfold cnt; simp
  | n + 1 => by
    have ih := cnt_eq k n
    rw [cnt_succ]
    by_cases e : n = k
    · subst e
      rw [if_neg (Nat.lt_irrefl n)] at ih
      simp
      omega
    · rw [if_neg (by simpa using e)]
      by_cases h : k < n
      · rw [if_pos h] at ih; rw [if_pos (by omega)]; omega
      · rw [if_neg h] at ih; rw [if_neg (by omega)]; omega
theorem anew_settled (hf : c.Fine) (hff : c.anew.Fine) : Settled notB c.anew := by
  obtain ⟨e1, e2, e3, e4, e5, e6, e7, e8⟩ := anew_same c
  obtain ⟨n0, n1, m0, m1, s0, s1, v0, v1⟩ := hff.ok
  have hq : (3 : Int) ≤ c.anew.quorum := by unfold quorum; omega
  have hprep : ∀ v, c.anew.prepared v = none := fun v => by
    unfold prepared
    refine count_few (fun x => ?_)
    have := votes_one (hff.preps.inner v).1.1 (fun p hp => by rw [e5] at hp; exact ownMap_peer hp) x
    omega
  cases hd : c.anew.decided with
  | true => exact .inl hd
  | false =>
    right
    have ep : c.anew.props = [] := by unfold anew withLock; split <;> rfl
    have es : c.anew.seen = [] := by unfold anew withLock; split <;> rfl
    have ew : c.anew.wishes = false := by unfold anew withLock; split <;> rfl
    have hbest : ∀ b, c.anew.best b = none := fun b => by
      cases e : c.anew.best b with
      | none => rfl
      | some r => obtain ⟨_, h, _⟩ := best_mem e; rw [hprep] at h; cases h
    refine none_step ?_ ?_ ?_ ?_ ?_
    · unfold turn reach views f
      rw [es]
      simp only [List.map_nil]
      rw [if_pos (by rw [show (sortZ ([] : List Int)).length = 0 from rfl]; omega)]
    · unfold propose
      split
      · rfl
      · rw [hbest, ew]; rfl
    · unfold prepare; rw [ep]; rfl
    · unfold commit; rw [hprep]
    · unfold decide_
      have h1 : (keys c.anew.comms).findSome? c.anew.agreed = none := by
        cases e : (keys c.anew.comms).findSome? c.anew.agreed with
        | none => rfl
        | some x =>
          obtain ⟨v, _, hv⟩ := List.exists_of_findSome?_eq_some e
          obtain ⟨_, hb⟩ := agreed_some hv
          have h2 : c.anew.backers v x ≤ 1 := by
            have h3 : c.anew.backers v x = cnt c.anew.n.toNat (fun p => (inner c.anew.comms v).lookup (Int.ofNat p + 1) == some x || c.anew.decs.lookup (Int.ofNat p + 1) == some x) := rfl
            rw [h3]
            refine Nat.le_trans (cnt_mono (B := fun j => decide (j = (c.me - 1).toNat)) fun j _ hj => ?_) (Nat.le_trans (cnt_eq _ _) (by split <;> omega))
            rw [anew_decs] at hj
            simp only [List.lookup_nil, Bool.or_eq_true, beq_iff_eq] at hj
            rcases hj with hj | hj
            · have h4 := lookup_mem hj
              rw [e6] at h4
              have h5 : Int.ofNat j + 1 = c.me := ownMap_peer h4
              have h6 : (j : Int) + 1 = c.me := h5
              simp only [decide_eq_true_eq]
              omega
            · cases hj
          omega
      rw [h1, anew_decs]
      rfl
theorem Cap.anew (h : Cap M c) : Cap M c.anew := by
  obtain ⟨e1, e2, e3, e4, e5, e6, e7, e8⟩ := anew_same c
  have ep : c.anew.props = [] := by unfold CoreM.anew withLock; split <;> rfl
  have es : c.anew.seen = [] := by unfold CoreM.anew withLock; split <;> rfl
  exact ⟨by rw [e4]; exact h.view, by rw [es]; simp, by rw [ep]; intro v p e; cases e⟩
theorem Live.anew (h : Live M c) (hf : c.Fine) (hff : c.anew.Fine) : Live M c.anew :=
  ⟨anew_settled hf hff, h.cap.anew, fun e => by rw [show c.anew.wishes = false from by unfold CoreM.anew withLock; split <;> rfl] at e; cases e⟩
end CoreM
end Go.Proofs.Ytkkmkkgjpmlhaaa
namespace Go.Proofs.Ytkkmkkgjpmlhaaa

section
variable {acc : List UInt8 → Bool} {n : Nat} {P : Nat → CoreM}
theorem hearAll_cons (v : Vote) (l : List Vote) : hearAll acc n P (v :: l) = hearAll acc n (hearAll acc n P [v]) l := by
  funext j
  unfold hearAll hear
  by_cases h : j < n
  · simp [h]
  · simp [h]
theorem hearTo_ind (Q : (Nat → CoreM) → Prop) (v : Vote) (h : ∀ R m, m < n → Q R → Q (upd R m ((R m).take acc v).2)) (h0 : Q P) : ∀ m, m ≤ n → Q (hearTo acc P v m)
  | 0, _ => by rw [hearTo_zero]; exact h0
  | m + 1, hm => by rw [hearTo_succ]; exact h _ m hm (hearTo_ind Q v h h0 m (by omega))
theorem hearAll_ind (Q : (Nat → CoreM) → Prop) : ∀ (l : List Vote) {P : Nat → CoreM}, (∀ v ∈ l, ∀ R m, m < n → Q R → Q (upd R m ((R m).take acc v).2)) → Q P → Q (hearAll acc n P l)
  | [], _, _, h0 => by rw [hearAll_nil]; exact h0
  | v :: l, P, h, h0 => by
    rw [hearAll_cons]
    refine hearAll_ind Q l (fun u hu => h u (List.mem_cons_of_mem _ hu)) ?_
    rw [← hearTo_all]
    exact hearTo_ind Q v (h v List.mem_cons_self) h0 n (Nat.le_refl _)
end

/-- None is wrong. -/
def none_ : Nat → Bool := fun _ => false
/-- Peers of whom none is wrong, none beyond the view M. -/
structure CrewL (n : Nat) (slot M : Int) (P : Nat → CoreM) : Prop where
  crew : Crew n slot none_ P
  live : ∀ j, j < n → CoreM.Live M (P j)
/-- What a peer may tell. -/
structure Word (n : Nat) (slot M : Int) (j : Nat) (P : Nat → CoreM) (v : Vote) : Prop where
  frm : v.frm = (j : Int) + 1
  slot : v.slot = slot
  ok : v.okB = true
  view : v.view ≤ M
  len : v.value.length ≤ 50
  sound : Sound n none_ P v
section
variable {n : Nat} {slot M : Int} {P R : Nat → CoreM} {i j : Nat}
theorem CrewL.fine (h : CrewL n slot M P) (hj : j < n) : (P j).Fine := h.crew.fine hj
theorem CrewL.pos (h : CrewL n slot M P) : 0 ≤ M := by
  have hn : 0 < n := by have := h.crew.peers.n4; omega
  exact Int.le_trans (h.fine hn).ok.view0 (h.live 0 hn).cap.view
theorem CrewL.mono {M' : Int} (h : CrewL n slot M P) (hm : M ≤ M') : CrewL n slot M' P := ⟨h.crew, fun j hj => (h.live j hj).mono hm⟩
theorem CrewL.upd (h : CrewL n slot M P) {c : CoreM} (hc : Crew n slot none_ (Ytkkmkkgjpmlhaaa.upd P j c)) (hl : CoreM.Live M c) : CrewL n slot M (Ytkkmkkgjpmlhaaa.upd P j c) :=
  ⟨hc, fun k hk => by unfold Ytkkmkkgjpmlhaaa.upd; split; { exact hl }; { exact h.live k hk }⟩
theorem CrewL.says (h : CrewL n slot M P) (hj : j < n) {x : Vote} (hx : x ∈ (P j).says) : Word n slot M j P x := by
  have hl := h.crew.loc hj
  have h2 := (h.crew.lim j hj).says hl.fine (by decide) hx (fun v y h => hl.lp v y h) (fun v y h => hl.lc v y h)
  have h3 := says_frm hx
  have hids := h.crew.peers.ids j hj
  exact ⟨h3.1.trans hids.2.1, h3.2.trans hids.2.2, h2.1, Int.le_trans h2.2 (h.live j hj).cap.view, says_len (h.crew.lim j hj) hx, h.crew.peers.says_sound hj hx⟩
theorem Word.upd {v : Vote} {c : CoreM} {k : Nat} (h : Word n slot M j P v) (hn : CoreM.Next (P k) c) : Word n slot M j (Ytkkmkkgjpmlhaaa.upd P k c) v := ⟨h.frm, h.slot, h.ok, h.view, h.len, h.sound.upd hn⟩
theorem CrewL.take (h : CrewL n slot M P) (hi : i < n) {v : Vote} (hv : Word n slot M j P v) : CrewL n slot M (Ytkkmkkgjpmlhaaa.upd P i ((P i).take notB v).2) ∧ CoreM.Next (P i) ((P i).take notB v).2 := by
  obtain ⟨a, b⟩ := h.crew.take hi hv.sound hv.len
  exact ⟨h.upd a ((h.live i hi).take (h.fine hi) hv.view h.pos), b⟩
/-- What goes on: words stay, knowledge stays. -/
def Onward (n : Nat) (P R : Nat → CoreM) : Prop := ∀ i, i < n → CoreM.Next (P i) (R i) ∧ CoreM.Grows (P i) (R i)
theorem Onward.refl (n : Nat) (P : Nat → CoreM) : Onward n P P := fun _ _ => ⟨.refl _, .refl _⟩
theorem Onward.trans {S : Nat → CoreM} (h : Onward n P R) (k : Onward n R S) : Onward n P S := fun i hi => ⟨(h i hi).1.trans (k i hi).1, (h i hi).2.trans (k i hi).2⟩
theorem Onward.upd {c : CoreM} (h : Onward n P R) (hn : CoreM.Next (R j) c) (hg : CoreM.Grows (R j) c) : Onward n P (Ytkkmkkgjpmlhaaa.upd R j c) := fun i hi => by
  unfold Ytkkmkkgjpmlhaaa.upd
  split
  · rename_i e; subst e; exact ⟨(h i hi).1.trans hn, (h i hi).2.trans hg⟩
  · exact h i hi
theorem CrewL.hearAll (h : CrewL n slot M P) {l : List Vote} (hl : ∀ v ∈ l, Word n slot M j P v) : CrewL n slot M (hearAll notB n P l) ∧ Onward n P (hearAll notB n P l) := by
  have key := hearAll_ind (acc := notB) (n := n) (fun R => (CrewL n slot M R ∧ ∀ v ∈ l, Word n slot M j R v) ∧ Onward n P R) l (P := P) (fun v hv R m hm ⟨⟨h1, h2⟩, h3⟩ => by
    obtain ⟨a, b⟩ := h1.take hm (h2 v hv)
    exact ⟨⟨a, fun u hu => (h2 u hu).upd b⟩, h3.upd b (CoreM.take_grows _ _)⟩) ⟨⟨h, hl⟩, .refl _ _⟩
  exact ⟨key.1.1, key.2⟩
theorem CrewL.talk (h : CrewL n slot M P) (hj : j < n) : CrewL n slot M (talk notB n P j) ∧ Onward n P (talk notB n P j) :=
  h.hearAll (fun _ hx => h.says hj hx)
theorem CrewL.talks (h : CrewL n slot M P) : ∀ a, a ≤ n → CrewL n slot M (talks notB n P a) ∧ ∀ b, b ≤ a → Onward n (talks notB n P b) (talks notB n P a)
  | 0, _ => ⟨h, fun b hb => by obtain rfl : b = 0 := (by omega); exact .refl _ _⟩
  | a + 1, ha => by
    obtain ⟨h1, h2⟩ := h.talks a (by omega)
    obtain ⟨h3, h4⟩ := h1.talk (j := a) (by omega)
    refine ⟨h3, fun b hb => ?_⟩
    by_cases e : b = a + 1
    · subst e; exact .refl _ _
    · exact (h2 b (by omega)).trans h4

/-! ### What all know behind a round -/
theorem know_kind1 {c : CoreM} {v : Vote} (hk : v.kind = 1) (hp : v.frm = c.proposer v.view) : ((c.know v).2.props.lookup v.view).isSome = true ∧ ((c.know v).1 = false → (c.know v).2 = c) := by
  unfold CoreM.know
  rw [if_pos hk]
  by_cases h : (c.props.lookup v.view).isSome = true
  · rw [if_pos (by simp [h])]; exact ⟨h, fun _ => rfl⟩
  · rw [if_neg (by simp [h, hp])]
    exact ⟨by dsimp only; rw [lookup_put, if_pos rfl]; rfl, fun e => by cases e⟩
theorem know_kind2 {c : CoreM} {v : Vote} (hk : v.kind = 2) : ((inner (c.know v).2.preps v.view).lookup v.frm).isSome = true ∧ ((c.know v).1 = false → (c.know v).2 = c) := by
  unfold CoreM.know
  rw [if_neg (by omega), if_pos hk]
  dsimp only
  by_cases h : hasT c.preps v.view v.frm = true
  · rw [if_pos h]; exact ⟨h, fun _ => rfl⟩
  · rw [if_neg h]
    exact ⟨by dsimp only; rw [lookup_inner_setT, if_pos ⟨rfl, rfl⟩]; rfl, fun e => by simp at e; exact absurd e h⟩
theorem know_kind3 {c : CoreM} {v : Vote} (hk : v.kind = 3) : ((inner (c.know v).2.comms v.view).lookup v.frm).isSome = true ∧ ((c.know v).1 = false → (c.know v).2 = c) := by
  unfold CoreM.know
  rw [if_neg (by omega), if_neg (by omega), if_pos hk]
  dsimp only
  by_cases h : hasT c.comms v.view v.frm = true
  · rw [if_pos h]; exact ⟨h, fun _ => rfl⟩
  · rw [if_neg h]
    exact ⟨by dsimp only; rw [lookup_inner_setT, if_pos ⟨rfl, rfl⟩]; rfl, fun e => by simp at e; exact absurd e h⟩
/-- What is taken in contains what is known. -/
theorem take_knows {acc : List UInt8 → Bool} {c : CoreM} {v : Vote} (h1 : v.slot = c.slot) (h2 : v.frm ≤ c.n) (h3 : v.frm ≠ c.me) (h4 : v.okB = true) (hk : (c.know v).1 = false → (c.know v).2 = c) : CoreM.Grows (c.know v).2 (c.take acc v).2 := by
  unfold CoreM.take
  rw [if_neg (by simp [h1, h3]; omega), if_neg (by simp [h4])]
  cases e : (c.know v).1 with
  | false => rw [if_pos (by rfl), hk e]; exact .refl _
  | true => rw [if_neg (by decide)]; exact (CoreM.see_grows _ v).trans (CoreM.settle_grows _)
theorem hear_split {acc : List UInt8 → Bool} {c : CoreM} {l : List Vote} {x : Vote} (hx : x ∈ l) : ∃ l1, CoreM.Grows ((hear acc c l1).take acc x).2 (hear acc c l) ∧ ∀ v ∈ l1, v ∈ l := by
  obtain ⟨l1, l2, rfl⟩ := List.append_of_mem hx
  refine ⟨l1, ?_, fun v hv => List.mem_append_left _ hv⟩
  unfold hear
  rw [List.foldl_append, List.foldl_cons]
  generalize (List.foldl (fun d v => (d.take acc v).2) c l1).take acc x = d
  have : ∀ (l : List Vote) (d : CoreM), CoreM.Grows d (l.foldl (fun d v => (d.take acc v).2) d) := fun l => by
    induction l with
    | nil => exact fun d => .refl d
    | cons v l ih => exact fun d => (CoreM.take_grows d v).trans (ih _)
  exact this l2 _
theorem hear_ids {acc : List UInt8 → Bool} {c : CoreM} (h : CoreM.Loc acc c) (l : List Vote) : CoreM.Loc acc (hear acc c l) ∧ CoreM.Next c (hear acc c l) := by
  unfold hear
  induction l generalizing c with
  | nil => exact ⟨h, .refl c⟩
  | cons v l ih =>
    obtain ⟨a, b⟩ := CoreM.take_loc h v
    obtain ⟨a2, b2⟩ := ih a
    exact ⟨a2, b.trans b2⟩
/-- One that hears a word of another one knows it. -/
theorem CrewL.heard (h : CrewL n slot M P) (hi : i < n) (hj : j < n) (hij : i ≠ j) {l : List Vote} (hl : ∀ v ∈ l, Word n slot M j P v) {x : Vote} (hx : x ∈ l) :
    ∃ c : CoreM, (c.n = n ∧ c.me = (i : Int) + 1 ∧ c.slot = slot) ∧ (((c.know x).1 = false → (c.know x).2 = c) → CoreM.Grows (c.know x).2 (Ytkkmkkgjpmlhaaa.hearAll notB n P l i)) := by
  obtain ⟨l1, hg, _⟩ := hear_split (acc := notB) (c := P i) hx
  obtain ⟨hloc, hnext⟩ := hear_ids (h.crew.loc hi) l1
  have hids := h.crew.peers.ids i hi
  have w := hl x hx
  refine ⟨hear notB (P i) l1, ⟨hnext.n.trans hids.1, hnext.me.trans hids.2.1, hnext.slot.trans hids.2.2⟩, fun hk => ?_⟩
  have := take_knows (acc := notB) (c := hear notB (P i) l1) (v := x) (by rw [hnext.slot, hids.2.2]; exact w.slot) (by rw [hnext.n, hids.1, w.frm]; omega) (by rw [hnext.me, hids.2.1, w.frm]; omega) w.ok hk
  unfold Ytkkmkkgjpmlhaaa.hearAll
  rw [if_pos hi]
  exact this.trans hg
theorem some_of_isSome {α : Type} {o : Option α} (h : o.isSome = true) : ∃ x, o = some x := by cases o with | none => cases h | some x => exact ⟨x, rfl⟩
/-- Behind a round all know of each what it had told ahead of it. -/
theorem CrewL.round_comms (h : CrewL n slot M P) (hi : i < n) (hj : j < n) {v : Int} {y : List UInt8} (hy : (P j).ownC v = some y) : (inner (Ytkkmkkgjpmlhaaa.talks notB n P n i).comms v).lookup ((j : Int) + 1) = some y := by
  obtain ⟨hR, hon⟩ := h.talks n (Nat.le_refl _)
  obtain ⟨hT, _⟩ := h.talks j (by omega)
  have hjR : (Ytkkmkkgjpmlhaaa.talks notB n P n j).ownC v = some y := ((hon 0 (by omega)) j hj).1.keepC v y hy
  have hjT : (Ytkkmkkgjpmlhaaa.talks notB n P j j).ownC v = some y := (((h.talks j (by omega)).2 0 (by omega)) j hj).1.keepC v y hy
  by_cases hij : i = j
  · subst hij
    have := (hR.crew.peers.ids i hi).2.1
    unfold CoreM.ownC at hjR
    rw [this] at hjR
    exact hjR
  · have hx : (⟨3, (Ytkkmkkgjpmlhaaa.talks notB n P j j).me, (Ytkkmkkgjpmlhaaa.talks notB n P j j).slot, v, -1, y⟩ : Vote) ∈ (Ytkkmkkgjpmlhaaa.talks notB n P j j).says := by
      unfold CoreM.says
      exact List.mem_append_right _ (mine_has (hT.fine hj).comms hjT)
    obtain ⟨c, hc, hg⟩ := hT.heard hi hj hij (fun _ hu => hT.says hj hu) hx
    have hme : (Ytkkmkkgjpmlhaaa.talks notB n P j j).me = (j : Int) + 1 := (hT.crew.peers.ids j hj).2.1
    obtain ⟨k1, k2⟩ := know_kind3 (c := c) (v := ⟨3, (Ytkkmkkgjpmlhaaa.talks notB n P j j).me, (Ytkkmkkgjpmlhaaa.talks notB n P j j).slot, v, -1, y⟩) rfl
    obtain ⟨z, hz⟩ := some_of_isSome k1
    have h1 := (hg k2).comms _ _ _ hz
    have h2 := ((hon (j + 1) (by omega)) i hi).2.comms _ _ _ h1
    dsimp only at h2
    rw [hme] at h2
    have h3 := hR.crew.peers.gc i j hi hj rfl _ _ h2
    rw [hjR] at h3
    injection h3 with h3
    rw [h2, h3]
theorem CrewL.round_preps (h : CrewL n slot M P) (hi : i < n) (hj : j < n) {v : Int} {y : List UInt8} (hy : (P j).ownP v = some y) : (inner (Ytkkmkkgjpmlhaaa.talks notB n P n i).preps v).lookup ((j : Int) + 1) = some y := by
  obtain ⟨hR, hon⟩ := h.talks n (Nat.le_refl _)
  obtain ⟨hT, _⟩ := h.talks j (by omega)
  have hjR : (Ytkkmkkgjpmlhaaa.talks notB n P n j).ownP v = some y := ((hon 0 (by omega)) j hj).1.keepP v y hy
  have hjT : (Ytkkmkkgjpmlhaaa.talks notB n P j j).ownP v = some y := (((h.talks j (by omega)).2 0 (by omega)) j hj).1.keepP v y hy
  by_cases hij : i = j
  · subst hij
    have := (hR.crew.peers.ids i hi).2.1
    unfold CoreM.ownP at hjR
    rw [this] at hjR
    exact hjR
  · have hx : (⟨2, (Ytkkmkkgjpmlhaaa.talks notB n P j j).me, (Ytkkmkkgjpmlhaaa.talks notB n P j j).slot, v, -1, y⟩ : Vote) ∈ (Ytkkmkkgjpmlhaaa.talks notB n P j j).says := by
      unfold CoreM.says
      exact List.mem_append_left _ (List.mem_append_right _ (mine_has (hT.fine hj).preps hjT))
    obtain ⟨c, hc, hg⟩ := hT.heard hi hj hij (fun _ hu => hT.says hj hu) hx
    have hme : (Ytkkmkkgjpmlhaaa.talks notB n P j j).me = (j : Int) + 1 := (hT.crew.peers.ids j hj).2.1
    obtain ⟨k1, k2⟩ := know_kind2 (c := c) (v := ⟨2, (Ytkkmkkgjpmlhaaa.talks notB n P j j).me, (Ytkkmkkgjpmlhaaa.talks notB n P j j).slot, v, -1, y⟩) rfl
    obtain ⟨z, hz⟩ := some_of_isSome k1
    have h1 := (hg k2).preps _ _ _ hz
    have h2 := ((hon (j + 1) (by omega)) i hi).2.preps _ _ _ h1
    dsimp only at h2
    rw [hme] at h2
    have h3 := hR.crew.peers.gp i j hi hj rfl _ _ h2
    rw [hjR] at h3
    injection h3 with h3
    rw [h2, h3]
end
end Go.Proofs.Ytkkmkkgjpmlhaaa
namespace Go.Proofs.Ytkkmkkgjpmlhaaa

section
variable {n : Nat} {slot M : Int} {P R : Nat → CoreM} {i j : Nat} {c : CoreM}
theorem findSome_none {α β : Type} {l : List α} {f : α → Option β} (h : l.findSome? f = none) {a : α} (ha : a ∈ l) : f a = none := by
  rw [List.findSome?_eq_none_iff] at h
  exact h a ha
theorem key_of_inner {t : TM} {v who : Int} {x : List UInt8} (h : (inner t v).lookup who = some x) : v ∈ CoreM.keys t := by
  unfold inner at h
  cases e : t.lookup v with
  | none => rw [e] at h; cases h
  | some l => exact mem_keys.2 ⟨l, lookup_mem e⟩
theorem cnt_some {A : Nat → Bool} (h : 0 < cnt n A) : ∃ j, j < n ∧ A j = true := by
  unfold cnt at h
  obtain ⟨j, hj⟩ := List.exists_mem_of_length_pos h
  obtain ⟨h1, h2⟩ := List.mem_filter.1 hj
  exact ⟨j, List.mem_range.1 h1, h2⟩
/-- It knows a quorum of Commits of one value. -/
theorem decided_of (hs : CoreM.Settled notB c) (hn : c.n = n) (h4 : 4 ≤ n) {r : Int} {x : List UInt8} (hq : n - (n - 1) / 3 ≤ cnt n (fun k => (inner c.comms r).lookup ((k : Int) + 1) == some x)) : c.decided = true := by
  rcases hs with hs | hs
  · exact hs
  · exfalso
    obtain ⟨_, _, _, _, h5⟩ := CoreM.step_none hs
    obtain ⟨k, hk, hkx⟩ := cnt_some (A := fun k : Nat => (inner c.comms r).lookup ((k : Int) + 1) == some x) (n := n) (by omega)
    have hkx : (inner c.comms r).lookup ((k : Int) + 1) = some x := by simpa using hkx
    have hb : (c.backers r x : Int) ≥ c.quorum := by
      have h1 : c.backers r x = cnt c.n.toNat (fun p => (inner c.comms r).lookup (Int.ofNat p + 1) == some x || c.decs.lookup (Int.ofNat p + 1) == some x) := rfl
      have h2 : cnt n (fun k => (inner c.comms r).lookup ((k : Int) + 1) == some x) ≤ cnt n (fun p => (inner c.comms r).lookup (Int.ofNat p + 1) == some x || c.decs.lookup (Int.ofNat p + 1) == some x) := cnt_mono (fun k _ e => by
        have e : ((inner c.comms r).lookup (Int.ofNat k + 1) == some x) = true := e
        rw [e]; rfl)
      rw [h1, hn, Int.toNat_natCast]
      unfold CoreM.quorum
      rw [hn]
      omega
    unfold CoreM.decide_ at h5
    split at h5
    · cases h5
    · rename_i h6
      have h7 := findSome_none h6 (key_of_inner hkx)
      unfold CoreM.agreed at h7
      have h8 := findSome_none h7 (mem_keys.2 ⟨x, lookup_mem hkx⟩)
      unfold CoreM.backed at h8
      rw [hkx] at h8
      dsimp only at h8
      rw [if_pos hb] at h8
      cases h8
/-- It knows a quorum of Prepares of one value. -/
theorem prepared_of (hf : c.Fine) (hk : ∀ v, ∀ p ∈ inner c.preps v, 1 ≤ p.1 ∧ p.1 ≤ c.n) (hn : c.n = n) (h4 : 4 ≤ n) {r : Int} {x : List UInt8} (hq : n - (n - 1) / 3 ≤ cnt n (fun k => (inner c.preps r).lookup ((k : Int) + 1) == some x)) : ∃ y, c.prepared r = some y := by
  cases e : c.prepared r with
  | some y => exact ⟨y, rfl⟩
  | none =>
    exfalso
    obtain ⟨k, hk2, hkx⟩ := cnt_some (A := fun k : Nat => (inner c.preps r).lookup ((k : Int) + 1) == some x) (n := n) (by omega)
    have hkx : (inner c.preps r).lookup ((k : Int) + 1) = some x := by simpa using hkx
    unfold CoreM.prepared CoreM.count at e
    have h8 := findSome_none e (mem_keys.2 ⟨x, lookup_mem hkx⟩)
    unfold CoreM.cand at h8
    rw [hkx] at h8
    dsimp only at h8
    have hv := votes_cnt (n := n) (hf.preps.inner r).1.1 (fun p hp => by have := hk r p hp; rw [hn] at this; exact this) (v := x)
    rw [if_pos (by rw [hv]; unfold CoreM.quorum; rw [hn]; omega)] at h8
    cases h8
/-- What a quorum prepared and it knows is prepared in its eyes. -/
theorem CrewL.prepared (h : CrewL n slot M P) (hi : i < n) {r : Int} {x : List UInt8} (hq : n - (n - 1) / 3 ≤ cnt n (fun k => (inner (P i).preps r).lookup ((k : Int) + 1) == some x)) : (P i).prepared r = some x := by
  have hids := h.crew.peers.ids i hi
  obtain ⟨y, hy⟩ := prepared_of (h.fine hi) (h.crew.loc hi).kp hids.1 h.crew.peers.n4 hq
  have h1 := h.crew.peers.prepared hi hy
  have h2 : Prep n none_ P r x := Nat.le_trans hq (cnt_mono fun k hk e => by
    have e : (inner (P i).preps r).lookup ((k : Int) + 1) = some x := by simpa using e
    simp [h.crew.peers.gp i k hi hk rfl r x e])
  rw [hy, h.crew.peers.prep_one h1 h2]
def Some_ (n : Nat) (P : Nat → CoreM) : Prop := ∃ d, d < n ∧ (P d).decided = true
def All_ (n : Nat) (P : Nat → CoreM) : Prop := ∀ d, d < n → (P d).decided = true
theorem Some_.on (h : Some_ n P) (ho : Onward n P R) : Some_ n R := by obtain ⟨d, h1, h2⟩ := h; exact ⟨d, h1, ((ho d h1).1.keepD h2).1⟩
theorem All_.on (h : All_ n P) (ho : Onward n P R) : All_ n R := fun d hd => ((ho d hd).1.keepD (h d hd)).1
/-- Where one has decided, all have behind a round. -/
theorem CrewL.all_decide (h : CrewL n slot M P) (hd : Some_ n P) : All_ n (Ytkkmkkgjpmlhaaa.talks notB n P n) := fun i hi => by
  obtain ⟨d, hdn, hdd⟩ := hd
  obtain ⟨r, hr⟩ := h.crew.peers.gdec d hdn hdd
  obtain ⟨hR, hon⟩ := h.talks n (Nat.le_refl _)
  have hids := hR.crew.peers.ids i hi
  refine decided_of (n := n) (hR.live i hi).settled hids.1 h.crew.peers.n4 (r := r) (x := (P d).value) (Nat.le_trans hr (cnt_mono fun k hk e => ?_))
  simp only [none_, Bool.false_or, beq_iff_eq] at e ⊢
  exact h.round_comms hi hk e
end
end Go.Proofs.Ytkkmkkgjpmlhaaa
namespace Go.Proofs.Ytkkmkkgjpmlhaaa

/-- What holds of the i-th core in the view V, since it was s; p proposes pr. -/
structure JV (n : Nat) (slot V : Int) (p : Nat) (pr : List UInt8 × Int) (i : Nat) (s c : CoreM) : Prop where
  n : c.n = n
  me : c.me = (i : Int) + 1
  slot : c.slot = slot
  cap : CoreM.Cap V c
  lo : V ≤ c.view
  props : ∀ q, c.props.lookup V = some q → q = pr
  has : i = p → c.props.lookup V = some pr
  own : ∀ y, c.ownP V = some y → y = pr.1
  old : ∀ v y, v ≠ V → c.ownP v = some y → s.ownP v = some y
section
variable {n : Nat} {slot V : Int} {p i j : Nat} {pr : List UInt8 × Int} {s c c' : CoreM} {acc : List UInt8 → Bool}
theorem JV.view (h : JV n slot V p pr i s c) : c.view = V := Int.le_antisymm h.cap.view h.lo
theorem JV.same (h : JV n slot V p pr i s c) (e : c'.n = c.n ∧ c'.me = c.me ∧ c'.slot = c.slot ∧ c'.view = c.view ∧ c'.props = c.props ∧ c'.preps = c.preps) (hc : CoreM.Cap V c') : JV n slot V p pr i s c' := by
  obtain ⟨e1, e2, e3, e4, e5, e6⟩ := e
  have eo : ∀ v, c'.ownP v = c.ownP v := fun v => by unfold CoreM.ownP; rw [e6, e2]
  exact ⟨e1.trans h.n, e2.trans h.me, e3.trans h.slot, hc, by rw [e4]; exact h.lo, fun q e => h.props q (by rw [← e5]; exact e), fun e => by rw [e5]; exact h.has e, fun y e => h.own y (by rw [← eo]; exact e), fun v y hv e => h.old v y hv (by rw [← eo]; exact e)⟩
theorem JV.step (h : JV n slot V p pr i s c) (hp : (p : Int) = (slot + V) % n) (hs : c.step acc = some c') : JV n slot V p pr i s c' := by
  have hc := h.cap.step hs
  rcases step_some hs with e | ⟨_, e⟩ | ⟨_, _, e⟩ | ⟨_, _, _, e⟩ | ⟨_, _, _, _, e⟩
  · obtain ⟨x, hx, hlt, rfl⟩ := turn_some e
    obtain ⟨q, hq, rfl⟩ := reach_mem hx
    have := h.cap.seen q hq
    have := h.lo
    omega
  · obtain ⟨hn, hme, _⟩ := propose_some e
    rw [h.view] at hn hme
    unfold CoreM.proposer at hme
    rw [h.slot, h.n, h.me, ← hp] at hme
    rw [h.has (by omega)] at hn
    cases hn
  · obtain ⟨q, hq, _, _, rfl⟩ := prepare_some e
    rw [h.view] at hq
    have hqe := h.props q hq
    refine ⟨h.n, h.me, h.slot, hc, h.lo, h.props, h.has, fun y e => ?_, fun v y hv e => ?_⟩
    · rw [CoreM.ownP_prepare, if_pos h.view.symm] at e
      injection e with e
      rw [← e, hqe]
    · rw [CoreM.ownP_prepare, if_neg (by rw [h.view]; exact hv)] at e
      exact h.old v y hv e
  · obtain ⟨x, _, _, rfl⟩ := commit_some e; exact h.same ⟨rfl, rfl, rfl, rfl, rfl, rfl⟩ hc
  · obtain ⟨v, rfl, _⟩ := decide_some e; exact h.same ⟨rfl, rfl, rfl, rfl, rfl, rfl⟩ hc
theorem JV.settle (h : JV n slot V p pr i s c) (hp : (p : Int) = (slot + V) % n) : JV n slot V p pr i s (c.settle acc) :=
  CoreM.settle_keep (JV n slot V p pr i s) (fun _ _ h _ hs => h.step hp hs) (fun _ h _ => h.same ⟨rfl, rfl, rfl, rfl, rfl, rfl⟩ (h.cap.same ⟨rfl, rfl, rfl⟩)) h
theorem JV.know_see (h : JV n slot V p pr i s c) (_hp : (p : Int) = (slot + V) % n) (h0 : 0 ≤ V) {v : Vote} (hv : v.view ≤ V) (hk : v.kind = 1 → v.view = V → (v.value, v.valid) = pr) (hm : v.frm ≠ c.me) : JV n slot V p pr i s (CoreM.see (c.know v).2 v) := by
  have h1 : JV n slot V p pr i s (c.know v).2 := by
    have hc := h.cap.know hv
    unfold CoreM.know at hc ⊢
    split
    · rename_i hk1
      rw [if_pos hk1] at hc
      split
      · exact h
      · rename_i hx
        rw [if_neg hx] at hc
        simp only [Bool.or_eq_true, not_or, Bool.not_eq_true, Option.isSome_eq_false_iff, Option.isNone_iff_eq_none] at hx
        refine ⟨h.n, h.me, h.slot, hc, h.lo, fun q e => ?_, fun e => ?_, h.own, h.old⟩
        · dsimp only at e
          rw [lookup_put] at e
          split at e
          · rename_i e2
            injection e with e
            rw [← e]; exact hk hk1 e2.symm
          · exact h.props q e
        · exact CoreM.put_grows hx.1 _ _ (h.has e)
    split
    · rename_i hk1 hk2
      rw [if_neg hk1, if_pos hk2] at hc
      dsimp only at hc ⊢
      split
      · exact h
      · rename_i hx
        rw [if_neg hx] at hc
        have eo : ∀ u, ({ c with preps := setT c.preps v.view v.frm v.value } : CoreM).ownP u = c.ownP u := fun u => by
          unfold CoreM.ownP
          dsimp only
          rw [lookup_inner_setT, if_neg (fun e => hm e.2.symm)]
        exact ⟨h.n, h.me, h.slot, hc, h.lo, h.props, h.has, fun y e => h.own y (by rw [← eo]; exact e), fun u y hu e => h.old u y hu (by rw [← eo]; exact e)⟩
    split
    · rename_i hk1 hk2 hk3
      rw [if_neg hk1, if_neg hk2, if_pos hk3] at hc
      dsimp only at hc ⊢
      split
      · exact h
      · rename_i hx
        rw [if_neg hx] at hc
        exact h.same ⟨rfl, rfl, rfl, rfl, rfl, rfl⟩ hc
    split
    · rename_i hk1 hk2 hk3 hk4
      rw [if_neg hk1, if_neg hk2, if_neg hk3, if_pos hk4] at hc
      dsimp only at hc ⊢
      split
      · exact h
      · rename_i hx
        rw [if_neg hx] at hc
        exact h.same ⟨rfl, rfl, rfl, rfl, rfl, rfl⟩ hc
    split
    · exact h
    · exact h.same ⟨rfl, rfl, rfl, rfl, rfl, rfl⟩ (h.cap.same ⟨rfl, rfl, rfl⟩)
  have hc2 := h1.cap.see hv h0
  unfold CoreM.see at hc2 ⊢
  split
  · exact h1
  · rename_i hx
    rw [if_neg hx] at hc2
    exact h1.same ⟨rfl, rfl, rfl, rfl, rfl, rfl⟩ hc2
theorem JV.take (h : JV n slot V p pr i s c) (hp : (p : Int) = (slot + V) % n) (h0 : 0 ≤ V) {v : Vote} (hv : v.view ≤ V) (hk : v.kind = 1 → v.view = V → (v.value, v.valid) = pr) : JV n slot V p pr i s (c.take acc v).2 := by
  rcases CoreM.take_cases acc c v with e | ⟨_, _, hm, _, _, e⟩
  · rw [e]; exact h
  · rw [e]; exact (h.know_see hp h0 hv hk hm).settle hp
end

/-- Peers in the view V. -/
structure CrewV (n : Nat) (slot V : Int) (p : Nat) (pr : List UInt8 × Int) (S P : Nat → CoreM) : Prop where
  base : CrewL n slot V P
  jv : ∀ i, i < n → JV n slot V p pr i (S i) (P i)
section
variable {n : Nat} {slot V : Int} {p i j : Nat} {pr : List UInt8 × Int} {S P : Nat → CoreM}
theorem says_prop {c : CoreM} {x : Vote} (h : x ∈ c.says) (hk : x.kind = 1) : ∃ q, c.props.lookup c.view = some q ∧ x.view = c.view ∧ (x.value, x.valid) = q := by
  rcases says_cases h with rfl | ⟨q, hq, _, _, rfl⟩ | h | h
  · unfold CoreM.word at hk; split at hk <;> simp at hk
  · exact ⟨q, hq, rfl, rfl⟩
  · have := (mine_mem h).1; omega
  · have := (mine_mem h).1; omega
theorem CrewV.hearAll (h : CrewV n slot V p pr S P) (hp : (p : Int) = (slot + V) % n) {l : List Vote} (hl : ∀ v ∈ l, Word n slot V j P v ∧ (v.kind = 1 → v.view = V → (v.value, v.valid) = pr)) : CrewV n slot V p pr S (Ytkkmkkgjpmlhaaa.hearAll notB n P l) := by
  have key := hearAll_ind (acc := notB) (n := n) (fun R => CrewV n slot V p pr S R ∧ ∀ v ∈ l, Word n slot V j R v ∧ (v.kind = 1 → v.view = V → (v.value, v.valid) = pr)) l (P := P) (fun v hv R m hm ⟨h1, h2⟩ => by
    obtain ⟨a, b⟩ := h1.base.take hm (h2 v hv).1
    refine ⟨⟨a, fun k hk => ?_⟩, fun u hu => ⟨(h2 u hu).1.upd b, (h2 u hu).2⟩⟩
    unfold upd
    split
    · rename_i e; subst e; exact (h1.jv k hk).take hp h1.base.pos (h2 v hv).1.view (h2 v hv).2
    · exact h1.jv k hk) ⟨h, hl⟩
  exact key.1
theorem CrewV.says (h : CrewV n slot V p pr S P) (hj : j < n) {x : Vote} (hx : x ∈ (P j).says) : Word n slot V j P x ∧ (x.kind = 1 → x.view = V → (x.value, x.valid) = pr) :=
  ⟨h.base.says hj hx, fun hk hv => by
    obtain ⟨q, h1, _, h3⟩ := says_prop hx hk
    rw [(h.jv j hj).view] at h1
    rw [h3]; exact (h.jv j hj).props q h1⟩
theorem CrewV.talks (h : CrewV n slot V p pr S P) (hp : (p : Int) = (slot + V) % n) : ∀ a, a ≤ n → CrewV n slot V p pr S (Ytkkmkkgjpmlhaaa.talks notB n P a)
  | 0, _ => h
  | a + 1, ha => (h.talks hp a (by omega)).hearAll hp (j := a) (fun _ hx => (h.talks hp a (by omega)).says (by omega) hx)
/-- Behind a round all know the proposal. -/
theorem CrewV.all_props (h : CrewV n slot V p pr S P) (hp : (p : Int) = (slot + V) % n) (hpn : p < n) (hd : (Ytkkmkkgjpmlhaaa.talks notB n P n p).decided = false) (hi : i < n) : (Ytkkmkkgjpmlhaaa.talks notB n P n i).props.lookup V = some pr := by
  have hR := h.talks hp n (Nat.le_refl _)
  have hT := h.talks hp p (by omega)
  obtain ⟨_, hon⟩ := h.base.talks n (Nat.le_refl _)
  by_cases hip : i = p
  · exact (hR.jv i hi).has hip
  · have hdT : (Ytkkmkkgjpmlhaaa.talks notB n P p p).decided = false := by
      cases e : (Ytkkmkkgjpmlhaaa.talks notB n P p p).decided with
      | false => rfl
      | true =>
        have := (((hon p (by omega)) p hpn).1.keepD e).1
        rw [hd] at this; cases this
    have jp := hT.jv p hpn
    have hpr : (Ytkkmkkgjpmlhaaa.talks notB n P p p).proposer V = (Ytkkmkkgjpmlhaaa.talks notB n P p p).me := by
      unfold CoreM.proposer
      rw [jp.slot, jp.n, jp.me, ← hp]
      omega
    have hx : (⟨1, (Ytkkmkkgjpmlhaaa.talks notB n P p p).me, (Ytkkmkkgjpmlhaaa.talks notB n P p p).slot, V, pr.2, pr.1⟩ : Vote) ∈ (Ytkkmkkgjpmlhaaa.talks notB n P p p).says := by
      unfold CoreM.says
      refine List.mem_append_left _ (List.mem_append_left _ (List.mem_append_right _ ?_))
      unfold CoreM.offer
      rw [jp.view, jp.has rfl]
      dsimp only
      rw [if_pos (by rw [hdT, hpr]; simp)]
      exact List.mem_singleton.2 rfl
    obtain ⟨c, hc, hg⟩ := hT.base.heard hi hpn hip (fun _ hu => hT.base.says hpn hu) hx
    obtain ⟨k1, k2⟩ := know_kind1 (c := c) (v := ⟨1, (Ytkkmkkgjpmlhaaa.talks notB n P p p).me, (Ytkkmkkgjpmlhaaa.talks notB n P p p).slot, V, pr.2, pr.1⟩) rfl (by
      dsimp only
      unfold CoreM.proposer
      rw [hc.1, hc.2.2, jp.me, ← hp]
      omega)
    obtain ⟨z, hz⟩ := some_of_isSome k1
    have h1 := (hg k2).props _ _ hz
    have h2 := ((hon (p + 1) (by omega)) i hi).2.props _ _ h1
    rw [h2, (hR.jv i hi).props _ h2]
/-- Behind a round each has prepared, or opposes. -/
theorem CrewV.stance (h : CrewV n slot V p pr S P) (hp : (p : Int) = (slot + V) % n) (hpn : p < n) (hd : ∀ i, i < n → (Ytkkmkkgjpmlhaaa.talks notB n P n i).decided = false) (hacc : notB pr.1 = true)
    (hpr : pr.2 = -1 ∨ (0 ≤ pr.2 ∧ pr.2 < V ∧ Prep n none_ P pr.2 pr.1)) (hi : i < n) :
    (Ytkkmkkgjpmlhaaa.talks notB n P n i).ownP V = some pr.1 ∨ (0 ≤ (Ytkkmkkgjpmlhaaa.talks notB n P n i).lock ∧ (Ytkkmkkgjpmlhaaa.talks notB n P n i).locked ≠ pr.1 ∧ pr.2 < (Ytkkmkkgjpmlhaaa.talks notB n P n i).lock) := by
  have hR := h.talks hp n (Nat.le_refl _)
  have hpi := h.all_props hp hpn (hd p hpn) hi
  have ji := hR.jv i hi
  have hknow : 0 ≤ pr.2 → pr.2 < V ∧ (Ytkkmkkgjpmlhaaa.talks notB n P n i).prepared pr.2 = some pr.1 := fun h0 => by
    rcases hpr with h1 | ⟨_, h1, h2⟩
    · omega
    · refine ⟨h1, hR.base.prepared hi (Nat.le_trans h2 (cnt_mono fun k hk e => ?_))⟩
      simp only [none_, Bool.false_or, beq_iff_eq] at e ⊢
      exact h.base.round_preps hi hk e
  have hset := (hR.base.live i hi).settled
  have hdi := hd i hi
  generalize Ytkkmkkgjpmlhaaa.talks notB n P n i = c at hpi ji hknow hset hdi
  rcases hset with e | e
  · rw [hdi] at e; cases e
  · obtain ⟨_, _, h3, _, _⟩ := CoreM.step_none e
    unfold CoreM.prepare at h3
    rw [ji.view, hpi] at h3
    dsimp only at h3
    split at h3
    · rename_i hh
      rw [Bool.or_eq_true] at hh
      rcases hh with hh | hh
      · left
        obtain ⟨y, hy⟩ := some_of_isSome hh
        have hy : c.ownP V = some y := hy
        rw [hy, ji.own y hy]
      · right
        unfold CoreM.fit at hh
        rw [if_neg (by rw [hacc]; decide)] at hh
        split at hh
        · simp at hh
        · rename_i hl
          simp only [Bool.or_eq_true, decide_eq_true_eq, beq_iff_eq, not_or] at hl
          refine ⟨by omega, fun e => hl.2 e.symm, ?_⟩
          by_cases h0 : pr.2 < c.lock
          · exact h0
          · obtain ⟨k1, k2⟩ := hknow (by omega)
            rw [k2] at hh
            have e1 : decide (pr.2 ≥ c.lock) = true := decide_eq_true (by omega)
            have e2 : decide (pr.2 < V) = true := decide_eq_true k1
            rw [ji.view, e1, e2] at hh
            simp at hh
    · cases h3
end
end Go.Proofs.Ytkkmkkgjpmlhaaa
namespace Go.Proofs.Ytkkmkkgjpmlhaaa

/-- All know of all Prepares. -/
def Full (n : Nat) (P : Nat → CoreM) : Prop := ∀ i j, i < n → j < n → ∀ v y, (P j).ownP v = some y → (inner (P i).preps v).lookup ((j : Int) + 1) = some y
section
variable {n : Nat} {slot V : Int} {p i j : Nat} {pr : List UInt8 × Int} {S P : Nat → CoreM}
theorem cnt_all {A : Nat → Bool} (h : ∀ j, j < n → A j = true) : cnt n A = n := by
  have h1 := cnt_le n A
  have h2 : cnt n (fun _ => true) ≤ cnt n A := cnt_mono (fun j hj _ => h j hj)
  have h3 : cnt n (fun _ => true) = n := by unfold cnt; rw [List.filter_eq_self.2 (fun _ _ => rfl), List.length_range]
  omega
theorem CrewV.quorum (h : CrewV n slot V p pr S P) (hp : (p : Int) = (slot + V) % n) {x : List UInt8} (hq : n - (n - 1) / 3 ≤ cnt n (fun j => (P j).ownP V == some x)) : All_ n (Ytkkmkkgjpmlhaaa.talks notB n (Ytkkmkkgjpmlhaaa.talks notB n P n) n) := by
  have h2 := h.talks hp n (Nat.le_refl _)
  have hn : n - (n - 1) / 3 ≤ n := by omega
  by_cases hs : Some_ n (Ytkkmkkgjpmlhaaa.talks notB n P n)
  · exact h2.base.all_decide hs
  · have hon := (h.base.talks n (Nat.le_refl _)).2 0 (by omega)
    have hPx : Prep n none_ (Ytkkmkkgjpmlhaaa.talks notB n P n) V x := Nat.le_trans hq (cnt_mono fun k hk e => by
      simp only [beq_iff_eq, none_, Bool.false_or] at e ⊢
      exact (hon k hk).1.keepP _ _ e)
    have hcom : ∀ i, i < n → (Ytkkmkkgjpmlhaaa.talks notB n P n i).ownC V = some x := fun i hi => by
      have hprep : (Ytkkmkkgjpmlhaaa.talks notB n P n i).prepared V = some x := h2.base.prepared hi (Nat.le_trans hq (cnt_mono fun k hk e => by
        simp only [beq_iff_eq] at e ⊢
        exact h.base.round_preps hi hk e))
      have hg2 := h2.base.crew.peers.g2 i hi V
      have hset := (h2.base.live i hi).settled
      have hv := (h2.jv i hi).view
      have hdi : (Ytkkmkkgjpmlhaaa.talks notB n P n i).decided = false := by
        cases e : (Ytkkmkkgjpmlhaaa.talks notB n P n i).decided with
        | false => rfl
        | true => exact absurd ⟨i, hi, e⟩ hs
      rcases hset with e | e
      · rw [hdi] at e; cases e
      · obtain ⟨_, _, _, h4, _⟩ := CoreM.step_none e
        unfold CoreM.commit at h4
        rw [hv, hprep] at h4
        dsimp only at h4
        split at h4
        · rename_i hh
          obtain ⟨y, hy⟩ := some_of_isSome hh
          have hy : (Ytkkmkkgjpmlhaaa.talks notB n P n i).ownC V = some y := hy
          rw [hy, h2.base.crew.peers.prep_one (hg2 y hy) hPx]
        · cases h4
    intro i hi
    have h3 := h2.talks hp n (Nat.le_refl _)
    refine decided_of (n := n) (h3.base.live i hi).settled (h3.base.crew.peers.ids i hi).1 h.base.crew.peers.n4 (r := V) (x := x) ?_
    rw [cnt_all (fun k hk => by simp only [beq_iff_eq]; exact h2.base.round_comms hi hk (hcom k hk))]
    exact hn

/-- Nothing but knowledge grows: W prepared, the others oppose. -/
structure Idle (n : Nat) (V : Int) (W : Nat → Bool) (i : Nat) (s c : CoreM) : Prop where
  loc : CoreM.Loc notB c
  own : ∀ v y, c.ownP v = some y → s.ownP v = some y
  lock : c.lock = s.lock
  locked : c.locked = s.locked
  known : ∀ k, k < n → ∀ y, (inner c.preps V).lookup ((k : Int) + 1) = some y → W k = true
  keep : W i = true → hasT c.preps V c.me = true
theorem Idle.same {W : Nat → Bool} {s c c' : CoreM} (h : Idle n V W i s c) (hl : CoreM.Loc notB c') (e : c'.me = c.me ∧ c'.preps = c.preps ∧ c'.lock = c.lock ∧ c'.locked = c.locked) : Idle n V W i s c' := by
  obtain ⟨e1, e2, e3, e4⟩ := e
  exact ⟨hl, fun v y e => h.own v y (by unfold CoreM.ownP at e ⊢; rw [e1, e2] at e; exact e), e3.trans h.lock, e4.trans h.locked, fun k hk y e => h.known k hk y (by rw [← e2]; exact e), fun e => by rw [e1, e2]; exact h.keep e⟩
theorem Idle.step {W : Nat → Bool} {s c c' s0 : CoreM} (h : Idle n V W i s c) (hj : JV n slot V p pr i s0 c) (hd : c.decided = false) (hW : cnt n W < n - (n - 1) / 3) (ho : W i = false → 0 ≤ s.lock ∧ s.locked ≠ pr.1 ∧ pr.2 < s.lock) (hs : c.step notB = some c') : Idle n V W i s c' := by
  have hl := (CoreM.step_loc h.loc hd hs).1
  rcases step_some hs with e | ⟨_, e⟩ | ⟨_, _, e⟩ | ⟨_, _, _, e⟩ | ⟨_, _, _, _, e⟩
  · obtain ⟨x, _, _, rfl⟩ := turn_some e; exact h.same hl ⟨rfl, rfl, rfl, rfl⟩
  · obtain ⟨_, _, ⟨view, v, _, rfl⟩ | ⟨_, _, rfl⟩⟩ := propose_some e <;> exact h.same hl ⟨rfl, rfl, rfl, rfl⟩
  · exfalso
    obtain ⟨q, hq, hn, hfit, rfl⟩ := prepare_some e
    rw [hj.view] at hq hn
    have hqe := hj.props q hq
    subst hqe
    cases hWi : W i with
    | true => rw [h.keep hWi] at hn; cases hn
    | false =>
      obtain ⟨o1, o2, o3⟩ := ho hWi
      rw [← h.lock] at o1 o3
      rw [← h.locked] at o2
      unfold CoreM.fit at hfit
      split at hfit
      · cases hfit
      · rw [if_neg (by simp only [Bool.or_eq_true, decide_eq_true_eq, beq_iff_eq, not_or]; exact ⟨by omega, fun e => o2 e.symm⟩)] at hfit
        have e1 : decide (q.2 ≥ c.lock) = false := decide_eq_false (by omega)
        rw [e1] at hfit
        simp at hfit
  · exfalso
    obtain ⟨x, hx, _, rfl⟩ := commit_some e
    rw [hj.view] at hx
    obtain ⟨_, hv⟩ := count_mem hx
    rw [votes_cnt (n := n) (h.loc.fine.preps.inner V).1.1 (fun q hq => by have := h.loc.kp V q hq; rw [hj.n] at this; exact this)] at hv
    have h1 : cnt n (fun k => (inner c.preps V).lookup ((k : Int) + 1) == some x) ≤ cnt n W := cnt_mono (fun k hk e => h.known k hk x (by simpa using e))
    have h2 := quorum_le hj.n hv
    omega
  · obtain ⟨v, rfl, _⟩ := decide_some e; exact h.same hl ⟨rfl, rfl, rfl, rfl⟩
theorem Idle.take {W : Nat → Bool} {s c s0 : CoreM} (h : Idle n V W i s c) (hj : JV n slot V p pr i s0 c) (hp : (p : Int) = (slot + V) % n) (h0 : 0 ≤ V) (hW : cnt n W < n - (n - 1) / 3) (ho : W i = false → 0 ≤ s.lock ∧ s.locked ≠ pr.1 ∧ pr.2 < s.lock) {v : Vote} (hv : v.view ≤ V) (hk : v.kind = 1 → v.view = V → (v.value, v.valid) = pr)
    (hw : v.kind = 2 → v.view = V → ∀ k : Nat, v.frm = (k : Int) + 1 → W k = true) : Idle n V W i s (c.take notB v).2 := by
  have hjt := hj.take (acc := notB) hp h0 hv hk
  rcases CoreM.take_cases notB c v with e | ⟨_, hn, hm, hok, _, e⟩
  · rw [e]; exact h
  · rw [e] at hjt ⊢
    have hl1 := (CoreM.know_loc h.loc hok hn hm).1
    have hl2 := (CoreM.see_loc hl1 hok).1
    have i1 : Idle n V W i s (c.know v).2 := by
      unfold CoreM.know at hl1 ⊢
      split
      · rename_i hk1
        rw [if_pos hk1] at hl1
        split
        · exact h
        · rename_i hx; rw [if_neg hx] at hl1; exact h.same hl1 ⟨rfl, rfl, rfl, rfl⟩
      split
      · rename_i hk1 hk2
        rw [if_neg hk1, if_pos hk2] at hl1
        dsimp only at hl1 ⊢
        split
        · exact h
        · rename_i hx
          rw [if_neg hx] at hl1
          have eo : ∀ u, (inner (setT c.preps v.view v.frm v.value) u).lookup c.me = (inner c.preps u).lookup c.me := fun u => by
            rw [lookup_inner_setT, if_neg (fun e => hm e.2.symm)]
          refine ⟨hl1, fun u y e => h.own u y ?_, h.lock, h.locked, fun k hk y e => ?_, fun e => ?_⟩
          · unfold CoreM.ownP at e ⊢; dsimp only at e; rw [eo] at e; exact e
          · dsimp only at e
            rw [lookup_inner_setT] at e
            split at e
            · rename_i e2; exact hw hk2 e2.1.symm k e2.2.symm
            · exact h.known k hk y e
          · have := h.keep e
            unfold hasT at this ⊢
            dsimp only
            rw [eo]; exact this
      split
      · rename_i hk1 hk2 hk3
        rw [if_neg hk1, if_neg hk2, if_pos hk3] at hl1
        dsimp only at hl1 ⊢
        split
        · exact h
        · rename_i hx; rw [if_neg hx] at hl1; exact h.same hl1 ⟨rfl, rfl, rfl, rfl⟩
      split
      · rename_i hk1 hk2 hk3 hk4
        rw [if_neg hk1, if_neg hk2, if_neg hk3, if_pos hk4] at hl1
        dsimp only at hl1 ⊢
        split
        · exact h
        · rename_i hx; rw [if_neg hx] at hl1; exact h.same hl1 ⟨rfl, rfl, rfl, rfl⟩
      · rename_i hk1 hk2 hk3 hk4
        rw [if_neg hk1, if_neg hk2, if_neg hk3, if_neg hk4] at hl1
        split
        · exact h
        · rename_i hx; rw [if_neg hx] at hl1; exact h.same hl1 ⟨rfl, rfl, rfl, rfl⟩
    have j1 : JV n slot V p pr i s0 (CoreM.see (c.know v).2 v) := by
      have j0 := hj.know_see hp h0 hv hk hm
      exact j0
    have i2 : Idle n V W i s (CoreM.see (c.know v).2 v) := by
      unfold CoreM.see at hl2 ⊢
      split
      · exact i1
      · rename_i hx
        rw [if_neg hx] at hl2
        exact i1.same hl2 ⟨rfl, rfl, rfl, rfl⟩
    have key := CoreM.settle_keep (acc := notB) (fun d => Idle n V W i s d ∧ JV n slot V p pr i s0 d) (fun d d' ⟨a, b⟩ hd hs => ⟨a.step b hd hW ho hs, b.step hp hs⟩) (fun d ⟨a, b⟩ hd => ⟨a.same (CoreM.undecided_loc a.loc hd).1 ⟨rfl, rfl, rfl, rfl⟩, b.same ⟨rfl, rfl, rfl, rfl, rfl, rfl⟩ (b.cap.same ⟨rfl, rfl, rfl⟩)⟩) ⟨i2, j1⟩
    exact key.1
end
end Go.Proofs.Ytkkmkkgjpmlhaaa
