/- What holds of each core by itself, whatever it does. -/
import Derived.Test.YtkkmkkgjpmlhaaaOwn
namespace Go.Proofs.Ytkkmkkgjpmlhaaa
namespace CoreM
variable {acc : List UInt8 → Bool} {c c' : CoreM}

theorem Loc.quiet (h : Loc acc c) (hf : c'.Fine) (e : c'.n = c.n ∧ c'.me = c.me ∧ c'.preps = c.preps ∧ c'.comms = c.comms ∧ c'.decs = c.decs ∧ c'.lock = c.lock ∧ c'.locked = c.locked) (hv : c.view ≤ c'.view) : Loc acc c' := by
  obtain ⟨e1, e2, e3, e4, e5, e6, e7⟩ := e
  have ep : ∀ v, c'.ownP v = c.ownP v := fun v => by unfold ownP; rw [e2, e3]
  have ec : ∀ v, c'.ownC v = c.ownC v := fun v => by unfold ownC; rw [e2, e4]
  exact { fine := hf
          lp := fun v x hx => Int.le_trans (h.lp v x (by rw [← ep]; exact hx)) hv
          lc := fun v x hx => Int.le_trans (h.lc v x (by rw [← ec]; exact hx)) hv
          lk1 := fun v x hx => by rw [e6]; exact h.lk1 v x (by rw [← ec]; exact hx)
          lk2 := fun hl => by rw [e6] at hl; rw [ec, e6, e7]; exact h.lk2 hl
          la := fun v x hx => h.la v x (by rw [← ep]; exact hx)
          kp := fun v p hp => by rw [e1]; rw [e3] at hp; exact h.kp v p hp
          kc := fun v p hp => by rw [e1]; rw [e4] at hp; exact h.kc v p hp
          kd := fun p hp => by rw [e1]; rw [e5] at hp; exact h.kd p hp }
theorem Next.quiet (e : c'.n = c.n ∧ c'.me = c.me ∧ c'.slot = c.slot ∧ c'.preps = c.preps ∧ c'.comms = c.comms) (hv : c.view ≤ c'.view) (hd : c.decided = true → c'.decided = true ∧ c'.value = c.value) : Next c c' := by
  obtain ⟨e1, e2, e3, e4, e5⟩ := e
  have ep : ∀ v, c'.ownP v = c.ownP v := fun v => by unfold ownP; rw [e2, e4]
  have ec : ∀ v, c'.ownC v = c.ownC v := fun v => by unfold ownC; rw [e2, e5]
  exact ⟨e1, e2, e3, hv, fun v x h => by rw [ep]; exact h, fun v x h => by rw [ec]; exact h, fun v x h => by rw [ec] at h; exact .inl h, hd⟩

theorem mem_inner_setT {t : TM} {view who v : Int} {l : List UInt8} {p : Int × List UInt8} (h : p ∈ inner (setT t view who l) v) : p ∈ inner t v ∨ (v = view ∧ p = (who, l)) := by
  unfold inner setT at h
  rw [lookup_put] at h
  by_cases e : v = view
  · subst e
    rw [if_pos rfl, Option.getD_some] at h
    rcases mem_put h with e | ⟨h, _⟩
    · exact .inr ⟨rfl, e⟩
    · exact .inl h
  · rw [if_neg e] at h
    exact .inl h

theorem ownC_nonneg (hf : c.Fine) {v : Int} {x : List UInt8} (h : c.ownC v = some x) : 0 ≤ v := by
  unfold ownC inner at h
  cases hl : c.comms.lookup v with
  | none => rw [hl] at h; cases h
  | some u => exact (hf.comms.1.2 _ (lookup_mem hl)).1

/-- The Prepare is told. -/
theorem ownP_prepare (x : List UInt8) (v : Int) : ({ c with preps := setT c.preps c.view c.me x } : CoreM).ownP v = if v = c.view then some x else c.ownP v := by
  unfold ownP
  dsimp only
  rw [lookup_inner_setT]
  by_cases h : v = c.view <;> simp [h]
theorem ownC_commit (x : List UInt8) (v : Int) : ({ c with lock := c.view, locked := x, comms := setT c.comms c.view c.me x } : CoreM).ownC v = if v = c.view then some x else c.ownC v := by
  unfold ownC
  dsimp only
  rw [lookup_inner_setT]
  by_cases h : v = c.view <;> simp [h]
theorem hasT_none {t : TM} {v who : Int} (h : hasT t v who = false) : (inner t v).lookup who = none := by
  unfold hasT at h
  cases hl : (inner t v).lookup who with
  | none => rfl
  | some x => rw [hl] at h; cases h

theorem fit_acc {p : List UInt8 × Int} (h : c.fit acc p = true) : acc p.1 = true := by
  unfold fit at h
  cases ha : acc p.1 with
  | true => rfl
  | false => rw [ha] at h; simp at h

theorem prepare_loc (h : Loc acc c) (hs : c.prepare acc = some c') : Loc acc c' ∧ Next c c' := by
  have hf := h.fine.prepare hs
  obtain ⟨p, hp, hn, hfit, rfl⟩ := prepare_some hs
  have hno : c.ownP c.view = none := hasT_none hn
  refine ⟨{ fine := hf, lp := fun v x hx => ?_, lc := h.lc, lk1 := h.lk1, lk2 := h.lk2, la := fun v x hx => ?_, kp := fun v q hq => ?_, kc := h.kc, kd := h.kd }, ⟨rfl, rfl, rfl, Int.le_refl _, fun v x hx => ?_, fun _ _ hx => hx, fun _ _ hx => .inl hx, fun hd => ⟨hd, rfl⟩⟩⟩
  · rw [ownP_prepare] at hx
    split at hx
    · rename_i e; subst e; exact Int.le_refl _
    · exact h.lp v x hx
  · rw [ownP_prepare] at hx
    split at hx
    · cases hx; exact fit_acc hfit
    · exact h.la v x hx
  · rcases mem_inner_setT hq with hq | ⟨_, rfl⟩
    · exact h.kp v q hq
    · exact ⟨h.fine.ok.me0, h.fine.ok.me1⟩
  · rw [ownP_prepare]
    split
    · rename_i e; subst e; rw [hno] at hx; cases hx
    · exact hx
theorem commit_loc (h : Loc acc c) (hs : c.commit = some c') : Loc acc c' ∧ Next c c' := by
  have hf := h.fine.commit hs
  obtain ⟨x0, hp, hn, rfl⟩ := commit_some hs
  have hno : c.ownC c.view = none := hasT_none hn
  refine ⟨{ fine := hf, lp := h.lp, lc := fun v x hx => ?_, lk1 := fun v x hx => ?_, lk2 := fun _ => ?_, la := h.la, kp := h.kp, kc := fun v q hq => ?_, kd := h.kd }, ⟨rfl, rfl, rfl, Int.le_refl _, fun _ _ hx => hx, fun v x hx => ?_, fun v x hx => ?_, fun hd => ⟨hd, rfl⟩⟩⟩
  · rw [ownC_commit] at hx
    split at hx
    · rename_i e; subst e; exact Int.le_refl _
    · exact h.lc v x hx
  · rw [ownC_commit] at hx
    split at hx
    · rename_i e; subst e; exact Int.le_refl _
    · exact h.lc v x hx
  · rw [ownC_commit, if_pos rfl]
  · rcases mem_inner_setT hq with hq | ⟨_, rfl⟩
    · exact h.kc v q hq
    · exact ⟨h.fine.ok.me0, h.fine.ok.me1⟩
  · rw [ownC_commit]
    split
    · rename_i e; subst e; rw [hno] at hx; cases hx
    · exact hx
  · rw [ownC_commit] at hx
    split at hx
    · rename_i e; subst e; exact .inr ⟨hno, Int.le_refl _⟩
    · exact .inl hx
theorem turn_loc (h : Loc acc c) (hs : c.turn = some c') : Loc acc c' ∧ Next c c' := by
  have hf := h.fine.turn hs
  obtain ⟨x, _, hx, rfl⟩ := turn_some hs
  exact ⟨h.quiet hf ⟨rfl, rfl, rfl, rfl, rfl, rfl, rfl⟩ (Int.le_of_lt hx), Next.quiet ⟨rfl, rfl, rfl, rfl, rfl⟩ (Int.le_of_lt hx) (fun hd => ⟨hd, rfl⟩)⟩
theorem propose_loc (h : Loc acc c) (hs : c.propose = some c') : Loc acc c' ∧ Next c c' := by
  have hf := h.fine.propose hs
  obtain ⟨_, _, ⟨view, v, _, rfl⟩ | ⟨_, _, rfl⟩⟩ := propose_some hs
  all_goals exact ⟨h.quiet hf ⟨rfl, rfl, rfl, rfl, rfl, rfl, rfl⟩ (Int.le_refl _), Next.quiet ⟨rfl, rfl, rfl, rfl, rfl⟩ (Int.le_refl _) (fun hd => ⟨hd, rfl⟩)⟩
theorem decide_loc (h : Loc acc c) (hd : c.decided = false) (hs : c.decide_ = some c') : Loc acc c' ∧ Next c c' := by
  have hf := h.fine.decide_ hs
  obtain ⟨v, rfl, _⟩ := decide_some hs
  exact ⟨h.quiet hf ⟨rfl, rfl, rfl, rfl, rfl, rfl, rfl⟩ (Int.le_refl _), Next.quiet ⟨rfl, rfl, rfl, rfl, rfl⟩ (Int.le_refl _) (fun e => by rw [hd] at e; cases e)⟩
theorem undecided_loc (h : Loc acc c) (hd : c.decided = false) : Loc acc c.undecided ∧ Next c c.undecided :=
  ⟨h.quiet h.fine.undecided ⟨rfl, rfl, rfl, rfl, rfl, rfl, rfl⟩ (Int.le_refl _), Next.quiet ⟨rfl, rfl, rfl, rfl, rfl⟩ (Int.le_refl _) (fun e => by rw [hd] at e; cases e)⟩
theorem step_loc (h : Loc acc c) (hd : c.decided = false) (hs : c.step acc = some c') : Loc acc c' ∧ Next c c' := by
  rcases step_some hs with e | ⟨_, e⟩ | ⟨_, _, e⟩ | ⟨_, _, _, e⟩ | ⟨_, _, _, _, e⟩
  · exact turn_loc h e
  · exact propose_loc h e
  · exact prepare_loc h e
  · exact commit_loc h e
  · exact decide_loc h hd e
/-- Something that each step keeps is kept by all that a core can do. -/
theorem acts_keep (Q : CoreM → Prop) (hs : ∀ c c', Q c → c.decided = false → c.step acc = some c' → Q c') (hu : ∀ c, Q c → c.decided = false → Q c.undecided) : ∀ (k : Nat) (c : CoreM), Q c → Q (acts acc k c)
  | 0, _, h => h
  | k + 1, c, h => by
    unfold acts
    cases hd : c.decided with
    | true => exact h
    | false =>
      rw [if_neg (by decide)]
      cases he : c.step acc with
      | none => exact hu c h hd
      | some c' => exact acts_keep Q hs hu k c' (hs c c' h hd he)
theorem settle_keep (Q : CoreM → Prop) (hs : ∀ c c', Q c → c.decided = false → c.step acc = some c' → Q c') (hu : ∀ c, Q c → c.decided = false → Q c.undecided) (h : Q c) : Q (c.settle acc) := acts_keep Q hs hu _ c h
theorem settle_loc (h : Loc acc c) : Loc acc (c.settle acc) ∧ Next c (c.settle acc) :=
  settle_keep (fun d => Loc acc d ∧ Next c d) (fun d d' hd hu hs => by obtain ⟨a, b⟩ := step_loc hd.1 hu hs; exact ⟨a, hd.2.trans b⟩) (fun d hd hu => by obtain ⟨a, b⟩ := undecided_loc hd.1 hu; exact ⟨a, hd.2.trans b⟩) ⟨h, Next.refl c⟩

theorem late_loc (h : Loc acc c) : Loc acc (c.late acc) ∧ Next c (c.late acc) := by
  unfold late
  split
  · rename_i hc
    simp only [Bool.and_eq_true, Bool.not_eq_true', decide_eq_true_eq] at hc
    have h1 : Loc acc { c with view := c.view + 1 } := h.quiet (h.fine.nextView hc.2) ⟨rfl, rfl, rfl, rfl, rfl, rfl, rfl⟩ (by dsimp only; omega)
    obtain ⟨a, b⟩ := settle_loc h1
    have n1 : Next c { c with view := c.view + 1 } := Next.quiet ⟨rfl, rfl, rfl, rfl, rfl⟩ (by dsimp only; omega) (fun hd => ⟨hd, rfl⟩)
    exact ⟨a, n1.trans b⟩
  · exact ⟨h, Next.refl c⟩
theorem ask_loc (h : Loc acc c) (l : List UInt8) : Loc acc (c.ask acc l) ∧ Next c (c.ask acc l) := by
  unfold ask
  split
  · exact ⟨h, Next.refl c⟩
  · rename_i hc
    simp only [Bool.or_eq_true, not_or, Bool.not_eq_true, decide_eq_false_iff_not] at hc
    have h1 : Loc acc { c with wish := l, wishes := true } := h.quiet (h.fine.wishFor (show l.length ≤ 16777216 by omega)) ⟨rfl, rfl, rfl, rfl, rfl, rfl, rfl⟩ (Int.le_refl _)
    obtain ⟨a, b⟩ := settle_loc h1
    have n1 : Next c { c with wish := l, wishes := true } := Next.quiet ⟨rfl, rfl, rfl, rfl, rfl⟩ (Int.le_refl _) (fun hd => ⟨hd, rfl⟩)
    exact ⟨a, n1.trans b⟩

/-- What another one told is known. -/
theorem know_loc (h : Loc acc c) {v : Vote} (hv : v.okB = true) (hn : v.frm ≤ c.n) (hm : v.frm ≠ c.me) : Loc acc (c.know v).2 ∧ Next c (c.know v).2 := by
  have hf := h.fine.know hv
  have hk := (okB_iff v).1 hv
  have ownp : ∀ (t : TM), t = setT c.preps v.view v.frm v.value → ∀ u, (inner t u).lookup c.me = c.ownP u := fun t e u => by
    rw [e, lookup_inner_setT, if_neg (fun e => hm e.2.symm)]; rfl
  have ownc : ∀ (t : TM), t = setT c.comms v.view v.frm v.value → ∀ u, (inner t u).lookup c.me = c.ownC u := fun t e u => by
    rw [e, lookup_inner_setT, if_neg (fun e => hm e.2.symm)]; rfl
  unfold know at hf ⊢
  by_cases h1 : v.kind = 1
  · rw [if_pos h1] at hf ⊢
    split
    · exact ⟨h, Next.refl c⟩
    · rename_i hx
      rw [if_neg hx] at hf
      exact ⟨h.quiet hf ⟨rfl, rfl, rfl, rfl, rfl, rfl, rfl⟩ (Int.le_refl _), Next.quiet ⟨rfl, rfl, rfl, rfl, rfl⟩ (Int.le_refl _) (fun hd => ⟨hd, rfl⟩)⟩
  rw [if_neg h1] at hf ⊢
  by_cases h2 : v.kind = 2
  · rw [if_pos h2] at hf ⊢
    dsimp only at hf ⊢
    split
    · exact ⟨h, Next.refl c⟩
    · rename_i hx
      rw [if_neg hx] at hf
      exact ⟨{ fine := hf, lp := fun u x e => h.lp u x (by rw [← ownp _ rfl u]; exact e), lc := h.lc, lk1 := h.lk1, lk2 := h.lk2, la := fun u x e => h.la u x (by rw [← ownp _ rfl u]; exact e), kc := h.kc, kd := h.kd
               kp := fun u p hp => by
                 rcases mem_inner_setT hp with hp | ⟨_, rfl⟩
                 · exact h.kp u p hp
                 · exact ⟨hk.2.2.1, hn⟩ },
        ⟨rfl, rfl, rfl, Int.le_refl _, fun u x e => (ownp _ rfl u).trans e, fun _ _ e => e, fun _ _ e => .inl e, fun hd => ⟨hd, rfl⟩⟩⟩
  rw [if_neg h2] at hf ⊢
  by_cases h3 : v.kind = 3
  · rw [if_pos h3] at hf ⊢
    dsimp only at hf ⊢
    split
    · exact ⟨h, Next.refl c⟩
    · rename_i hx
      rw [if_neg hx] at hf
      exact ⟨{ fine := hf, lp := h.lp, lc := fun u x e => h.lc u x (by rw [← ownc _ rfl u]; exact e), lk1 := fun u x e => h.lk1 u x (by rw [← ownc _ rfl u]; exact e), lk2 := fun hl => (ownc _ rfl _).trans (h.lk2 hl), la := h.la, kp := h.kp, kd := h.kd
               kc := fun u p hp => by
                 rcases mem_inner_setT hp with hp | ⟨_, rfl⟩
                 · exact h.kc u p hp
                 · exact ⟨hk.2.2.1, hn⟩ },
        ⟨rfl, rfl, rfl, Int.le_refl _, fun _ _ e => e, fun u x e => (ownc _ rfl u).trans e, fun u x e => .inl ((ownc _ rfl u).symm.trans e), fun hd => ⟨hd, rfl⟩⟩⟩
  rw [if_neg h3] at hf ⊢
  by_cases h5 : v.kind = 5
  · rw [if_pos h5] at hf ⊢
    dsimp only at hf ⊢
    split
    · exact ⟨h, Next.refl c⟩
    · rename_i hx
      rw [if_neg hx] at hf
      exact ⟨h.quiet hf ⟨rfl, rfl, rfl, rfl, rfl, rfl, rfl⟩ (Int.le_refl _), Next.quiet ⟨rfl, rfl, rfl, rfl, rfl⟩ (Int.le_refl _) (fun hd => ⟨hd, rfl⟩)⟩
  rw [if_neg h5] at hf ⊢
  split
  · exact ⟨h, Next.refl c⟩
  · rename_i hx
    rw [if_neg hx] at hf
    exact ⟨{ fine := hf, lp := h.lp, lc := h.lc, lk1 := h.lk1, lk2 := h.lk2, la := h.la, kp := h.kp, kc := h.kc
             kd := fun p hp => by
               rcases mem_put hp with rfl | ⟨hp, _⟩
               · exact ⟨hk.2.2.1, hn⟩
               · exact h.kd p hp },
      Next.quiet ⟨rfl, rfl, rfl, rfl, rfl⟩ (Int.le_refl _) (fun hd => ⟨hd, rfl⟩)⟩
theorem see_loc (h : Loc acc c) {v : Vote} (hv : v.okB = true) : Loc acc (c.see v) ∧ Next c (c.see v) := by
  have hf := h.fine.see hv
  unfold see at hf ⊢
  split
  · exact ⟨h, Next.refl c⟩
  · rename_i hx
    rw [if_neg hx] at hf
    exact ⟨h.quiet hf ⟨rfl, rfl, rfl, rfl, rfl, rfl, rfl⟩ (Int.le_refl _), Next.quiet ⟨rfl, rfl, rfl, rfl, rfl⟩ (Int.le_refl _) (fun hd => ⟨hd, rfl⟩)⟩
theorem take_cases (acc : List UInt8 → Bool) (c : CoreM) (v : Vote) : c.take acc v = (false, c) ∨ (v.slot = c.slot ∧ v.frm ≤ c.n ∧ v.frm ≠ c.me ∧ v.okB = true ∧ (c.know v).1 = true ∧ c.take acc v = (true, settle acc (see (c.know v).2 v))) := by
  unfold take
  by_cases h1 : v.slot = c.slot
  · by_cases h2 : c.n < v.frm
    · left; simp [h2]
    · by_cases h3 : v.frm = c.me
      · left; simp [h3]
      · have e : (v.slot != c.slot || decide (c.n < v.frm) || v.frm == c.me) = false := by simp [h1, h3]; omega
        rw [e]
        cases h4 : v.okB with
        | false => left; rfl
        | true =>
          cases h5 : (c.know v).1 with
          | false => left; rfl
          | true => right; exact ⟨h1, by omega, h3, rfl, rfl, rfl⟩
  · left; simp [h1]
theorem take_loc (h : Loc acc c) (v : Vote) : Loc acc (c.take acc v).2 ∧ Next c (c.take acc v).2 := by
  rcases take_cases acc c v with e | ⟨_, hn, hm, hv, _, e⟩
  · rw [e]; exact ⟨h, Next.refl c⟩
  · rw [e]
    obtain ⟨a1, b1⟩ := know_loc h hv hn hm
    obtain ⟨a2, b2⟩ := see_loc a1 hv
    obtain ⟨a3, b3⟩ := settle_loc a2
    exact ⟨a3, (b1.trans b2).trans b3⟩
end CoreM
end Go.Proofs.Ytkkmkkgjpmlhaaa
