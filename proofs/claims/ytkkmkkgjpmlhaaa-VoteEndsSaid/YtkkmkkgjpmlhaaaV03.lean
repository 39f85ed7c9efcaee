/- What holds of each core by itself, whatever it does. Peers of whom few are wrong: what holds whatever happens; one value. No program in sight. How a law's arguments are opened. All peers tell one another all. No program in sight. -/
import Derived.Test.YtkkmkkgjpmlhaaaV02
import Derived.Test.YtkkmkkgjpmlhaaaV00
import Derived.ProofKit
import Derived.OpenShut
import Derived.ChangeOld
import Derived.Below
import Derived.KernelRfl
namespace Go.Proofs.Ytkkmkkgjpmlhaaa
namespace CoreM
variable {acc : List UInt8 → Bool} {c c' : CoreM}

theorem Loc.quiet (h : Loc acc c) (hf : c'.Fine) (e : c'.n = c.n ∧ c'.me = c.me ∧ c'.preps = c.preps ∧ c'.comms = c.comms ∧ c'.decs = c.decs ∧ c'.lock = c.lock ∧ c'.locked = c.locked) (hv : c.view ≤ c'.view) : Loc acc c' := by
  obtain ⟨e1, e2, e3, e4, e5, e6, e7⟩ := e
  have ep : ∀ v, c'.ownP v = c.ownP v := fun v => by unfold ownP; rw [e2, e3]
  have ec : ∀ v, c'.ownC v = c.ownC v := fun v => by unfold ownC; rw [e2, e4]
  exact { fine := hf
          lp := fun v x hx => Int.le_trans (h.lp v x (by rw [← ep]; exact hx)) hv
          lc := fun v x hx => Int.le_trans (h.lc v x (by rw [← ec]; exact hx)) hv
          lk1 := fun v x hx => by rw [e6]; exact h.lk1 v x (by rw [← ec]; exact hx)
          lk2 := fun hl => by rw [e6] at hl; rw [ec, e6, e7]; exact h.lk2 hl
          la := fun v x hx => h.la v x (by rw [← ep]; exact hx)
          kp := fun v p hp => by rw [e1]; rw [e3] at hp; exact h.kp v p hp
          kc := fun v p hp => by rw [e1]; rw [e4] at hp; exact h.kc v p hp
          kd := fun p hp => by rw [e1]; rw [e5] at hp; exact h.kd p hp }
theorem Next.quiet (e : c'.n = c.n ∧ c'.me = c.me ∧ c'.slot = c.slot ∧ c'.preps = c.preps ∧ c'.comms = c.comms) (hv : c.view ≤ c'.view) (hd : c.decided = true → c'.decided = true ∧ c'.value = c.value) : Next c c' := by
  obtain ⟨e1, e2, e3, e4, e5⟩ := e
  have ep : ∀ v, c'.ownP v = c.ownP v := fun v => by unfold ownP; rw [e2, e4]
  have ec : ∀ v, c'.ownC v = c.ownC v := fun v => by unfold ownC; rw [e2, e5]
  exact ⟨e1, e2, e3, hv, fun v x h => by rw [ep]; exact h, fun v x h => by rw [ec]; exact h, fun v x h => by rw [ec] at h; exact .inl h, hd⟩

theorem mem_inner_setT {t : TM} {view who v : Int} {l : List UInt8} {p : Int × List UInt8} (h : p ∈ inner (setT t view who l) v) : p ∈ inner t v ∨ (v = view ∧ p = (who, l)) := by
  unfold inner setT at h
  rw [lookup_put] at h
  by_cases e : v = view
  · subst e
    rw [if_pos rfl, Option.getD_some] at h
    rcases mem_put h with e | ⟨h, _⟩
    · exact .inr ⟨rfl, e⟩
    · exact .inl h
  · rw [if_neg e] at h
    exact .inl h

theorem ownC_nonneg (hf : c.Fine) {v : Int} {x : List UInt8} (h : c.ownC v = some x) : 0 ≤ v := by
  unfold ownC inner at h
  cases hl : c.comms.lookup v with
  | none => rw [hl] at h; cases h
  | some u => exact (hf.comms.1.2 _ (lookup_mem hl)).1

/-- The Prepare is told. -/
theorem ownP_prepare (x : List UInt8) (v : Int) : ({ c with preps := setT c.preps c.view c.me x } : CoreM).ownP v = if v = c.view then some x else c.ownP v := by
  unfold ownP
  dsimp only
  rw [lookup_inner_setT]
  by_cases h : v = c.view <;> simp [h]
theorem ownC_commit (x : List UInt8) (v : Int) : ({ c with lock := c.view, locked := x, comms := setT c.comms c.view c.me x } : CoreM).ownC v = if v = c.view then some x else c.ownC v := by
  unfold ownC
  dsimp only
  rw [lookup_inner_setT]
  by_cases h : v = c.view <;> simp [h]
theorem hasT_none {t : TM} {v who : Int} (h : hasT t v who = false) : (inner t v).lookup who = none := by
  unfold hasT at h
  cases hl : (inner t v).lookup who with
  | none => rfl
  | some x => rw [hl] at h; cases h

theorem fit_acc {p : List UInt8 × Int} (h : c.fit acc p = true) : acc p.1 = true := by
  unfold fit at h
  cases ha : acc p.1 with
  | true => rfl
  | false => rw [ha] at h; simp at h

theorem prepare_loc (h : Loc acc c) (hs : c.prepare acc = some c') : Loc acc c' ∧ Next c c' := by
  have hf := h.fine.prepare hs
  obtain ⟨p, hp, hn, hfit, rfl⟩ := prepare_some hs
  have hno : c.ownP c.view = none := hasT_none hn
  refine ⟨{ fine := hf, lp := fun v x hx => ?_, lc := h.lc, lk1 := h.lk1, lk2 := h.lk2, la := fun v x hx => ?_, kp := fun v q hq => ?_, kc := h.kc, kd := h.kd }, ⟨rfl, rfl, rfl, Int.le_refl _, fun v x hx => ?_, fun _ _ hx => hx, fun _ _ hx => .inl hx, fun hd => ⟨hd, rfl⟩⟩⟩
  · rw [ownP_prepare] at hx
    split at hx
    · rename_i e; subst e; exact Int.le_refl _
    · exact h.lp v x hx
  · rw [ownP_prepare] at hx
    split at hx
    · cases hx; exact fit_acc hfit
    · exact h.la v x hx
  · rcases mem_inner_setT hq with hq | ⟨_, rfl⟩
    · exact h.kp v q hq
    · exact ⟨h.fine.ok.me0, h.fine.ok.me1⟩
  · rw [ownP_prepare]
    split
    · rename_i e; subst e; rw [hno] at hx; cases hx
    · exact hx
theorem commit_loc (h : Loc acc c) (hs : c.commit = some c') : Loc acc c' ∧ Next c c' := by
  have hf := h.fine.commit hs
  obtain ⟨x0, hp, hn, rfl⟩ := commit_some hs
  have hno : c.ownC c.view = none := hasT_none hn
  refine ⟨{ fine := hf, lp := h.lp, lc := fun v x hx => ?_, lk1 := fun v x hx => ?_, lk2 := fun _ => ?_, la := h.la, kp := h.kp, kc := fun v q hq => ?_, kd := h.kd }, ⟨rfl, rfl, rfl, Int.le_refl _, fun _ _ hx => hx, fun v x hx => ?_, fun v x hx => ?_, fun hd => ⟨hd, rfl⟩⟩⟩
  · rw [ownC_commit] at hx
    split at hx
    · rename_i e; subst e; exact Int.le_refl _
    · exact h.lc v x hx
  · rw [ownC_commit] at hx
    split at hx
    · rename_i e; subst e; exact Int.le_refl _
    · exact h.lc v x hx
  · rw [ownC_commit, if_pos rfl]
  · rcases mem_inner_setT hq with hq | ⟨_, rfl⟩
    · exact h.kc v q hq
    · exact ⟨h.fine.ok.me0, h.fine.ok.me1⟩
  · rw [ownC_commit]
    split
    · rename_i e; subst e; rw [hno] at hx; cases hx
    · exact hx
  · rw [ownC_commit] at hx
    split at hx
    · rename_i e; subst e; exact .inr ⟨hno, Int.le_refl _⟩
    · exact .inl hx
theorem turn_loc (h : Loc acc c) (hs : c.turn = some c') : Loc acc c' ∧ Next c c' := by
  have hf := h.fine.turn hs
  obtain ⟨x, _, hx, rfl⟩ := turn_some hs
  exact ⟨h.quiet hf ⟨rfl, rfl, rfl, rfl, rfl, rfl, rfl⟩ (Int.le_of_lt hx), Next.quiet ⟨rfl, rfl, rfl, rfl, rfl⟩ (Int.le_of_lt hx) (fun hd => ⟨hd, rfl⟩)⟩
theorem propose_loc (h : Loc acc c) (hs : c.propose = some c') : Loc acc c' ∧ Next c c' := by
  have hf := h.fine.propose hs
  obtain ⟨_, _, ⟨view, v, _, rfl⟩ | ⟨_, _, rfl⟩⟩ := propose_some hs
  all_goals exact ⟨h.quiet hf ⟨rfl, rfl, rfl, rfl, rfl, rfl, rfl⟩ (Int.le_refl _), Next.quiet ⟨rfl, rfl, rfl, rfl, rfl⟩ (Int.le_refl _) (fun hd => ⟨hd, rfl⟩)⟩
theorem decide_loc (h : Loc acc c) (hd : c.decided = false) (hs : c.decide_ = some c') : Loc acc c' ∧ Next c c' := by
  have hf := h.fine.decide_ hs
  obtain ⟨v, rfl, _⟩ := decide_some hs
  exact ⟨h.quiet hf ⟨rfl, rfl, rfl, rfl, rfl, rfl, rfl⟩ (Int.le_refl _), Next.quiet ⟨rfl, rfl, rfl, rfl, rfl⟩ (Int.le_refl _) (fun e => by rw [hd] at e; cases e)⟩
theorem undecided_loc (h : Loc acc c) (hd : c.decided = false) : Loc acc c.undecided ∧ Next c c.undecided :=
  ⟨h.quiet h.fine.undecided ⟨rfl, rfl, rfl, rfl, rfl, rfl, rfl⟩ (Int.le_refl _), Next.quiet ⟨rfl, rfl, rfl, rfl, rfl⟩ (Int.le_refl _) (fun e => by rw [hd] at e; cases e)⟩
theorem step_loc (h : Loc acc c) (hd : c.decided = false) (hs : c.step acc = some c') : Loc acc c' ∧ Next c c' := by
  rcases step_some hs with e | ⟨_, e⟩ | ⟨_, _, e⟩ | ⟨_, _, _, e⟩ | ⟨_, _, _, _, e⟩
  · exact turn_loc h e
  · exact propose_loc h e
  · exact prepare_loc h e
  · exact commit_loc h e
  · exact decide_loc h hd e
/-- Something that each step keeps is kept by all that a core can do. -/
theorem acts_keep (Q : CoreM → Prop) (hs : ∀ c c', Q c → c.decided = false → c.step acc = some c' → Q c') (hu : ∀ c, Q c → c.decided = false → Q c.undecided) : ∀ (k : Nat) (c : CoreM), Q c → Q (acts acc k c)
  | 0, _, h => h
  | k + 1, c, h => by
    unfold acts
    cases hd : c.decided with
    | true => exact h
    | false =>
      rw [if_neg (by decide)]
      cases he : c.step acc with
      | none => exact hu c h hd
      | some c' => exact acts_keep Q hs hu k c' (hs c c' h hd he)
theorem settle_keep (Q : CoreM → Prop) (hs : ∀ c c', Q c → c.decided = false → c.step acc = some c' → Q c') (hu : ∀ c, Q c → c.decided = false → Q c.undecided) (h : Q c) : Q (c.settle acc) := acts_keep Q hs hu _ c h
theorem settle_loc (h : Loc acc c) : Loc acc (c.settle acc) ∧ Next c (c.settle acc) :=
  settle_keep (fun d => Loc acc d ∧ Next c d) (fun d d' hd hu hs => by obtain ⟨a, b⟩ := step_loc hd.1 hu hs; exact ⟨a, hd.2.trans b⟩) (fun d hd hu => by obtain ⟨a, b⟩ := undecided_loc hd.1 hu; exact ⟨a, hd.2.trans b⟩) ⟨h, Next.refl c⟩

theorem late_loc (h : Loc acc c) : Loc acc (c.late acc) ∧ Next c (c.late acc) := by
  unfold late
  split
  · rename_i hc
    simp only [Bool.and_eq_true, Bool.not_eq_true', decide_eq_true_eq] at hc
    have h1 : Loc acc { c with view := c.view + 1 } := h.quiet (h.fine.nextView hc.2) ⟨rfl, rfl, rfl, rfl, rfl, rfl, rfl⟩ (by dsimp only; omega)
    obtain ⟨a, b⟩ := settle_loc h1
    have n1 : Next c { c with view := c.view + 1 } := Next.quiet ⟨rfl, rfl, rfl, rfl, rfl⟩ (by dsimp only; omega) (fun hd => ⟨hd, rfl⟩)
    exact ⟨a, n1.trans b⟩
  · exact ⟨h, Next.refl c⟩
theorem ask_loc (h : Loc acc c) (l : List UInt8) : Loc acc (c.ask acc l) ∧ Next c (c.ask acc l) := by
  unfold ask
  split
  · exact ⟨h, Next.refl c⟩
  · rename_i hc
    simp only [Bool.or_eq_true, not_or, Bool.not_eq_true, decide_eq_false_iff_not] at hc
    have h1 : Loc acc { c with wish := l, wishes := true } := h.quiet (h.fine.wishFor (show l.length ≤ 268435456 by omega)) ⟨rfl, rfl, rfl, rfl, rfl, rfl, rfl⟩ (Int.le_refl _)
    obtain ⟨a, b⟩ := settle_loc h1
    have n1 : Next c { c with wish := l, wishes := true } := Next.quiet ⟨rfl, rfl, rfl, rfl, rfl⟩ (Int.le_refl _) (fun hd => ⟨hd, rfl⟩)
    exact ⟨a, n1.trans b⟩

/-- What another one told is known. -/
theorem know_loc (h : Loc acc c) {v : Vote} (hv : v.okB = true) (hn : v.frm ≤ c.n) (hm : v.frm ≠ c.me) : Loc acc (c.know v).2 ∧ Next c (c.know v).2 := by
  have hf := h.fine.know hv
  have hk := (okB_iff v).1 hv
  have ownp : ∀ (t : TM), t = setT c.preps v.view v.frm v.value → ∀ u, (inner t u).lookup c.me = c.ownP u := fun t e u => by
    rw [e, lookup_inner_setT, if_neg (fun e => hm e.2.symm)]; rfl
  have ownc : ∀ (t : TM), t = setT c.comms v.view v.frm v.value → ∀ u, (inner t u).lookup c.me = c.ownC u := fun t e u => by
    rw [e, lookup_inner_setT, if_neg (fun e => hm e.2.symm)]; rfl
  unfold know at hf ⊢
  by_cases h1 : v.kind = 1
  · rw [if_pos h1] at hf ⊢
    split
    · exact ⟨h, Next.refl c⟩
    · rename_i hx
      rw [if_neg hx] at hf
      exact ⟨h.quiet hf ⟨rfl, rfl, rfl, rfl, rfl, rfl, rfl⟩ (Int.le_refl _), Next.quiet ⟨rfl, rfl, rfl, rfl, rfl⟩ (Int.le_refl _) (fun hd => ⟨hd, rfl⟩)⟩
  rw [if_neg h1] at hf ⊢
  by_cases h2 : v.kind = 2
  · rw [if_pos h2] at hf ⊢
    dsimp only at hf ⊢
    split
    · exact ⟨h, Next.refl c⟩
    · rename_i hx
      rw [if_neg hx] at hf
      exact ⟨{ fine := hf, lp := fun u x e => h.lp u x (by rw [← ownp _ rfl u]; exact e), lc := h.lc, lk1 := h.lk1, lk2 := h.lk2, la := fun u x e => h.la u x (by rw [← ownp _ rfl u]; exact e), kc := h.kc, kd := h.kd
               kp := fun u p hp => by
                 rcases mem_inner_setT hp with hp | ⟨_, rfl⟩
                 · exact h.kp u p hp
                 · exact ⟨hk.2.2.1, hn⟩ },
        ⟨rfl, rfl, rfl, Int.le_refl _, fun u x e => (ownp _ rfl u).trans e, fun _ _ e => e, fun _ _ e => .inl e, fun hd => ⟨hd, rfl⟩⟩⟩
  rw [if_neg h2] at hf ⊢
  by_cases h3 : v.kind = 3
  · rw [if_pos h3] at hf ⊢
    dsimp only at hf ⊢
    split
    · exact ⟨h, Next.refl c⟩
    · rename_i hx
      rw [if_neg hx] at hf
      exact ⟨{ fine := hf, lp := h.lp, lc := fun u x e => h.lc u x (by rw [← ownc _ rfl u]; exact e), lk1 := fun u x e => h.lk1 u x (by rw [← ownc _ rfl u]; exact e), lk2 := fun hl => (ownc _ rfl _).trans (h.lk2 hl), la := h.la, kp := h.kp, kd := h.kd
               kc := fun u p hp => by
                 rcases mem_inner_setT hp with hp | ⟨_, rfl⟩
                 · exact h.kc u p hp
                 · exact ⟨hk.2.2.1, hn⟩ },
        ⟨rfl, rfl, rfl, Int.le_refl _, fun _ _ e => e, fun u x e => (ownc _ rfl u).trans e, fun u x e => .inl ((ownc _ rfl u).symm.trans e), fun hd => ⟨hd, rfl⟩⟩⟩
  rw [if_neg h3] at hf ⊢
  by_cases h5 : v.kind = 5
  · rw [if_pos h5] at hf ⊢
    dsimp only at hf ⊢
    split
    · exact ⟨h, Next.refl c⟩
    · rename_i hx
      rw [if_neg hx] at hf
      exact ⟨h.quiet hf ⟨rfl, rfl, rfl, rfl, rfl, rfl, rfl⟩ (Int.le_refl _), Next.quiet ⟨rfl, rfl, rfl, rfl, rfl⟩ (Int.le_refl _) (fun hd => ⟨hd, rfl⟩)⟩
  rw [if_neg h5] at hf ⊢
  split
  · exact ⟨h, Next.refl c⟩
  · rename_i hx
    rw [if_neg hx] at hf
    exact ⟨{ fine := hf, lp := h.lp, lc := h.lc, lk1 := h.lk1, lk2 := h.lk2, la := h.la, kp := h.kp, kc := h.kc
             kd := fun p hp => by
               rcases mem_put hp with rfl | ⟨hp, _⟩
               · exact ⟨hk.2.2.1, hn⟩
               · exact h.kd p hp },
      Next.quiet ⟨rfl, rfl, rfl, rfl, rfl⟩ (Int.le_refl _) (fun hd => ⟨hd, rfl⟩)⟩
theorem see_loc (h : Loc acc c) {v : Vote} (hv : v.okB = true) : Loc acc (c.see v) ∧ Next c (c.see v) := by
  have hf := h.fine.see hv
  unfold see at hf ⊢
  split
  · exact ⟨h, Next.refl c⟩
  · rename_i hx
    rw [if_neg hx] at hf
    exact ⟨h.quiet hf ⟨rfl, rfl, rfl, rfl, rfl, rfl, rfl⟩ (Int.le_refl _), Next.quiet ⟨rfl, rfl, rfl, rfl, rfl⟩ (Int.le_refl _) (fun hd => ⟨hd, rfl⟩)⟩
theorem take_cases (acc : List UInt8 → Bool) (c : CoreM) (v : Vote) : c.take acc v = (false, c) ∨ (v.slot = c.slot ∧ v.frm ≤ c.n ∧ v.frm ≠ c.me ∧ v.okB = true ∧ (c.know v).1 = true ∧ c.take acc v = (true, settle acc (see (c.know v).2 v))) := by
  unfold take
  by_cases h1 : v.slot = c.slot
  · by_cases h2 : c.n < v.frm
    · left; simp [h2]
    · by_cases h3 : v.frm = c.me
      · left; simp [h3]
      · have e : (v.slot != c.slot || decide (c.n < v.frm) || v.frm == c.me) = false := by simp [h1, h3]; omega
        rw [e]
        cases h4 : v.okB with
        | false => left; rfl
        | true =>
          cases h5 : (c.know v).1 with
          | false => left; rfl
          | true => right; exact ⟨h1, by omega, h3, rfl, rfl, rfl⟩
  · left; simp [h1]
theorem take_loc (h : Loc acc c) (v : Vote) : Loc acc (c.take acc v).2 ∧ Next c (c.take acc v).2 := by
  rcases take_cases acc c v with e | ⟨_, hn, hm, hv, _, e⟩
  · rw [e]; exact ⟨h, Next.refl c⟩
  · rw [e]
    obtain ⟨a1, b1⟩ := know_loc h hv hn hm
    obtain ⟨a2, b2⟩ := see_loc a1 hv
    obtain ⟨a3, b3⟩ := settle_loc a2
    exact ⟨a3, (b1.trans b2).trans b3⟩
end CoreM
end Go.Proofs.Ytkkmkkgjpmlhaaa
namespace Go.Proofs.Ytkkmkkgjpmlhaaa

/-- The cores, one of them another. -/
def upd (P : Nat → CoreM) (j : Nat) (c : CoreM) : Nat → CoreM := fun k => if k = j then c else P k
theorem upd_same (P : Nat → CoreM) (j : Nat) (c : CoreM) : upd P j c j = c := if_pos rfl
theorem upd_other (P : Nat → CoreM) {j k : Nat} (c : CoreM) (h : k ≠ j) : upd P j c k = P k := if_neg h
theorem upd_self (P : Nat → CoreM) (j : Nat) : upd P j (P j) = P := by funext k; unfold upd; split <;> simp_all
theorem upd_upd (P : Nat → CoreM) (j : Nat) (c d : CoreM) : upd (upd P j c) j d = upd P j d := by funext k; unfold upd; split <;> rfl

/-- A quorum told a Prepare, a Commit; a quorum may have told a Commit, or may yet. -/
def Prep (n : Nat) (wrong : Nat → Bool) (P : Nat → CoreM) (v : Int) (x : List UInt8) : Prop := n - (n - 1) / 3 ≤ cnt n (fun j => wrong j || (P j).ownP v == some x)
def Comm (n : Nat) (wrong : Nat → Bool) (P : Nat → CoreM) (v : Int) (x : List UInt8) : Prop := n - (n - 1) / 3 ≤ cnt n (fun j => wrong j || (P j).ownC v == some x)
def Pot (n : Nat) (wrong : Nat → Bool) (P : Nat → CoreM) (v : Int) (x : List UInt8) : Prop := n - (n - 1) / 3 ≤ cnt n (fun j => wrong j || ((P j).ownC v == some x || (decide ((P j).view ≤ v) && (P j).ownC v == none)))

section
variable {n : Nat} {wrong : Nat → Bool} {acc : List UInt8 → Bool} {slot : Int} {P : Nat → CoreM} {j : Nat} {c : CoreM}
theorem Prep.upd {v : Int} {x : List UInt8} (h : Prep n wrong P v x) (hn : CoreM.Next (P j) c) : Prep n wrong (upd P j c) v x :=
  Nat.le_trans h (cnt_mono fun k _ hk => by
    simp only [Bool.or_eq_true, beq_iff_eq] at hk ⊢
    refine hk.imp id (fun e => ?_)
    unfold Ytkkmkkgjpmlhaaa.upd
    split
    · rename_i e2; subst e2; exact hn.keepP v x e
    · exact e)
theorem Comm.upd {v : Int} {x : List UInt8} (h : Comm n wrong P v x) (hn : CoreM.Next (P j) c) : Comm n wrong (upd P j c) v x :=
  Nat.le_trans h (cnt_mono fun k _ hk => by
    simp only [Bool.or_eq_true, beq_iff_eq] at hk ⊢
    refine hk.imp id (fun e => ?_)
    unfold Ytkkmkkgjpmlhaaa.upd
    split
    · rename_i e2; subst e2; exact hn.keepC v x e
    · exact e)
theorem Pot.upd {v : Int} {x : List UInt8} (h : Pot n wrong (upd P j c) v x) (hn : CoreM.Next (P j) c) : Pot n wrong P v x :=
  Nat.le_trans h (cnt_mono fun k _ hk => by
    unfold Ytkkmkkgjpmlhaaa.upd at hk
    simp only [Bool.or_eq_true, Bool.and_eq_true, beq_iff_eq, decide_eq_true_eq] at hk ⊢
    refine hk.imp id (fun e => ?_)
    split at e
    · rename_i e2
      subst e2
      rcases e with e | ⟨e1, e2⟩
      · rcases hn.fresh v x e with e | ⟨e, e3⟩
        · exact .inl e
        · exact .inr ⟨e3, e⟩
      · refine .inr ⟨Int.le_trans hn.view e1, ?_⟩
        cases h0 : (P k).ownC v with
        | none => rfl
        | some y => rw [hn.keepC v y h0] at e2; cases e2
    · exact e)
theorem Comm.pot {v : Int} {x : List UInt8} (h : Comm n wrong P v x) : Pot n wrong P v x :=
  Nat.le_trans h (cnt_mono fun k _ hk => by
    simp only [Bool.or_eq_true, beq_iff_eq] at hk ⊢
    exact hk.imp id .inl)

/-- What holds of all peers. -/
structure Peers (n : Nat) (slot : Int) (wrong : Nat → Bool) (acc : List UInt8 → Bool) (P : Nat → CoreM) : Prop where
  n4 : 4 ≤ n
  few : cnt n wrong ≤ (n - 1) / 3
  ids : ∀ j, j < n → (P j).n = n ∧ (P j).me = (j : Int) + 1 ∧ (P j).slot = slot
  loc : ∀ j, j < n → CoreM.Loc acc (P j)
  gp : ∀ i j, i < n → j < n → wrong j = false → ∀ v x, (inner (P i).preps v).lookup ((j : Int) + 1) = some x → (P j).ownP v = some x
  gc : ∀ i j, i < n → j < n → wrong j = false → ∀ v x, (inner (P i).comms v).lookup ((j : Int) + 1) = some x → (P j).ownC v = some x
  gd : ∀ i j, i < n → j < n → wrong j = false → ∀ x, (P i).decs.lookup ((j : Int) + 1) = some x → (P j).decided = true ∧ (P j).value = x
  g2 : ∀ j, j < n → ∀ v x, (P j).ownC v = some x → Prep n wrong P v x
  gt : ∀ j, j < n → ∀ r r' x x', r < r' → (P j).ownP r' = some x' → (P j).ownC r = some x → Pot n wrong P r x → x' = x
  gdec : ∀ j, j < n → (P j).decided = true → ∃ r, Comm n wrong P r (P j).value

/-- One of them goes on. -/
theorem Peers.move (h : Peers n slot wrong acc P) (hj : j < n) (hn : CoreM.Next (P j) c) (hl : CoreM.Loc acc c)
    (hp : ∀ k, k < n → wrong k = false → ∀ v x, (inner c.preps v).lookup ((k : Int) + 1) = some x → (inner (P j).preps v).lookup ((k : Int) + 1) = some x ∨ k = j ∨ (P k).ownP v = some x)
    (hc : ∀ k, k < n → wrong k = false → ∀ v x, (inner c.comms v).lookup ((k : Int) + 1) = some x → (inner (P j).comms v).lookup ((k : Int) + 1) = some x ∨ k = j ∨ (P k).ownC v = some x)
    (hd : ∀ k, k < n → wrong k = false → ∀ x, c.decs.lookup ((k : Int) + 1) = some x → (P j).decs.lookup ((k : Int) + 1) = some x ∨ ((P k).decided = true ∧ (P k).value = x))
    (hg2 : ∀ v x, c.ownC v = some x → (P j).ownC v = some x ∨ Prep n wrong P v x)
    (hgt : ∀ r r' x x', r < r' → c.ownP r' = some x' → c.ownC r = some x → Pot n wrong P r x → ((P j).ownP r' = some x' ∧ (P j).ownC r = some x) ∨ x' = x)
    (hdec : c.decided = true → (P j).decided = true ∨ ∃ r, Comm n wrong P r c.value) : Peers n slot wrong acc (upd P j c) := by
  have keepP : ∀ k v x, (P k).ownP v = some x → (upd P j c k).ownP v = some x := fun k v x e => by
    unfold upd; split
    · rename_i e2; subst e2; exact hn.keepP v x e
    · exact e
  have keepC : ∀ k v x, (P k).ownC v = some x → (upd P j c k).ownC v = some x := fun k v x e => by
    unfold upd; split
    · rename_i e2; subst e2; exact hn.keepC v x e
    · exact e
  have keepD : ∀ k, (P k).decided = true → (upd P j c k).decided = true ∧ (upd P j c k).value = (P k).value := fun k e => by
    unfold upd; split
    · rename_i e2; subst e2; exact hn.keepD e
    · exact ⟨e, rfl⟩
  have hids := h.ids j hj
  refine { n4 := h.n4, few := h.few, ids := fun k hk => ?_, loc := fun k hk => ?_, gp := fun i k hi hk hw v x e => ?_, gc := fun i k hi hk hw v x e => ?_, gd := fun i k hi hk hw x e => ?_, g2 := fun k hk v x e => ?_, gt := fun k hk r r' x x' hr e1 e2 hpot => ?_, gdec := fun k hk e => ?_ }
  · unfold upd; split
    · rename_i e2; subst e2; rw [hn.n, hn.me, hn.slot]; exact hids
    · exact h.ids k hk
  · unfold upd; split
    · exact hl
    · exact h.loc k hk
  · by_cases hij : i = j
    · subst hij
      rw [upd_same] at e
      rcases hp k hk hw v x e with e | rfl | e
      · exact keepP k v x (h.gp i k hi hk hw v x e)
      · rw [upd_same]; unfold CoreM.ownP; rw [hn.me, hids.2.1]; exact e
      · exact keepP k v x e
    · rw [upd_other _ _ hij] at e
      exact keepP k v x (h.gp i k hi hk hw v x e)
  · by_cases hij : i = j
    · subst hij
      rw [upd_same] at e
      rcases hc k hk hw v x e with e | rfl | e
      · exact keepC k v x (h.gc i k hi hk hw v x e)
      · rw [upd_same]; unfold CoreM.ownC; rw [hn.me, hids.2.1]; exact e
      · exact keepC k v x e
    · rw [upd_other _ _ hij] at e
      exact keepC k v x (h.gc i k hi hk hw v x e)
  · have key : (P k).decided = true ∧ (P k).value = x := by
      by_cases hij : i = j
      · subst hij
        rw [upd_same] at e
        rcases hd k hk hw x e with e | e
        · exact h.gd i k hi hk hw x e
        · exact e
      · rw [upd_other _ _ hij] at e
        exact h.gd i k hi hk hw x e
    obtain ⟨a, b⟩ := keepD k key.1
    exact ⟨a, b.trans key.2⟩
  · by_cases hkj : k = j
    · subst hkj
      rw [upd_same] at e
      rcases hg2 v x e with e | e
      · exact (h.g2 k hk v x e).upd hn
      · exact e.upd hn
    · rw [upd_other _ _ hkj] at e
      exact (h.g2 k hk v x e).upd hn
  · have hpot' := hpot.upd hn
    by_cases hkj : k = j
    · subst hkj
      rw [upd_same] at e1 e2
      rcases hgt r r' x x' hr e1 e2 hpot' with ⟨e1, e2⟩ | e
      · exact h.gt k hk r r' x x' hr e1 e2 hpot'
      · exact e
    · rw [upd_other _ _ hkj] at e1 e2
      exact h.gt k hk r r' x x' hr e1 e2 hpot'
  · by_cases hkj : k = j
    · subst hkj
      rw [upd_same] at e ⊢
      rcases hdec e with e2 | ⟨r, hr⟩
      · obtain ⟨r, hr⟩ := h.gdec k hk e2
        rw [(hn.keepD e2).2]
        exact ⟨r, hr.upd hn⟩
      · exact ⟨r, hr.upd hn⟩
    · rw [upd_other _ _ hkj] at e ⊢
      obtain ⟨r, hr⟩ := h.gdec k hk e
      exact ⟨r, hr.upd hn⟩

/-- What it knows of Prepares and Commits stays, the lock and what is decided too. -/
theorem Peers.quiet (h : Peers n slot wrong acc P) (hj : j < n) (hn : CoreM.Next (P j) c) (hl : CoreM.Loc acc c) (e : c.preps = (P j).preps ∧ c.comms = (P j).comms ∧ c.decs = (P j).decs) (hd : c.decided = true → (P j).decided = true) :
    Peers n slot wrong acc (upd P j c) := by
  obtain ⟨e1, e2, e3⟩ := e
  have ep : ∀ v, c.ownP v = (P j).ownP v := fun v => by unfold CoreM.ownP; rw [e1, hn.me]
  have ec : ∀ v, c.ownC v = (P j).ownC v := fun v => by unfold CoreM.ownC; rw [e2, hn.me]
  exact h.move hj hn hl (fun k _ _ v x e => .inl (by rw [← e1]; exact e)) (fun k _ _ v x e => .inl (by rw [← e2]; exact e)) (fun k _ _ x e => .inl (by rw [← e3]; exact e)) (fun v x e => .inl (by rw [← ec]; exact e))
    (fun r r' x x' _ a b _ => .inl ⟨by rw [← ep]; exact a, by rw [← ec]; exact b⟩) (fun e => .inl (hd e))

theorem quorum_le {n m : Nat} {c : CoreM} (hn : c.n = n) (h : (m : Int) ≥ c.quorum) : n - (n - 1) / 3 ≤ m := by
  unfold CoreM.quorum at h
  rw [hn] at h
  omega

/-- What is prepared in its eyes is. -/
theorem Peers.prepared (h : Peers n slot wrong acc P) (hj : j < n) {v : Int} {x : List UInt8} (hp : (P j).prepared v = some x) : Prep n wrong P v x := by
  obtain ⟨_, hv⟩ := count_mem hp
  have hl := h.loc j hj
  have hids := h.ids j hj
  rw [votes_cnt (n := n) (hl.fine.preps.inner v).1.1 (fun p hp => by have := hl.kp v p hp; rw [hids.1] at this; exact this)] at hv
  refine Nat.le_trans (quorum_le hids.1 hv) (cnt_mono fun k hk e => ?_)
  cases hw : wrong k with
  | true => rfl
  | false =>
    have e : (inner (P j).preps v).lookup ((k : Int) + 1) = some x := by simpa using e
    simp [h.gp j k hj hk hw v x e]

theorem Peers.prep_one (h : Peers n slot wrong acc P) {v : Int} {x y : List UInt8} (hx : Prep n wrong P v x) (hy : Prep n wrong P v y) : x = y := by
  obtain ⟨k, _, _, e1, e2⟩ := quorum_meet h.n4 h.few hx hy
  rw [beq_iff_eq] at e1 e2
  rw [e1] at e2
  exact Option.some.inj e2

/-- If a quorum may have told a Commit, what is prepared later is the same. -/
theorem Peers.later (h : Peers n slot wrong acc P) {r r' : Int} {x x' : List UInt8} (hr : r < r') (hpot : Pot n wrong P r x) (hp : Prep n wrong P r' x') : x' = x := by
  obtain ⟨k, hk, _, e1, e2⟩ := quorum_meet h.n4 h.few hpot hp
  simp only [Bool.or_eq_true, Bool.and_eq_true, beq_iff_eq, decide_eq_true_eq] at e1 e2
  have hv := (h.loc k hk).lp r' x' e2
  rcases e1 with e1 | ⟨e1, _⟩
  · exact h.gt k hk r r' x x' hr e2 e1 hpot
  · omega

/-- It tells a Prepare. -/
theorem Peers.prepare (h : Peers n slot wrong acc P) (hj : j < n) (hs : (P j).prepare acc = some c) : Peers n slot wrong acc (upd P j c) := by
  have hl := h.loc j hj
  obtain ⟨hlc, hnx⟩ := CoreM.prepare_loc hl hs
  have hids := h.ids j hj
  obtain ⟨p, hp, hn, hfit, rfl⟩ := prepare_some hs
  refine h.move hj hnx hlc (fun k hk _ v x e => ?_) (fun k _ _ v x e => .inl e) (fun k _ _ x e => .inl e) (fun v x e => .inl e) (fun r r' x x' hr e1 e2 hpot => ?_) (fun e => .inl e)
  · dsimp only at e
    rw [lookup_inner_setT] at e
    split at e
    · rename_i e2; rw [hids.2.1] at e2; exact .inr (.inl (by omega))
    · exact .inl e
  · rw [CoreM.ownP_prepare] at e1
    split at e1
    · rename_i er
      subst er
      cases e1
      right
      change (P j).ownC r = some x at e2
      have hlk := hl.lk1 r x e2
      have hr0 := CoreM.ownC_nonneg hl.fine e2
      unfold CoreM.fit at hfit
      split at hfit
      · cases hfit
      · split at hfit
        · rename_i hc
          simp only [Bool.or_eq_true, decide_eq_true_eq, beq_iff_eq] at hc
          rcases hc with hc | hc
          · omega
          · have hlo := hl.lk2 (by omega)
            rw [hc]
            by_cases hrl : r = (P j).lock
            · rw [hrl, hlo] at e2; exact Option.some.inj e2
            · exact h.later (show r < (P j).lock by omega) hpot (h.g2 j hj _ _ hlo)
        · simp only [Bool.and_eq_true, decide_eq_true_eq, beq_iff_eq] at hfit
          obtain ⟨⟨f1, f2⟩, f3⟩ := hfit
          have hpp := h.prepared hj f3
          by_cases hrl : r = p.2
          · rw [hrl] at e2
            exact h.prep_one hpp (h.g2 j hj _ _ e2)
          · exact h.later (show r < p.2 by omega) hpot hpp
    · exact .inl ⟨e1, e2⟩

/-- It tells a Commit. -/
theorem Peers.commit (h : Peers n slot wrong acc P) (hj : j < n) (hs : (P j).commit = some c) : Peers n slot wrong acc (upd P j c) := by
  have hl := h.loc j hj
  obtain ⟨hlc, hnx⟩ := CoreM.commit_loc hl hs
  have hids := h.ids j hj
  obtain ⟨x0, hp, hn, rfl⟩ := commit_some hs
  refine h.move hj hnx hlc (fun k _ _ v x e => .inl e) (fun k hk _ v x e => ?_) (fun k _ _ x e => .inl e) (fun v x e => ?_) (fun r r' x x' hr e1 e2 hpot => ?_) (fun e => .inl e)
  · dsimp only at e
    rw [lookup_inner_setT] at e
    split at e
    · rename_i e2; rw [hids.2.1] at e2; exact .inr (.inl (by omega))
    · exact .inl e
  · rw [CoreM.ownC_commit] at e
    split at e
    · rename_i e2; subst e2; cases e; exact .inr (h.prepared hj hp)
    · exact .inl e
  · rw [CoreM.ownC_commit] at e2
    split at e2
    · rename_i er
      have := hl.lp r' x' e1
      omega
    · exact .inl ⟨e1, e2⟩

/-- It decides. -/
theorem Peers.decide_ (h : Peers n slot wrong acc P) (hj : j < n) (hd0 : (P j).decided = false) (hs : (P j).decide_ = some c) : Peers n slot wrong acc (upd P j c) := by
  have hl := h.loc j hj
  obtain ⟨hlc, hnx⟩ := CoreM.decide_loc hl hd0 hs
  have hids := h.ids j hj
  obtain ⟨y, rfl, hy⟩ := decide_some hs
  refine h.move hj hnx hlc (fun k _ _ v x e => .inl e) (fun k _ _ v x e => .inl e) (fun k _ _ x e => .inl e) (fun v x e => .inl e) (fun r r' x x' _ e1 e2 _ => .inl ⟨e1, e2⟩) (fun _ => .inr ?_)
  have byD : ∀ k, k < n → wrong k = false → (P j).decs.lookup ((k : Int) + 1) = some y → ∃ r, Comm n wrong P r y := fun k hk hw e => by
    obtain ⟨a, b⟩ := h.gd j k hj hk hw y e
    rw [← b]
    exact h.gdec k hk a
  rcases hy with ⟨view, hy⟩ | hy
  · obtain ⟨_, hb⟩ := agreed_some hy
    have hq := quorum_le hids.1 hb
    by_cases hx : ∃ k, k < n ∧ wrong k = false ∧ (P j).decs.lookup ((k : Int) + 1) = some y
    · obtain ⟨k, hk, hw, e⟩ := hx
      exact byD k hk hw e
    · refine ⟨view, Nat.le_trans hq ?_⟩
      unfold CoreM.backers
      rw [show (P j).n.toNat = n by rw [hids.1]; rfl]
      refine cnt_mono fun k hk e => ?_
      cases hw : wrong k with
      | true => rfl
      | false =>
        have e : (inner (P j).comms view).lookup ((k : Int) + 1) = some y ∨ (P j).decs.lookup ((k : Int) + 1) = some y := by simpa using e
        rcases e with e | e
        · simp [h.gc j k hj hk hw view y e]
        · exact absurd ⟨k, hk, hw, e⟩ hx
  · obtain ⟨_, hv⟩ := count_mem hy
    rw [votes_cnt (n := n) hl.fine.decs.1.1 (fun p hp => by have := hl.kd p hp; rw [hids.1] at this; exact this)] at hv
    unfold CoreM.f at hv
    rw [hids.1] at hv
    have hf := h.few
    obtain ⟨k, hk, hw, e⟩ := cnt_lt (n := n) (A := wrong) (B := fun (k : Nat) => (P j).decs.lookup ((k : Int) + 1) == some y) (by omega)
    exact byD k hk hw (by simpa using e)

theorem Peers.step (h : Peers n slot wrong acc P) (hj : j < n) (hd0 : (P j).decided = false) (hs : (P j).step acc = some c) : Peers n slot wrong acc (upd P j c) := by
  have hl := h.loc j hj
  rcases step_some hs with e | ⟨_, e⟩ | ⟨_, _, e⟩ | ⟨_, _, _, e⟩ | ⟨_, _, _, _, e⟩
  · obtain ⟨a, b⟩ := CoreM.turn_loc hl e
    obtain ⟨x, _, _, rfl⟩ := turn_some e
    exact h.quiet hj b a ⟨rfl, rfl, rfl⟩ (fun e => e)
  · obtain ⟨a, b⟩ := CoreM.propose_loc hl e
    obtain ⟨_, _, ⟨_, _, _, rfl⟩ | ⟨_, _, rfl⟩⟩ := propose_some e
    all_goals exact h.quiet hj b a ⟨rfl, rfl, rfl⟩ (fun e => e)
  · exact h.prepare hj e
  · exact h.commit hj e
  · exact h.decide_ hj hd0 e

theorem Peers.settle (h : Peers n slot wrong acc P) (hj : j < n) : Peers n slot wrong acc (upd P j ((P j).settle acc)) :=
  CoreM.settle_keep (fun d => Peers n slot wrong acc (upd P j d))
    (fun d d' hd hu hs => by have := hd.step hj (c := d') (by rw [upd_same]; exact hu) (by rw [upd_same]; exact hs); rw [upd_upd] at this; exact this)
    (fun d hd hu => by
      have hl := hd.loc j hj
      rw [upd_same] at hl
      obtain ⟨a, b⟩ := CoreM.undecided_loc hl hu
      have := hd.quiet hj (c := d.undecided) (by rw [upd_same]; exact b) a (by rw [upd_same]; exact ⟨rfl, rfl, rfl⟩) (fun e => by cases e)
      rw [upd_upd] at this; exact this)
    (by rw [upd_self]; exact h)
theorem Peers.late (h : Peers n slot wrong acc P) (hj : j < n) : Peers n slot wrong acc (upd P j ((P j).late acc)) := by
  unfold CoreM.late
  split
  · rename_i hc
    simp only [Bool.and_eq_true, Bool.not_eq_true', decide_eq_true_eq] at hc
    have hl := h.loc j hj
    have a : CoreM.Loc acc { P j with view := (P j).view + 1 } := hl.quiet (hl.fine.nextView hc.2) ⟨rfl, rfl, rfl, rfl, rfl, rfl, rfl⟩ (by dsimp only; omega)
    have b : CoreM.Next (P j) { P j with view := (P j).view + 1 } := CoreM.Next.quiet ⟨rfl, rfl, rfl, rfl, rfl⟩ (by dsimp only; omega) (fun hd => ⟨hd, rfl⟩)
    have := (h.quiet hj b a ⟨rfl, rfl, rfl⟩ (fun e => e)).settle hj
    rw [upd_same, upd_upd] at this
    exact this
  · rw [upd_self]; exact h
theorem Peers.ask (h : Peers n slot wrong acc P) (hj : j < n) (l : List UInt8) : Peers n slot wrong acc (upd P j ((P j).ask acc l)) := by
  unfold CoreM.ask
  split
  · rw [upd_self]; exact h
  · rename_i hc
    simp only [Bool.or_eq_true, not_or, Bool.not_eq_true, decide_eq_false_iff_not] at hc
    have hl := h.loc j hj
    have a : CoreM.Loc acc { P j with wish := l, wishes := true } := hl.quiet (hl.fine.wishFor (show l.length ≤ 268435456 by omega)) ⟨rfl, rfl, rfl, rfl, rfl, rfl, rfl⟩ (Int.le_refl _)
    have b : CoreM.Next (P j) { P j with wish := l, wishes := true } := CoreM.Next.quiet ⟨rfl, rfl, rfl, rfl, rfl⟩ (Int.le_refl _) (fun hd => ⟨hd, rfl⟩)
    have := (h.quiet hj b a ⟨rfl, rfl, rfl⟩ (fun e => e)).settle hj
    rw [upd_same, upd_upd] at this
    exact this

/-- If the vote is of a right peer it is what this one told. -/
def Sound (n : Nat) (wrong : Nat → Bool) (P : Nat → CoreM) (v : Vote) : Prop := ∀ k, k < n → wrong k = false → v.frm = (k : Int) + 1 →
  (v.kind = 2 → (P k).ownP v.view = some v.value) ∧ (v.kind = 3 → (P k).ownC v.view = some v.value) ∧ (v.kind = 4 → (P k).decided = true ∧ (P k).value = v.value)

theorem Sound.upd {v : Vote} (h : Sound n wrong P v) (hn : CoreM.Next (P j) c) : Sound n wrong (upd P j c) v := fun k hk hw e => by
  obtain ⟨h1, h2, h3⟩ := h k hk hw e
  unfold Ytkkmkkgjpmlhaaa.upd
  split
  · rename_i e2
    subst e2
    exact ⟨fun e => hn.keepP _ _ (h1 e), fun e => hn.keepC _ _ (h2 e), fun e => by obtain ⟨a, b⟩ := h3 e; obtain ⟨a2, b2⟩ := hn.keepD a; exact ⟨a2, b2.trans b⟩⟩
  · exact ⟨h1, h2, h3⟩

/-- What another one told is known. -/
theorem Peers.know (h : Peers n slot wrong acc P) (hj : j < n) {v : Vote} (hs : Sound n wrong P v) (hv : v.okB = true) (hn : v.frm ≤ (P j).n) (hm : v.frm ≠ (P j).me) : Peers n slot wrong acc (upd P j ((P j).know v).2) := by
  have hl := h.loc j hj
  obtain ⟨hlc, hnx⟩ := CoreM.know_loc hl hv hn hm
  have hids := h.ids j hj
  have hk := (CoreM.okB_iff v).1 hv
  unfold CoreM.know at hlc hnx ⊢
  have triv : Peers n slot wrong acc (upd P j (P j)) := by rw [upd_self]; exact h
  by_cases h1 : v.kind = 1
  · rw [if_pos h1] at hlc hnx ⊢
    split
    · exact triv
    · rename_i hx
      rw [if_neg hx] at hlc hnx
      exact h.quiet hj hnx hlc ⟨rfl, rfl, rfl⟩ (fun e => e)
  rw [if_neg h1] at hlc hnx ⊢
  by_cases h2 : v.kind = 2
  · rw [if_pos h2] at hlc hnx ⊢
    dsimp only at hlc hnx ⊢
    split
    · exact triv
    · rename_i hx
      rw [if_neg hx] at hlc hnx
      refine h.move hj hnx hlc (fun k hk hw u x e => ?_) (fun k _ _ v x e => .inl e) (fun k _ _ x e => .inl e) (fun v x e => .inl e) (fun r r' x x' _ e1 e2 _ => .inl ⟨?_, e2⟩) (fun e => .inl e)
      · dsimp only at e
        rw [lookup_inner_setT] at e
        split at e
        · rename_i e2; cases e; rw [e2.1]; exact .inr (.inr ((hs k hk hw e2.2.symm).1 h2))
        · exact .inl e
      · unfold CoreM.ownP at e1 ⊢
        dsimp only at e1
        rw [lookup_inner_setT, if_neg (fun e => hm e.2.symm)] at e1
        exact e1
  rw [if_neg h2] at hlc hnx ⊢
  by_cases h3 : v.kind = 3
  · rw [if_pos h3] at hlc hnx ⊢
    dsimp only at hlc hnx ⊢
    split
    · exact triv
    · rename_i hx
      rw [if_neg hx] at hlc hnx
      have own : ∀ u x, CoreM.ownC { P j with comms := setT (P j).comms v.view v.frm v.value } u = some x → (P j).ownC u = some x := fun u x e => by
        unfold CoreM.ownC at e ⊢
        dsimp only at e
        rw [lookup_inner_setT, if_neg (fun e => hm e.2.symm)] at e
        exact e
      refine h.move hj hnx hlc (fun k _ _ v x e => .inl e) (fun k hk hw u x e => ?_) (fun k _ _ x e => .inl e) (fun v x e => .inl (own v x e)) (fun r r' x x' _ e1 e2 _ => .inl ⟨e1, own r x e2⟩) (fun e => .inl e)
      · dsimp only at e
        rw [lookup_inner_setT] at e
        split at e
        · rename_i e2; cases e; rw [e2.1]; exact .inr (.inr ((hs k hk hw e2.2.symm).2.1 h3))
        · exact .inl e
  rw [if_neg h3] at hlc hnx ⊢
  by_cases h5 : v.kind = 5
  · rw [if_pos h5] at hlc hnx ⊢
    dsimp only at hlc hnx ⊢
    split
    · exact triv
    · rename_i hx
      rw [if_neg hx] at hlc hnx
      exact h.quiet hj hnx hlc ⟨rfl, rfl, rfl⟩ (fun e => e)
  rw [if_neg h5] at hlc hnx ⊢
  split
  · exact triv
  · rename_i hx
    rw [if_neg hx] at hlc hnx
    refine h.move hj hnx hlc (fun k _ _ v x e => .inl e) (fun k _ _ v x e => .inl e) (fun k hk hw x e => ?_) (fun v x e => .inl e) (fun r r' x x' _ e1 e2 _ => .inl ⟨e1, e2⟩) (fun e => .inl e)
    dsimp only at e
    rw [lookup_put] at e
    split at e
    · rename_i e2; cases e; exact .inr ((hs k hk hw e2.symm).2.2 (by omega))
    · exact .inl e
theorem Peers.take (h : Peers n slot wrong acc P) (hj : j < n) {v : Vote} (hs : Sound n wrong P v) : Peers n slot wrong acc (upd P j ((P j).take acc v).2) := by
  rcases CoreM.take_cases acc (P j) v with e | ⟨_, hn, hm, hv, _, e⟩
  · rw [e, upd_self]; exact h
  · rw [e]
    have h1 := h.know hj hs hv hn hm
    have hl1 := h1.loc j hj
    rw [upd_same] at hl1
    obtain ⟨a, b⟩ := CoreM.see_loc hl1 hv
    have hse : (CoreM.see ((P j).know v).2 v).preps = ((P j).know v).2.preps ∧ (CoreM.see ((P j).know v).2 v).comms = ((P j).know v).2.comms ∧ (CoreM.see ((P j).know v).2 v).decs = ((P j).know v).2.decs ∧ (CoreM.see ((P j).know v).2 v).decided = ((P j).know v).2.decided := by
      unfold CoreM.see; split <;> exact ⟨rfl, rfl, rfl, rfl⟩
    have h2 := h1.quiet hj (c := CoreM.see ((P j).know v).2 v) (by rw [upd_same]; exact b) a (by rw [upd_same]; exact ⟨hse.1, hse.2.1, hse.2.2.1⟩) (fun e => by rw [upd_same]; rw [← hse.2.2.2]; exact e)
    have h3 := h2.settle hj
    rw [upd_same, upd_upd, upd_upd] at h3
    exact h3

/-! ### One value -/
theorem Peers.comm_prep (h : Peers n slot wrong acc P) {r : Int} {x : List UInt8} (hc : Comm n wrong P r x) : Prep n wrong P r x := by
  obtain ⟨k, hk, _, e⟩ := quorum_some h.n4 h.few hc
  exact h.g2 k hk r x (by simpa using e)
theorem Peers.comm_one (h : Peers n slot wrong acc P) {r r' : Int} {x y : List UInt8} (hx : Comm n wrong P r x) (hy : Comm n wrong P r' y) : x = y := by
  rcases Int.lt_trichotomy r r' with hr | hr | hr
  · exact (h.later hr hx.pot (h.comm_prep hy)).symm
  · subst hr
    exact h.prep_one (h.comm_prep hx) (h.comm_prep hy)
  · exact h.later hr hy.pot (h.comm_prep hx)
theorem Peers.comm_acc (h : Peers n slot wrong acc P) {r : Int} {x : List UInt8} (hc : Comm n wrong P r x) : acc x = true := by
  obtain ⟨k, hk, _, e⟩ := quorum_some h.n4 h.few (h.comm_prep hc)
  exact (h.loc k hk).la r x (by simpa using e)
theorem Peers.agree (h : Peers n slot wrong acc P) {i k : Nat} (hi : i < n) (hk : k < n) (di : (P i).decided = true) (dk : (P k).decided = true) : (P i).value = (P k).value := by
  obtain ⟨r, hr⟩ := h.gdec i hi di
  obtain ⟨r', hr'⟩ := h.gdec k hk dk
  exact h.comm_one hr hr'
theorem Peers.accepted (h : Peers n slot wrong acc P) {i : Nat} (hi : i < n) (di : (P i).decided = true) : acc (P i).value = true := by
  obtain ⟨r, hr⟩ := h.gdec i hi di
  exact h.comm_acc hr

/-! ### What it tells is sound -/
theorem mine_mem {kind : Int} {t : TM} {x : Vote} (h : x ∈ c.mine kind t) : x.kind = kind ∧ x.frm = c.me ∧ x.slot = c.slot ∧ x.valid = -1 ∧ (inner t x.view).lookup c.me = some x.value := by
  unfold CoreM.mine at h
  obtain ⟨v, _, hv⟩ := List.mem_filterMap.1 h
  unfold CoreM.mineAt at hv
  obtain ⟨l, hl, rfl⟩ := Option.map_eq_some_iff.1 hv
  exact ⟨rfl, rfl, rfl, rfl, hl⟩
theorem says_cases {x : Vote} (h : x ∈ c.says) : x = c.word ∨ (∃ p, c.props.lookup c.view = some p ∧ c.decided = false ∧ c.proposer c.view = c.me ∧ x = ⟨1, c.me, c.slot, c.view, p.2, p.1⟩) ∨ x ∈ c.mine 2 c.preps ∨ x ∈ c.mine 3 c.comms := by
  unfold CoreM.says at h
  simp only [List.mem_append, List.mem_singleton] at h
  rcases h with ((h | h) | h) | h
  · exact .inl h
  · right; left
    unfold CoreM.offer at h
    split at h
    · rename_i p hp
      split at h
      · rename_i hc
        simp only [Bool.and_eq_true, Bool.not_eq_true', beq_iff_eq] at hc
        exact ⟨p, hp, hc.1, hc.2, List.mem_singleton.1 h⟩
      · cases h
    · cases h
  · exact .inr (.inr (.inl h))
  · exact .inr (.inr (.inr h))
theorem says_frm {x : Vote} (h : x ∈ c.says) : x.frm = c.me ∧ x.slot = c.slot := by
  rcases says_cases h with rfl | ⟨p, _, _, _, rfl⟩ | h | h
  · unfold CoreM.word; split <;> exact ⟨rfl, rfl⟩
  · exact ⟨rfl, rfl⟩
  · exact ⟨(mine_mem h).2.1, (mine_mem h).2.2.1⟩
  · exact ⟨(mine_mem h).2.1, (mine_mem h).2.2.1⟩
theorem says_true {x : Vote} (h : x ∈ c.says) : (x.kind = 2 → c.ownP x.view = some x.value) ∧ (x.kind = 3 → c.ownC x.view = some x.value) ∧ (x.kind = 4 → c.decided = true ∧ c.value = x.value) := by
  rcases says_cases h with rfl | ⟨p, _, _, _, rfl⟩ | h | h
  · unfold CoreM.word
    split
    · rename_i hd; exact ⟨fun e => by simp at e, fun e => by simp at e, fun _ => ⟨hd, rfl⟩⟩
    · exact ⟨fun e => by simp at e, fun e => by simp at e, fun e => by simp at e⟩
  · exact ⟨fun e => by simp at e, fun e => by simp at e, fun e => by simp at e⟩
  · obtain ⟨e1, _, _, _, e2⟩ := mine_mem h
    exact ⟨fun _ => e2, fun e => by omega, fun e => by omega⟩
  · obtain ⟨e1, _, _, _, e2⟩ := mine_mem h
    exact ⟨fun e => by omega, fun _ => e2, fun e => by omega⟩
theorem Peers.says_sound (h : Peers n slot wrong acc P) (hj : j < n) {x : Vote} (hx : x ∈ (P j).says) : Sound n wrong P x := fun k hk hw e => by
  have e2 := (says_frm hx).1
  rw [(h.ids j hj).2.1] at e2
  obtain rfl : k = j := by omega
  exact says_true hx
theorem wrong_sound (hw : wrong j = true) {x : Vote} (hx : x.frm = (j : Int) + 1) : Sound n wrong P x := fun k hk hw2 e => by
  obtain rfl : k = j := by omega
  rw [hw] at hw2
  cases hw2
end
end Go.Proofs.Ytkkmkkgjpmlhaaa
namespace Go.Proofs.Ytkkmkkgjpmlhaaa
open Go.ChangeShapes Go.WideShapes Go.ChangeAt Go.RowKit

theorem prog_own : ownKnob Try.prog.godebug = none := by kernel_rfl
theorem prog_laid : laidOutB Try.prog = true := by kernel_rfl

/-- Bytes that are read as numbers. -/
theorem bs_of_ints {W : World} {x : Addr} {len cap : Nat} {zs : List Int} (hl : len ≤ cap) (hm : cap ≤ maxLen) (hz : zs.length = cap) (hcell : ∀ i, i < zs.length → W.cell? (x.add i) = some (.int .u8 (zs.getD i 0))) (hwz : ∀ n ∈ zs, (Lit.int .u8 n).wf = true) :
    ∃ l : List UInt8, Bs W (fun k => k < W.heap.size) (.slice (some x) len cap) l ∧ l.length ≤ 9223372036854775807 := by
  have hlz : len ≤ zs.length := by omega
  have hw8 : ∀ n ∈ zs, 0 ≤ n ∧ n < 256 := fun n hn => by
    have := hwz n hn
    simp [Lit.wf, IntKind.min, IntKind.max, IntKind.signed, IntKind.bits] at this
    omega
  have hlen : ((zs.take len).map fun n => UInt8.ofNat n.toNat).length = len := by simp; omega
  refine ⟨(zs.take len).map fun n => UInt8.ofNat n.toNat, ⟨some x, cap, by rw [hlen], by rw [hlen]; exact hl, (fun e => by cases e), fun hp => ?_⟩, by rw [hlen]; unfold maxLen at hm; omega⟩
  rw [hlen] at hp
  have h0 := hcell 0 (by omega)
  have hspot : x.spot = none := by simpa [Addr.add] using World.cell?_spot h0
  obtain ⟨b, off, sp⟩ := x
  dsimp only at hspot
  subst hspot
  have hadd : ∀ j, (⟨b, off, none⟩ : Addr).add j = ⟨b, off + j, none⟩ := fun j => by
    unfold Addr.add
    split
    · rename_i e; subst e; rfl
    · rfl
  have hcell' : ∀ j, j < len → W.cell? ⟨b, off + j, none⟩ = some (.int .u8 (zs.getD j 0)) := fun j hj => by rw [← hadd]; exact hcell j (by omega)
  refine ⟨b, off, rfl, World.block_lt_of_cell? W _ (hcell' 0 hp), fun j u hu => ?_⟩
  obtain ⟨hj, hu⟩ := List.getElem?_eq_some_iff.1 hu
  rw [hlen] at hj
  rw [hcell' j hj]
  rw [List.getElem_map, List.getElem_take] at hu
  have hgd : zs.getD j 0 = zs[j]'(by omega) := by rw [List.getD_eq_getElem?_getD, List.getElem?_eq_getElem (by omega)]; rfl
  have hb8 := hw8 (zs[j]'(by omega)) (List.getElem_mem _)
  rw [hgd, ← hu, UInt8.toNat_ofNat']
  congr 2
  omega
set_option maxRecDepth 100000 in
/-- A slice of bytes that came in. -/
theorem open_bs {H : Type} {enc : TypeId × Value → H} {W : World} {base : Nat} {v : Value} {d : DataW H} {p : List MemPlace} (hval : Value.okWide Try.prog W .any base 29 v) (h : DataW.Trod enc Try.prog W 0 (fun _ => true) true 29 v d p) :
    ∃ l : List UInt8, Bs W (fun k => k < W.heap.size) v l ∧ l.length ≤ 9223372036854775807 := by
  obtain ⟨a, len, cap, rfl⟩ := okWide_slice Try.underlying29 hval
  obtain ⟨fuel, hf⟩ := h
  rcases open_ints Try.underlying29 Try.underlying5 (by kernel_rfl) hf with ⟨hcs, _⟩ | ⟨x, l, c, zs, hcs, _, hl, hm, hz, _, hcell, hwz⟩
  · simp [Value.cells] at hcs
    obtain ⟨rfl, rfl, rfl⟩ := hcs
    exact ⟨[], Bs.nil _ _, by simp⟩
  · simp [Value.cells] at hcs
    obtain ⟨rfl, rfl, rfl⟩ := hcs
    exact bs_of_ints hl hm (by simpa using hz) hcell hwz
theorem in64_of_wf {a : Int} (h : (Lit.int .i64 a).wf = true) : -9223372036854775808 ≤ a ∧ a ≤ 9223372036854775807 := by
  simpa [Lit.wf, IntKind.min, IntKind.max, IntKind.signed, IntKind.bits] using h
theorem trod_blocks {H : Type} {enc : TypeId × Value → H} {t : TypeId} {W : World} {v : Value} {d : DataW H} {p : List MemPlace} (h : DataW.Trod enc Try.prog W 0 (fun _ => true) true t v d p) : ∀ x ∈ p, x.block < W.heap.size := by
  obtain ⟨m, hm⟩ := h; exact DataW.trod_lt m _ _ _ hm
end Go.Proofs.Ytkkmkkgjpmlhaaa
namespace Go.Proofs.Ytkkmkkgjpmlhaaa

/-- A core hears votes, one behind the other. -/
def hear (acc : List UInt8 → Bool) (c : CoreM) (l : List Vote) : CoreM := l.foldl (fun d v => (d.take acc v).2) c
/-- All of the first n hear votes. -/
def hearAll (acc : List UInt8 → Bool) (n : Nat) (P : Nat → CoreM) (l : List Vote) : Nat → CoreM := fun j => if j < n then hear acc (P j) l else P j
/-- One of them tells all to all. -/
def talk (acc : List UInt8 → Bool) (n : Nat) (P : Nat → CoreM) (a : Nat) : Nat → CoreM := hearAll acc n P (P a).says
/-- The first ones tell all to all. -/
def talks (acc : List UInt8 → Bool) (n : Nat) (P : Nat → CoreM) : Nat → Nat → CoreM
  | 0 => P
  | a + 1 => talk acc n (talks acc n P a) a
/-- So often all tell all to all. -/
def rounds (acc : List UInt8 → Bool) (n : Nat) (P : Nat → CoreM) : Nat → Nat → CoreM
  | 0 => P
  | k + 1 => talks acc n (rounds acc n P k) n
section
variable {acc : List UInt8 → Bool} {n : Nat} {P : Nat → CoreM}
theorem hear_fine {c : CoreM} (h : c.Fine) (l : List Vote) : (hear acc c l).Fine := by
  unfold hear
  induction l generalizing c with
  | nil => exact h
  | cons v l ih => exact ih (h.take v)
theorem hearAll_fine (h : ∀ j, j < n → (P j).Fine) (l : List Vote) : ∀ j, j < n → (hearAll acc n P l j).Fine := fun j hj => by
  unfold hearAll
  rw [if_pos hj]
  exact hear_fine (h j hj) l
theorem talks_fine (h : ∀ j, j < n → (P j).Fine) : ∀ a, ∀ j, j < n → (talks acc n P a j).Fine
  | 0 => h
  | a + 1 => hearAll_fine (talks_fine h a) _
theorem rounds_fine (h : ∀ j, j < n → (P j).Fine) : ∀ k, ∀ j, j < n → (rounds acc n P k j).Fine
  | 0 => h
  | k + 1 => talks_fine (rounds_fine h k) n
theorem hearAll_nil : hearAll acc n P [] = P := by funext j; unfold hearAll hear; simp
theorem hearAll_snoc (l : List Vote) (v : Vote) : hearAll acc n P (l ++ [v]) = hearAll acc n (hearAll acc n P l) [v] := by
  funext j
  unfold hearAll hear
  by_cases h : j < n <;> simp [h]
/-- The first m of them hear a vote. -/
def hearTo (acc : List UInt8 → Bool) (P : Nat → CoreM) (v : Vote) (m : Nat) : Nat → CoreM := fun j => if j < m then ((P j).take acc v).2 else P j
theorem hearTo_zero (v : Vote) : hearTo acc P v 0 = P := by funext j; unfold hearTo; simp
theorem hearTo_succ (v : Vote) (m : Nat) : hearTo acc P v (m + 1) = upd (hearTo acc P v m) m ((hearTo acc P v m m).take acc v).2 := by
  funext j
  unfold hearTo upd
  by_cases h : j = m
  · subst h; simp
  · rw [if_neg h]
    by_cases h2 : j < m
    · rw [if_pos (by omega)]; dsimp only; rw [if_pos h2]
    · rw [if_neg (by omega)]; dsimp only; rw [if_neg h2]
theorem hearTo_all (v : Vote) : hearTo acc P v n = hearAll acc n P [v] := by funext j; unfold hearTo hearAll hear; rfl
theorem hearTo_fine (h : ∀ j, j < n → (P j).Fine) (v : Vote) (m : Nat) : ∀ j, j < n → (hearTo acc P v m j).Fine := fun j hj => by
  unfold hearTo
  split
  · exact (h j hj).take v
  · exact h j hj
end

/-! ### Numbers of what is told -/
theorem says_nums {c : CoreM} (h : c.Fine) {x : Vote} (hx : x ∈ c.says) : (1 ≤ x.kind ∧ x.kind ≤ 5) ∧ (1 ≤ x.frm ∧ x.frm ≤ 64) ∧ (0 ≤ x.slot ∧ x.slot ≤ 256) ∧ (0 ≤ x.view ∧ x.view ≤ 4294967296) ∧ (-1 ≤ x.valid ∧ x.valid ≤ 4294967296) ∧ x.value.length ≤ 268435456 := by
  obtain ⟨n0, n1, m0, m1, s0, s1, v0, v1⟩ := h.ok
  have mine : ∀ kind (t : TM), TMFine t → (1 ≤ kind ∧ kind ≤ 5) → x ∈ c.mine kind t → _ := fun kind t ht hk hm => by
    obtain ⟨e1, e2, e3, e4, e5⟩ := mine_mem hm
    have hv := (ht.inner x.view).lookup e5
    have hview : 0 ≤ x.view ∧ x.view ≤ 4294967296 := by
      unfold inner at e5
      cases hl : t.lookup x.view with
      | none => rw [hl] at e5; cases e5
      | some u => exact ht.1.2 _ (lookup_mem hl)
    exact (show (1 ≤ x.kind ∧ x.kind ≤ 5) ∧ (1 ≤ x.frm ∧ x.frm ≤ 64) ∧ (0 ≤ x.slot ∧ x.slot ≤ 256) ∧ (0 ≤ x.view ∧ x.view ≤ 4294967296) ∧ (-1 ≤ x.valid ∧ x.valid ≤ 4294967296) ∧ x.value.length ≤ 268435456 from
      ⟨by omega, by omega, by omega, hview, by omega, hv⟩)
  rcases says_cases hx with rfl | ⟨p, hp, _, _, rfl⟩ | hm | hm
  · unfold CoreM.word
    split
    · exact ⟨by dsimp only; omega, ⟨m0, by dsimp only; omega⟩, ⟨s0, s1⟩, by dsimp only; omega, by dsimp only; omega, h.value⟩
    · exact ⟨by dsimp only; omega, ⟨m0, by dsimp only; omega⟩, ⟨s0, s1⟩, ⟨v0, v1⟩, by dsimp only; omega, by simp⟩
  · have hpv := h.propsV _ (lookup_mem hp)
    exact ⟨by dsimp only; omega, ⟨m0, by dsimp only; omega⟩, ⟨s0, s1⟩, ⟨v0, v1⟩, hpv.2, hpv.1⟩
  · exact mine 2 _ h.preps (by decide) hm
  · exact mine 3 _ h.comms (by decide) hm

/-! ### Four peers come to the first one's wish -/
def live0 : Nat → CoreM := fun j => { n := 4, me := (j : Int) + 1, slot := 0 }
def live1 : Nat → CoreM := upd live0 0 ((live0 0).ask (fun _ => true) [119])
theorem live0_fine : ∀ j, j < 4 → (live0 j).Fine := fun j hj => by
  exact {
    ok := ⟨show (4 : Int) ≤ 4 by decide, show (4 : Int) ≤ 64 by decide, show (1 : Int) ≤ (j : Int) + 1 by omega, show (j : Int) + 1 ≤ 4 by omega, show (0 : Int) ≤ 0 by decide, show (0 : Int) ≤ 256 by decide, show (0 : Int) ≤ 0 by decide, show (0 : Int) ≤ 4294967296 by decide⟩
    wish := show (0 : Nat) ≤ 268435456 by decide
    locked := show (0 : Nat) ≤ 268435456 by decide
    value := show (0 : Nat) ≤ 268435456 by decide
    props := KeysFine.nil
    propsV := fun p hp => (List.not_mem_nil hp).elim
    preps := TMFine.nil
    comms := TMFine.nil
    turns := TMFine.nil
    seen := KeysFine.nil
    seenV := fun p hp => (List.not_mem_nil hp).elim
    decs := ToldFine.nil
    lock0 := show (-1 : Int) ≤ -1 by decide
    lock1 := show (-1 : Int) ≤ 4294967296 by decide }
theorem live1_fine : ∀ j, j < 4 → (live1 j).Fine := fun j hj => by
  unfold live1 upd
  split
  · exact (live0_fine 0 (by decide)).ask _
  · exact live0_fine j hj

/-- The same over a list, that the kernel can run. -/
def talkL (acc : List UInt8 → Bool) (L : List CoreM) (a : Nat) : List CoreM := match L[a]? with
  | some c => L.map fun d => hear acc d c.says
  | none => L
def talksL (acc : List UInt8 → Bool) (L : List CoreM) : Nat → List CoreM
  | 0 => L
  | a + 1 => talkL acc (talksL acc L a) a
def roundsL (acc : List UInt8 → Bool) (n : Nat) (L : List CoreM) : Nat → List CoreM
  | 0 => L
  | k + 1 => talksL acc (roundsL acc n L k) n
def SameAs (n : Nat) (P : Nat → CoreM) (L : List CoreM) : Prop := L.length = n ∧ ∀ j, j < n → L[j]? = some (P j)
theorem SameAs.talk {acc : List UInt8 → Bool} {n : Nat} {P : Nat → CoreM} {L : List CoreM} (h : SameAs n P L) {a : Nat} (ha : a < n) : SameAs n (talk acc n P a) (talkL acc L a) := by
  obtain ⟨h1, h2⟩ := h
  unfold talkL
  rw [h2 a ha]
  dsimp only
  refine ⟨by rw [List.length_map, h1], fun j hj => ?_⟩
  rw [List.getElem?_map, h2 j hj]
  unfold Ytkkmkkgjpmlhaaa.talk hearAll
  rw [if_pos hj]
  rfl
theorem SameAs.talks {acc : List UInt8 → Bool} {n : Nat} {P : Nat → CoreM} {L : List CoreM} (h : SameAs n P L) : ∀ a, a ≤ n → SameAs n (talks acc n P a) (talksL acc L a)
  | 0, _ => h
  | a + 1, ha => (h.talks a (by omega)).talk (by omega)
theorem SameAs.rounds {acc : List UInt8 → Bool} {n : Nat} {P : Nat → CoreM} {L : List CoreM} (h : SameAs n P L) : ∀ k, SameAs n (rounds acc n P k) (roundsL acc n L k)
  | 0 => h
  | k + 1 => (h.rounds k).talks n (Nat.le_refl _)
def liveL : List CoreM := [live1 0, live1 1, live1 2, live1 3]
theorem live_same : SameAs 4 live1 liveL := ⟨rfl, fun j hj => by
  rcases (show j = 0 ∨ j = 1 ∨ j = 2 ∨ j = 3 by omega) with rfl | rfl | rfl | rfl <;> rfl⟩
set_option maxRecDepth 100000 in
theorem live_run : ((roundsL (fun _ => true) 4 liveL 4)[3]?).map (fun c => (c.decided, c.value)) = some (true, [119]) := by kernel_rfl
theorem live_end : (rounds (fun _ => true) 4 live1 4 3).decided = true ∧ (rounds (fun _ => true) 4 live1 4 3).value = [119] := by
  have h := live_run
  rw [(live_same.rounds 4).2 3 (by decide)] at h
  simpa using h
end Go.Proofs.Ytkkmkkgjpmlhaaa
