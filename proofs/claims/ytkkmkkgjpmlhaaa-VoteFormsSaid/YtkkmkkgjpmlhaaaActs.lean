/- All that a core can do: how often. -/
import Derived.Test.YtkkmkkgjpmlhaaaFine
namespace Go.Proofs.Ytkkmkkgjpmlhaaa
namespace CoreM
variable {acc : List UInt8 → Bool} {c c' : CoreM}

/-- How many things may be to come. -/
def mu (c : CoreM) : Nat :=
  if c.decided then 0 else 1 + 4 * (4294967296 - c.view).toNat + (if (c.props.lookup c.view).isSome then 0 else 1) + (if hasT c.preps c.view c.me then 0 else 1) + (if hasT c.comms c.view c.me then 0 else 1)

theorem hasT_setT (t : TM) (view who v2 w2 : Int) (l : List UInt8) : hasT (setT t view who l) v2 w2 = (hasT t v2 w2 || (v2 == view && w2 == who)) := by
  unfold hasT setT inner
  rw [lookup_put]
  by_cases h : v2 = view
  · subst h
    rw [if_pos rfl]
    simp only [Option.getD_some]
    rw [lookup_put]
    by_cases h2 : w2 = who
    · subst h2; simp
    · rw [if_neg h2]; simp [h2]
  · rw [if_neg h]; simp [h]

theorem mu_step (h : c.Fine) (hd : c.decided = false) (hs : c.step acc = some c') : c'.mu < c.mu := by
  have hf' := h.step hs
  have v1 := hf'.ok.view1
  rcases step_some hs with e | ⟨_, e⟩ | ⟨_, _, e⟩ | ⟨_, _, _, e⟩ | ⟨_, _, _, _, e⟩
  · obtain ⟨x, _, hx, rfl⟩ := turn_some e
    dsimp only at v1
    unfold mu
    simp only [hd, Bool.false_eq_true, if_false]
    repeat' split
    all_goals omega
  · have hp := (propose_some e).1
    have h2 : c'.view = c.view ∧ c'.preps = c.preps ∧ c'.comms = c.comms ∧ c'.decided = c.decided ∧ c'.me = c.me ∧ (c'.props.lookup c.view).isSome = true := by
      obtain ⟨_, _, ⟨view, v, _, rfl⟩ | ⟨_, _, rfl⟩⟩ := propose_some e
      · exact ⟨rfl, rfl, rfl, rfl, rfl, by simp [lookup_put]⟩
      · exact ⟨rfl, rfl, rfl, rfl, rfl, by simp [lookup_put]⟩
    obtain ⟨a1, a2, a3, a4, a5, a6⟩ := h2
    unfold mu
    rw [a4, a1, a2, a3, a5, a6, hp, hd]
    simp only [Bool.false_eq_true, if_false, Option.isSome_none, if_true]
    omega
  · obtain ⟨p, hp, hn, _, rfl⟩ := prepare_some e
    unfold mu
    dsimp only
    rw [hasT_setT, hn, hd]
    simp only [Bool.false_eq_true, if_false, beq_self_eq_true, Bool.and_self, Bool.or_true, if_true]
    omega
  · obtain ⟨p, hp, hn, rfl⟩ := commit_some e
    unfold mu
    dsimp only
    rw [hasT_setT, hn, hd]
    simp only [Bool.false_eq_true, if_false, beq_self_eq_true, Bool.and_self, Bool.or_true, if_true]
    omega
  · obtain ⟨v, rfl, _⟩ := decide_some e
    unfold mu
    simp only [hd, Bool.false_eq_true, if_false, if_true]
    omega

theorem mu_pos (hd : c.decided = false) : 0 < c.mu := by unfold mu; rw [hd]; simp only [Bool.false_eq_true, if_false]; omega

theorem acts_decided (k : Nat) (hd : c.decided = true) : acts acc k c = c := by
  cases k with
  | zero => rfl
  | succ k => unfold acts; rw [if_pos hd]

theorem acts_eq : ∀ (n k : Nat) (c : CoreM), c.Fine → c.mu ≤ n → c.mu ≤ k → acts acc k c = acts acc n c
  | 0, k, c, _, h0, _ => by
    cases hd : c.decided with
    | true => rw [acts_decided _ hd, acts_decided _ hd]
    | false => have := mu_pos hd; omega
  | n + 1, k, c, hf, hn, hk => by
    cases hd : c.decided with
    | true => rw [acts_decided _ hd, acts_decided _ hd]
    | false =>
      have := mu_pos hd
      obtain ⟨k, rfl⟩ : ∃ j, k = j + 1 := ⟨k - 1, by omega⟩
      cases hs : c.step acc with
      | none => unfold acts; rw [hs]
      | some c' =>
        have hlt := mu_step hf hd hs
        unfold acts
        rw [if_neg (by rw [hd]; decide), if_neg (by rw [hd]; decide), hs]
        exact acts_eq n k c' (hf.step hs) (by omega) (by omega)

/-- act. -/
def settle (acc : List UInt8 → Bool) (c : CoreM) : CoreM := acts acc c.mu c
theorem settle_decided (hd : c.decided = true) : settle acc c = c := acts_decided _ hd
theorem settle_some (h : c.Fine) (hd : c.decided = false) (hs : c.step acc = some c') : settle acc c' = settle acc c := by
  have hlt := mu_step h hd hs
  obtain ⟨m, hm⟩ : ∃ m, c.mu = m + 1 := ⟨c.mu - 1, by omega⟩
  have : settle acc c = acts acc m c' := by
    unfold settle
    rw [hm]
    conv => lhs; unfold acts
    rw [if_neg (by rw [hd]; decide), hs]
  rw [this]
  exact acts_eq m c'.mu c' (h.step hs) (by omega) (Nat.le_refl _)
theorem settle_none (hd : c.decided = false) (hs : c.step acc = none) : settle acc c = c.undecided := by
  obtain ⟨m, hm⟩ : ∃ m, c.mu = m + 1 := ⟨c.mu - 1, by have := mu_pos hd; omega⟩
  unfold settle
  rw [hm]
  unfold acts
  rw [if_neg (by rw [hd]; decide), hs]
theorem Fine.settle (h : c.Fine) : (CoreM.settle acc c).Fine := h.acts _

/-! ### What it tells -/
def mineAt (c : CoreM) (kind : Int) (t : TM) (view : Int) : Option Vote := ((inner t view).lookup c.me).map fun l => ⟨kind, c.me, c.slot, view, -1, l⟩
def mine (c : CoreM) (kind : Int) (t : TM) : List Vote := (keys t).filterMap (c.mineAt kind t)
def word (c : CoreM) : Vote := if c.decided then ⟨4, c.me, c.slot, 0, -1, c.value⟩ else ⟨5, c.me, c.slot, c.view, -1, []⟩
def offer (c : CoreM) : List Vote :=
  match c.props.lookup c.view with
  | some p => if !c.decided && c.proposer c.view == c.me then [⟨1, c.me, c.slot, c.view, p.2, p.1⟩] else []
  | none => []
def says (c : CoreM) : List Vote := [c.word] ++ c.offer ++ c.mine 2 c.preps ++ c.mine 3 c.comms

/-! ### What comes from outside -/
def late (acc : List UInt8 → Bool) (c : CoreM) : CoreM := if !c.decided && decide (c.view < 1048576) then settle acc { c with view := c.view + 1 } else c
def ask (acc : List UInt8 → Bool) (c : CoreM) (l : List UInt8) : CoreM := if c.wishes || decide (4096 < l.length) then c else settle acc { c with wish := l, wishes := true }
/-- Of the others the greatest view. -/
def see (c : CoreM) (v : Vote) : CoreM := if v.kind = 4 then c else { c with seen := put c.seen v.frm (max ((c.seen.lookup v.frm).getD 0) v.view) }
def take (acc : List UInt8 → Bool) (c : CoreM) (v : Vote) : Bool × CoreM :=
  if v.slot != c.slot || decide (c.n < v.frm) || v.frm == c.me then (false, c)
  else if !v.okB then (false, c)
  else if !(c.know v).1 then (false, c)
  else (true, settle acc (see (c.know v).2 v))

theorem Fine.nextView (h : c.Fine) (hv : c.view < 1048576) : ({ c with view := c.view + 1 } : CoreM).Fine := by
  obtain ⟨⟨a1, a2, a3, a4, a5, a6, a7, a8⟩, b1, b2, b3, b4, b5, b6, b7, b8, b9, b10, b11, b12, b13⟩ := h
  exact ⟨⟨a1, a2, a3, a4, a5, a6, show 0 ≤ c.view + 1 by omega, show c.view + 1 ≤ 4294967296 by omega⟩, b1, b2, b3, b4, b5, b6, b7, b8, b9, b10, b11, b12, b13⟩
theorem Fine.wishFor (h : c.Fine) {l : List UInt8} (hl : Short l) : ({ c with wish := l, wishes := true } : CoreM).Fine := by
  obtain ⟨a, b1, b2, b3, b4, b5, b6, b7, b8, b9, b10, b11, b12, b13⟩ := h
  exact ⟨⟨a.1, a.2, a.3, a.4, a.5, a.6, a.7, a.8⟩, hl, b2, b3, b4, b5, b6, b7, b8, b9, b10, b11, b12, b13⟩
theorem Fine.late (h : c.Fine) : (CoreM.late acc c).Fine := by
  unfold CoreM.late
  split
  · rename_i hc
    simp only [Bool.and_eq_true, decide_eq_true_eq] at hc
    exact (h.nextView hc.2).settle
  · exact h
theorem Fine.ask (h : c.Fine) (l : List UInt8) : (CoreM.ask acc c l).Fine := by
  unfold CoreM.ask
  split
  · exact h
  · rename_i hc
    simp only [Bool.or_eq_true, decide_eq_true_eq, not_or] at hc
    exact (h.wishFor (by unfold Short; omega)).settle
theorem okB_iff (v : Vote) : v.okB = true ↔ (1 ≤ v.kind ∧ v.kind ≤ 5 ∧ 1 ≤ v.frm ∧ v.frm ≤ 64 ∧ 0 ≤ v.slot ∧ v.slot ≤ 256 ∧ 0 ≤ v.view ∧ v.view ≤ 1048576 ∧ -1 ≤ v.valid ∧ v.valid ≤ 1048576 ∧ v.value.length ≤ 4096) := by
  unfold Vote.okB
  simp only [Bool.and_eq_true, decide_eq_true_eq, and_assoc]
theorem Fine.know (h : c.Fine) {v : Vote} (hv : v.okB = true) : (c.know v).2.Fine := by
  obtain ⟨k0, k1, f0, f1, s0, s1, v0, v1, a0, a1, hl⟩ := (okB_iff v).1 hv
  have hs : Short v.value := by unfold Short; omega
  obtain ⟨a, b1, b2, b3, b4, b5, b6, b7, b8, b9, b10, b11, b12, b13⟩ := id h
  unfold CoreM.know
  split
  · split
    · exact h
    · exact ⟨⟨a.1, a.2, a.3, a.4, a.5, a.6, a.7, a.8⟩, b1, b2, b3, b4.put v0 (by omega) _, put_all ⟨hs, show -1 ≤ v.valid from a0, show v.valid ≤ 4294967296 by omega⟩ b5, b6, b7, b8, b9, b10, b11, b12, b13⟩
  · split
    · dsimp only
      split
      · exact h
      · exact ⟨⟨a.1, a.2, a.3, a.4, a.5, a.6, a.7, a.8⟩, b1, b2, b3, b4, b5, b6.setT v0 (by omega) (by omega) (by omega) hs, b7, b8, b9, b10, b11, b12, b13⟩
    · split
      · dsimp only
        split
        · exact h
        · exact ⟨⟨a.1, a.2, a.3, a.4, a.5, a.6, a.7, a.8⟩, b1, b2, b3, b4, b5, b6, b7.setT v0 (by omega) (by omega) (by omega) hs, b8, b9, b10, b11, b12, b13⟩
      · split
        · dsimp only
          split
          · exact h
          · exact ⟨⟨a.1, a.2, a.3, a.4, a.5, a.6, a.7, a.8⟩, b1, b2, b3, b4, b5, b6, b7, b8.setT v0 (by omega) (by omega) (by omega) hs, b9, b10, b11, b12, b13⟩
        · split
          · exact h
          · exact ⟨⟨a.1, a.2, a.3, a.4, a.5, a.6, a.7, a.8⟩, b1, b2, b3, b4, b5, b6, b7, b8, b9, b10, b11.put (by omega) (by omega) hs, b12, b13⟩
theorem Fine.see (h : c.Fine) {v : Vote} (hv : v.okB = true) : (c.see v).Fine := by
  obtain ⟨k0, k1, f0, f1, s0, s1, v0, v1, a0, a1, hl⟩ := (okB_iff v).1 hv
  unfold CoreM.see
  split
  · exact h
  · have hm : 0 ≤ (c.seen.lookup v.frm).getD 0 ∧ (c.seen.lookup v.frm).getD 0 ≤ 4294967296 := by
      cases hl : c.seen.lookup v.frm with
      | none => exact ⟨by decide, by decide⟩
      | some x => exact h.seenV _ (lookup_mem hl)
    obtain ⟨a, b1, b2, b3, b4, b5, b6, b7, b8, b9, b10, b11, b12, b13⟩ := h
    exact ⟨⟨a.1, a.2, a.3, a.4, a.5, a.6, a.7, a.8⟩, b1, b2, b3, b4, b5, b6, b7, b8, b9.put (by omega) (by omega) _, put_all (show 0 ≤ max ((c.seen.lookup v.frm).getD 0) v.view ∧ max ((c.seen.lookup v.frm).getD 0) v.view ≤ 4294967296 by omega) b10, b11, b12, b13⟩
theorem Fine.take (h : c.Fine) (v : Vote) : (CoreM.take acc c v).2.Fine := by
  unfold CoreM.take
  split
  · exact h
  · split
    · exact h
    · split
      · exact h
      · rename_i hv _
        exact ((h.know (by simpa using hv)).see (by simpa using hv)).settle
end CoreM
end Go.Proofs.Ytkkmkkgjpmlhaaa
