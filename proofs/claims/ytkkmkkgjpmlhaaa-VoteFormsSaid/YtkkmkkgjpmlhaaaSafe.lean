/- Peers of whom few are wrong: what holds whatever happens; one value. No program in sight. -/
import Derived.Test.YtkkmkkgjpmlhaaaLoc
namespace Go.Proofs.Ytkkmkkgjpmlhaaa

/-- The cores, one of them another. -/
def upd (P : Nat → CoreM) (j : Nat) (c : CoreM) : Nat → CoreM := fun k => if k = j then c else P k
theorem upd_same (P : Nat → CoreM) (j : Nat) (c : CoreM) : upd P j c j = c := if_pos rfl
theorem upd_other (P : Nat → CoreM) {j k : Nat} (c : CoreM) (h : k ≠ j) : upd P j c k = P k := if_neg h
theorem upd_self (P : Nat → CoreM) (j : Nat) : upd P j (P j) = P := by funext k; unfold upd; split <;> simp_all
theorem upd_upd (P : Nat → CoreM) (j : Nat) (c d : CoreM) : upd (upd P j c) j d = upd P j d := by funext k; unfold upd; split <;> rfl

/-- A quorum told a Prepare, a Commit; a quorum may have told a Commit, or may yet. -/
def Prep (n : Nat) (wrong : Nat → Bool) (P : Nat → CoreM) (v : Int) (x : List UInt8) : Prop := n - (n - 1) / 3 ≤ cnt n (fun j => wrong j || (P j).ownP v == some x)
def Comm (n : Nat) (wrong : Nat → Bool) (P : Nat → CoreM) (v : Int) (x : List UInt8) : Prop := n - (n - 1) / 3 ≤ cnt n (fun j => wrong j || (P j).ownC v == some x)
def Pot (n : Nat) (wrong : Nat → Bool) (P : Nat → CoreM) (v : Int) (x : List UInt8) : Prop := n - (n - 1) / 3 ≤ cnt n (fun j => wrong j || ((P j).ownC v == some x || (decide ((P j).view ≤ v) && (P j).ownC v == none)))

section
variable {n : Nat} {wrong : Nat → Bool} {acc : List UInt8 → Bool} {slot : Int} {P : Nat → CoreM} {j : Nat} {c : CoreM}
theorem Prep.upd {v : Int} {x : List UInt8} (h : Prep n wrong P v x) (hn : CoreM.Next (P j) c) : Prep n wrong (upd P j c) v x :=
  Nat.le_trans h (cnt_mono fun k _ hk => by
    simp only [Bool.or_eq_true, beq_iff_eq] at hk ⊢
    refine hk.imp id (fun e => ?_)
    unfold Ytkkmkkgjpmlhaaa.upd
    split
    · rename_i e2; subst e2; exact hn.keepP v x e
    · exact e)
theorem Comm.upd {v : Int} {x : List UInt8} (h : Comm n wrong P v x) (hn : CoreM.Next (P j) c) : Comm n wrong (upd P j c) v x :=
  Nat.le_trans h (cnt_mono fun k _ hk => by
    simp only [Bool.or_eq_true, beq_iff_eq] at hk ⊢
    refine hk.imp id (fun e => ?_)
    unfold Ytkkmkkgjpmlhaaa.upd
    split
    · rename_i e2; subst e2; exact hn.keepC v x e
    · exact e)
theorem Pot.upd {v : Int} {x : List UInt8} (h : Pot n wrong (upd P j c) v x) (hn : CoreM.Next (P j) c) : Pot n wrong P v x :=
  Nat.le_trans h (cnt_mono fun k _ hk => by
    unfold Ytkkmkkgjpmlhaaa.upd at hk
    simp only [Bool.or_eq_true, Bool.and_eq_true, beq_iff_eq, decide_eq_true_eq] at hk ⊢
    refine hk.imp id (fun e => ?_)
    split at e
    · rename_i e2
      subst e2
      rcases e with e | ⟨e1, e2⟩
      · rcases hn.fresh v x e with e | ⟨e, e3⟩
        · exact .inl e
        · exact .inr ⟨e3, e⟩
      · refine .inr ⟨Int.le_trans hn.view e1, ?_⟩
        cases h0 : (P k).ownC v with
        | none => rfl
        | some y => rw [hn.keepC v y h0] at e2; cases e2
    · exact e)
theorem Comm.pot {v : Int} {x : List UInt8} (h : Comm n wrong P v x) : Pot n wrong P v x :=
  Nat.le_trans h (cnt_mono fun k _ hk => by
    simp only [Bool.or_eq_true, beq_iff_eq] at hk ⊢
    exact hk.imp id .inl)

/-- What holds of all peers. -/
structure Peers (n : Nat) (slot : Int) (wrong : Nat → Bool) (acc : List UInt8 → Bool) (P : Nat → CoreM) : Prop where
  n4 : 4 ≤ n
  few : cnt n wrong ≤ (n - 1) / 3
  ids : ∀ j, j < n → (P j).n = n ∧ (P j).me = (j : Int) + 1 ∧ (P j).slot = slot
  loc : ∀ j, j < n → CoreM.Loc acc (P j)
  gp : ∀ i j, i < n → j < n → wrong j = false → ∀ v x, (inner (P i).preps v).lookup ((j : Int) + 1) = some x → (P j).ownP v = some x
  gc : ∀ i j, i < n → j < n → wrong j = false → ∀ v x, (inner (P i).comms v).lookup ((j : Int) + 1) = some x → (P j).ownC v = some x
  gd : ∀ i j, i < n → j < n → wrong j = false → ∀ x, (P i).decs.lookup ((j : Int) + 1) = some x → (P j).decided = true ∧ (P j).value = x
  g2 : ∀ j, j < n → ∀ v x, (P j).ownC v = some x → Prep n wrong P v x
  gt : ∀ j, j < n → ∀ r r' x x', r < r' → (P j).ownP r' = some x' → (P j).ownC r = some x → Pot n wrong P r x → x' = x
  gdec : ∀ j, j < n → (P j).decided = true → ∃ r, Comm n wrong P r (P j).value

/-- One of them goes on. -/
theorem Peers.move (h : Peers n slot wrong acc P) (hj : j < n) (hn : CoreM.Next (P j) c) (hl : CoreM.Loc acc c)
    (hp : ∀ k, k < n → wrong k = false → ∀ v x, (inner c.preps v).lookup ((k : Int) + 1) = some x → (inner (P j).preps v).lookup ((k : Int) + 1) = some x ∨ k = j ∨ (P k).ownP v = some x)
    (hc : ∀ k, k < n → wrong k = false → ∀ v x, (inner c.comms v).lookup ((k : Int) + 1) = some x → (inner (P j).comms v).lookup ((k : Int) + 1) = some x ∨ k = j ∨ (P k).ownC v = some x)
    (hd : ∀ k, k < n → wrong k = false → ∀ x, c.decs.lookup ((k : Int) + 1) = some x → (P j).decs.lookup ((k : Int) + 1) = some x ∨ ((P k).decided = true ∧ (P k).value = x))
    (hg2 : ∀ v x, c.ownC v = some x → (P j).ownC v = some x ∨ Prep n wrong P v x)
    (hgt : ∀ r r' x x', r < r' → c.ownP r' = some x' → c.ownC r = some x → Pot n wrong P r x → ((P j).ownP r' = some x' ∧ (P j).ownC r = some x) ∨ x' = x)
    (hdec : c.decided = true → (P j).decided = true ∨ ∃ r, Comm n wrong P r c.value) : Peers n slot wrong acc (upd P j c) := by
  have keepP : ∀ k v x, (P k).ownP v = some x → (upd P j c k).ownP v = some x := fun k v x e => by
    unfold upd; split
    · rename_i e2; subst e2; exact hn.keepP v x e
    · exact e
  have keepC : ∀ k v x, (P k).ownC v = some x → (upd P j c k).ownC v = some x := fun k v x e => by
    unfold upd; split
    · rename_i e2; subst e2; exact hn.keepC v x e
    · exact e
  have keepD : ∀ k, (P k).decided = true → (upd P j c k).decided = true ∧ (upd P j c k).value = (P k).value := fun k e => by
    unfold upd; split
    · rename_i e2; subst e2; exact hn.keepD e
    · exact ⟨e, rfl⟩
  have hids := h.ids j hj
  refine { n4 := h.n4, few := h.few, ids := fun k hk => ?_, loc := fun k hk => ?_, gp := fun i k hi hk hw v x e => ?_, gc := fun i k hi hk hw v x e => ?_, gd := fun i k hi hk hw x e => ?_, g2 := fun k hk v x e => ?_, gt := fun k hk r r' x x' hr e1 e2 hpot => ?_, gdec := fun k hk e => ?_ }
  · unfold upd; split
    · rename_i e2; subst e2; rw [hn.n, hn.me, hn.slot]; exact hids
    · exact h.ids k hk
  · unfold upd; split
    · exact hl
    · exact h.loc k hk
  · by_cases hij : i = j
    · subst hij
      rw [upd_same] at e
      rcases hp k hk hw v x e with e | rfl | e
      · exact keepP k v x (h.gp i k hi hk hw v x e)
      · rw [upd_same]; unfold CoreM.ownP; rw [hn.me, hids.2.1]; exact e
      · exact keepP k v x e
    · rw [upd_other _ _ hij] at e
      exact keepP k v x (h.gp i k hi hk hw v x e)
  · by_cases hij : i = j
    · subst hij
      rw [upd_same] at e
      rcases hc k hk hw v x e with e | rfl | e
      · exact keepC k v x (h.gc i k hi hk hw v x e)
      · rw [upd_same]; unfold CoreM.ownC; rw [hn.me, hids.2.1]; exact e
      · exact keepC k v x e
    · rw [upd_other _ _ hij] at e
      exact keepC k v x (h.gc i k hi hk hw v x e)
  · have key : (P k).decided = true ∧ (P k).value = x := by
      by_cases hij : i = j
      · subst hij
        rw [upd_same] at e
        rcases hd k hk hw x e with e | e
        · exact h.gd i k hi hk hw x e
        · exact e
      · rw [upd_other _ _ hij] at e
        exact h.gd i k hi hk hw x e
    obtain ⟨a, b⟩ := keepD k key.1
    exact ⟨a, b.trans key.2⟩
  · by_cases hkj : k = j
    · subst hkj
      rw [upd_same] at e
      rcases hg2 v x e with e | e
      · exact (h.g2 k hk v x e).upd hn
      · exact e.upd hn
    · rw [upd_other _ _ hkj] at e
      exact (h.g2 k hk v x e).upd hn
  · have hpot' := hpot.upd hn
    by_cases hkj : k = j
    · subst hkj
      rw [upd_same] at e1 e2
      rcases hgt r r' x x' hr e1 e2 hpot' with ⟨e1, e2⟩ | e
      · exact h.gt k hk r r' x x' hr e1 e2 hpot'
      · exact e
    · rw [upd_other _ _ hkj] at e1 e2
      exact h.gt k hk r r' x x' hr e1 e2 hpot'
  · by_cases hkj : k = j
    · subst hkj
      rw [upd_same] at e ⊢
      rcases hdec e with e2 | ⟨r, hr⟩
      · obtain ⟨r, hr⟩ := h.gdec k hk e2
        rw [(hn.keepD e2).2]
        exact ⟨r, hr.upd hn⟩
      · exact ⟨r, hr.upd hn⟩
    · rw [upd_other _ _ hkj] at e ⊢
      obtain ⟨r, hr⟩ := h.gdec k hk e
      exact ⟨r, hr.upd hn⟩

/-- What it knows of Prepares and Commits stays, the lock and what is decided too. -/
theorem Peers.quiet (h : Peers n slot wrong acc P) (hj : j < n) (hn : CoreM.Next (P j) c) (hl : CoreM.Loc acc c) (e : c.preps = (P j).preps ∧ c.comms = (P j).comms ∧ c.decs = (P j).decs) (hd : c.decided = true → (P j).decided = true) :
    Peers n slot wrong acc (upd P j c) := by
  obtain ⟨e1, e2, e3⟩ := e
  have ep : ∀ v, c.ownP v = (P j).ownP v := fun v => by unfold CoreM.ownP; rw [e1, hn.me]
  have ec : ∀ v, c.ownC v = (P j).ownC v := fun v => by unfold CoreM.ownC; rw [e2, hn.me]
  exact h.move hj hn hl (fun k _ _ v x e => .inl (by rw [← e1]; exact e)) (fun k _ _ v x e => .inl (by rw [← e2]; exact e)) (fun k _ _ x e => .inl (by rw [← e3]; exact e)) (fun v x e => .inl (by rw [← ec]; exact e))
    (fun r r' x x' _ a b _ => .inl ⟨by rw [← ep]; exact a, by rw [← ec]; exact b⟩) (fun e => .inl (hd e))

theorem quorum_le {n m : Nat} {c : CoreM} (hn : c.n = n) (h : (m : Int) ≥ c.quorum) : n - (n - 1) / 3 ≤ m := by
  unfold CoreM.quorum at h
  rw [hn] at h
  omega

/-- What is prepared in its eyes is. -/
theorem Peers.prepared (h : Peers n slot wrong acc P) (hj : j < n) {v : Int} {x : List UInt8} (hp : (P j).prepared v = some x) : Prep n wrong P v x := by
  obtain ⟨_, hv⟩ := count_mem hp
  have hl := h.loc j hj
  have hids := h.ids j hj
  rw [votes_cnt (n := n) (hl.fine.preps.inner v).1.1 (fun p hp => by have := hl.kp v p hp; rw [hids.1] at this; exact this)] at hv
  refine Nat.le_trans (quorum_le hids.1 hv) (cnt_mono fun k hk e => ?_)
  cases hw : wrong k with
  | true => rfl
  | false =>
    have e : (inner (P j).preps v).lookup ((k : Int) + 1) = some x := by simpa using e
    simp [h.gp j k hj hk hw v x e]

theorem Peers.prep_one (h : Peers n slot wrong acc P) {v : Int} {x y : List UInt8} (hx : Prep n wrong P v x) (hy : Prep n wrong P v y) : x = y := by
  obtain ⟨k, _, _, e1, e2⟩ := quorum_meet h.n4 h.few hx hy
  rw [beq_iff_eq] at e1 e2
  rw [e1] at e2
  exact Option.some.inj e2

/-- If a quorum may have told a Commit, what is prepared later is the same. -/
theorem Peers.later (h : Peers n slot wrong acc P) {r r' : Int} {x x' : List UInt8} (hr : r < r') (hpot : Pot n wrong P r x) (hp : Prep n wrong P r' x') : x' = x := by
  obtain ⟨k, hk, _, e1, e2⟩ := quorum_meet h.n4 h.few hpot hp
  simp only [Bool.or_eq_true, Bool.and_eq_true, beq_iff_eq, decide_eq_true_eq] at e1 e2
  have hv := (h.loc k hk).lp r' x' e2
  rcases e1 with e1 | ⟨e1, _⟩
  · exact h.gt k hk r r' x x' hr e2 e1 hpot
  · omega

/-- It tells a Prepare. -/
theorem Peers.prepare (h : Peers n slot wrong acc P) (hj : j < n) (hs : (P j).prepare acc = some c) : Peers n slot wrong acc (upd P j c) := by
  have hl := h.loc j hj
  obtain ⟨hlc, hnx⟩ := CoreM.prepare_loc hl hs
  have hids := h.ids j hj
  obtain ⟨p, hp, hn, hfit, rfl⟩ := prepare_some hs
  refine h.move hj hnx hlc (fun k hk _ v x e => ?_) (fun k _ _ v x e => .inl e) (fun k _ _ x e => .inl e) (fun v x e => .inl e) (fun r r' x x' hr e1 e2 hpot => ?_) (fun e => .inl e)
  · dsimp only at e
    rw [lookup_inner_setT] at e
    split at e
    · rename_i e2; rw [hids.2.1] at e2; exact .inr (.inl (by omega))
    · exact .inl e
  · rw [CoreM.ownP_prepare] at e1
    split at e1
    · rename_i er
      subst er
      cases e1
      right
      change (P j).ownC r = some x at e2
      have hlk := hl.lk1 r x e2
      have hr0 := CoreM.ownC_nonneg hl.fine e2
      unfold CoreM.fit at hfit
      split at hfit
      · cases hfit
      · split at hfit
        · rename_i hc
          simp only [Bool.or_eq_true, decide_eq_true_eq, beq_iff_eq] at hc
          rcases hc with hc | hc
          · omega
          · have hlo := hl.lk2 (by omega)
            rw [hc]
            by_cases hrl : r = (P j).lock
            · rw [hrl, hlo] at e2; exact Option.some.inj e2
            · exact h.later (show r < (P j).lock by omega) hpot (h.g2 j hj _ _ hlo)
        · simp only [Bool.and_eq_true, decide_eq_true_eq, beq_iff_eq] at hfit
          obtain ⟨⟨f1, f2⟩, f3⟩ := hfit
          have hpp := h.prepared hj f3
          by_cases hrl : r = p.2
          · rw [hrl] at e2
            exact h.prep_one hpp (h.g2 j hj _ _ e2)
          · exact h.later (show r < p.2 by omega) hpot hpp
    · exact .inl ⟨e1, e2⟩

/-- It tells a Commit. -/
theorem Peers.commit (h : Peers n slot wrong acc P) (hj : j < n) (hs : (P j).commit = some c) : Peers n slot wrong acc (upd P j c) := by
  have hl := h.loc j hj
  obtain ⟨hlc, hnx⟩ := CoreM.commit_loc hl hs
  have hids := h.ids j hj
  obtain ⟨x0, hp, hn, rfl⟩ := commit_some hs
  refine h.move hj hnx hlc (fun k _ _ v x e => .inl e) (fun k hk _ v x e => ?_) (fun k _ _ x e => .inl e) (fun v x e => ?_) (fun r r' x x' hr e1 e2 hpot => ?_) (fun e => .inl e)
  · dsimp only at e
    rw [lookup_inner_setT] at e
    split at e
    · rename_i e2; rw [hids.2.1] at e2; exact .inr (.inl (by omega))
    · exact .inl e
  · rw [CoreM.ownC_commit] at e
    split at e
    · rename_i e2; subst e2; cases e; exact .inr (h.prepared hj hp)
    · exact .inl e
  · rw [CoreM.ownC_commit] at e2
    split at e2
    · rename_i er
      have := hl.lp r' x' e1
      omega
    · exact .inl ⟨e1, e2⟩

/-- It decides. -/
theorem Peers.decide_ (h : Peers n slot wrong acc P) (hj : j < n) (hd0 : (P j).decided = false) (hs : (P j).decide_ = some c) : Peers n slot wrong acc (upd P j c) := by
  have hl := h.loc j hj
  obtain ⟨hlc, hnx⟩ := CoreM.decide_loc hl hd0 hs
  have hids := h.ids j hj
  obtain ⟨y, rfl, hy⟩ := decide_some hs
  refine h.move hj hnx hlc (fun k _ _ v x e => .inl e) (fun k _ _ v x e => .inl e) (fun k _ _ x e => .inl e) (fun v x e => .inl e) (fun r r' x x' _ e1 e2 _ => .inl ⟨e1, e2⟩) (fun _ => .inr ?_)
  have byD : ∀ k, k < n → wrong k = false → (P j).decs.lookup ((k : Int) + 1) = some y → ∃ r, Comm n wrong P r y := fun k hk hw e => by
    obtain ⟨a, b⟩ := h.gd j k hj hk hw y e
    rw [← b]
    exact h.gdec k hk a
  rcases hy with ⟨view, hy⟩ | hy
  · obtain ⟨_, hb⟩ := agreed_some hy
    have hq := quorum_le hids.1 hb
    by_cases hx : ∃ k, k < n ∧ wrong k = false ∧ (P j).decs.lookup ((k : Int) + 1) = some y
    · obtain ⟨k, hk, hw, e⟩ := hx
      exact byD k hk hw e
    · refine ⟨view, Nat.le_trans hq ?_⟩
      unfold CoreM.backers
      rw [show (P j).n.toNat = n by rw [hids.1]; rfl]
      refine cnt_mono fun k hk e => ?_
      cases hw : wrong k with
      | true => rfl
      | false =>
        have e : (inner (P j).comms view).lookup ((k : Int) + 1) = some y ∨ (P j).decs.lookup ((k : Int) + 1) = some y := by simpa using e
        rcases e with e | e
        · simp [h.gc j k hj hk hw view y e]
        · exact absurd ⟨k, hk, hw, e⟩ hx
  · obtain ⟨_, hv⟩ := count_mem hy
    rw [votes_cnt (n := n) hl.fine.decs.1.1 (fun p hp => by have := hl.kd p hp; rw [hids.1] at this; exact this)] at hv
    unfold CoreM.f at hv
    rw [hids.1] at hv
    have hf := h.few
    obtain ⟨k, hk, hw, e⟩ := cnt_lt (n := n) (A := wrong) (B := fun (k : Nat) => (P j).decs.lookup ((k : Int) + 1) == some y) (by omega)
    exact byD k hk hw (by simpa using e)

theorem Peers.step (h : Peers n slot wrong acc P) (hj : j < n) (hd0 : (P j).decided = false) (hs : (P j).step acc = some c) : Peers n slot wrong acc (upd P j c) := by
  have hl := h.loc j hj
  rcases step_some hs with e | ⟨_, e⟩ | ⟨_, _, e⟩ | ⟨_, _, _, e⟩ | ⟨_, _, _, _, e⟩
  · obtain ⟨a, b⟩ := CoreM.turn_loc hl e
    obtain ⟨x, _, _, rfl⟩ := turn_some e
    exact h.quiet hj b a ⟨rfl, rfl, rfl⟩ (fun e => e)
  · obtain ⟨a, b⟩ := CoreM.propose_loc hl e
    obtain ⟨_, _, ⟨_, _, _, rfl⟩ | ⟨_, _, rfl⟩⟩ := propose_some e
    all_goals exact h.quiet hj b a ⟨rfl, rfl, rfl⟩ (fun e => e)
  · exact h.prepare hj e
  · exact h.commit hj e
  · exact h.decide_ hj hd0 e

theorem Peers.settle (h : Peers n slot wrong acc P) (hj : j < n) : Peers n slot wrong acc (upd P j ((P j).settle acc)) :=
  CoreM.settle_keep (fun d => Peers n slot wrong acc (upd P j d))
    (fun d d' hd hu hs => by have := hd.step hj (c := d') (by rw [upd_same]; exact hu) (by rw [upd_same]; exact hs); rw [upd_upd] at this; exact this)
    (fun d hd hu => by
      have hl := hd.loc j hj
      rw [upd_same] at hl
      obtain ⟨a, b⟩ := CoreM.undecided_loc hl hu
      have := hd.quiet hj (c := d.undecided) (by rw [upd_same]; exact b) a (by rw [upd_same]; exact ⟨rfl, rfl, rfl⟩) (fun e => by cases e)
      rw [upd_upd] at this; exact this)
    (by rw [upd_self]; exact h)
theorem Peers.late (h : Peers n slot wrong acc P) (hj : j < n) : Peers n slot wrong acc (upd P j ((P j).late acc)) := by
  unfold CoreM.late
  split
  · rename_i hc
    simp only [Bool.and_eq_true, Bool.not_eq_true', decide_eq_true_eq] at hc
    have hl := h.loc j hj
    have a : CoreM.Loc acc { P j with view := (P j).view + 1 } := hl.quiet (hl.fine.nextView hc.2) ⟨rfl, rfl, rfl, rfl, rfl, rfl, rfl⟩ (by dsimp only; omega)
    have b : CoreM.Next (P j) { P j with view := (P j).view + 1 } := CoreM.Next.quiet ⟨rfl, rfl, rfl, rfl, rfl⟩ (by dsimp only; omega) (fun hd => ⟨hd, rfl⟩)
    have := (h.quiet hj b a ⟨rfl, rfl, rfl⟩ (fun e => e)).settle hj
    rw [upd_same, upd_upd] at this
    exact this
  · rw [upd_self]; exact h
theorem Peers.ask (h : Peers n slot wrong acc P) (hj : j < n) (l : List UInt8) : Peers n slot wrong acc (upd P j ((P j).ask acc l)) := by
  unfold CoreM.ask
  split
  · rw [upd_self]; exact h
  · rename_i hc
    simp only [Bool.or_eq_true, not_or, Bool.not_eq_true, decide_eq_false_iff_not] at hc
    have hl := h.loc j hj
    have a : CoreM.Loc acc { P j with wish := l, wishes := true } := hl.quiet (hl.fine.wishFor (show l.length ≤ 16777216 by omega)) ⟨rfl, rfl, rfl, rfl, rfl, rfl, rfl⟩ (Int.le_refl _)
    have b : CoreM.Next (P j) { P j with wish := l, wishes := true } := CoreM.Next.quiet ⟨rfl, rfl, rfl, rfl, rfl⟩ (Int.le_refl _) (fun hd => ⟨hd, rfl⟩)
    have := (h.quiet hj b a ⟨rfl, rfl, rfl⟩ (fun e => e)).settle hj
    rw [upd_same, upd_upd] at this
    exact this

/-- If the vote is of a right peer it is what this one told. -/
def Sound (n : Nat) (wrong : Nat → Bool) (P : Nat → CoreM) (v : Vote) : Prop := ∀ k, k < n → wrong k = false → v.frm = (k : Int) + 1 →
  (v.kind = 2 → (P k).ownP v.view = some v.value) ∧ (v.kind = 3 → (P k).ownC v.view = some v.value) ∧ (v.kind = 4 → (P k).decided = true ∧ (P k).value = v.value)

theorem Sound.upd {v : Vote} (h : Sound n wrong P v) (hn : CoreM.Next (P j) c) : Sound n wrong (upd P j c) v := fun k hk hw e => by
  obtain ⟨h1, h2, h3⟩ := h k hk hw e
  unfold Ytkkmkkgjpmlhaaa.upd
  split
  · rename_i e2
    subst e2
    exact ⟨fun e => hn.keepP _ _ (h1 e), fun e => hn.keepC _ _ (h2 e), fun e => by obtain ⟨a, b⟩ := h3 e; obtain ⟨a2, b2⟩ := hn.keepD a; exact ⟨a2, b2.trans b⟩⟩
  · exact ⟨h1, h2, h3⟩

/-- What another one told is known. -/
theorem Peers.know (h : Peers n slot wrong acc P) (hj : j < n) {v : Vote} (hs : Sound n wrong P v) (hv : v.okB = true) (hn : v.frm ≤ (P j).n) (hm : v.frm ≠ (P j).me) : Peers n slot wrong acc (upd P j ((P j).know v).2) := by
  have hl := h.loc j hj
  obtain ⟨hlc, hnx⟩ := CoreM.know_loc hl hv hn hm
  have hids := h.ids j hj
  have hk := (CoreM.okB_iff v).1 hv
  unfold CoreM.know at hlc hnx ⊢
  have triv : Peers n slot wrong acc (upd P j (P j)) := by rw [upd_self]; exact h
  by_cases h1 : v.kind = 1
  · rw [if_pos h1] at hlc hnx ⊢
    split
    · exact triv
    · rename_i hx
      rw [if_neg hx] at hlc hnx
      exact h.quiet hj hnx hlc ⟨rfl, rfl, rfl⟩ (fun e => e)
  rw [if_neg h1] at hlc hnx ⊢
  by_cases h2 : v.kind = 2
  · rw [if_pos h2] at hlc hnx ⊢
    dsimp only at hlc hnx ⊢
    split
    · exact triv
    · rename_i hx
      rw [if_neg hx] at hlc hnx
      refine h.move hj hnx hlc (fun k hk hw u x e => ?_) (fun k _ _ v x e => .inl e) (fun k _ _ x e => .inl e) (fun v x e => .inl e) (fun r r' x x' _ e1 e2 _ => .inl ⟨?_, e2⟩) (fun e => .inl e)
      · dsimp only at e
        rw [lookup_inner_setT] at e
        split at e
        · rename_i e2; cases e; rw [e2.1]; exact .inr (.inr ((hs k hk hw e2.2.symm).1 h2))
        · exact .inl e
      · unfold CoreM.ownP at e1 ⊢
        dsimp only at e1
        rw [lookup_inner_setT, if_neg (fun e => hm e.2.symm)] at e1
        exact e1
  rw [if_neg h2] at hlc hnx ⊢
  by_cases h3 : v.kind = 3
  · rw [if_pos h3] at hlc hnx ⊢
    dsimp only at hlc hnx ⊢
    split
    · exact triv
    · rename_i hx
      rw [if_neg hx] at hlc hnx
      have own : ∀ u x, CoreM.ownC { P j with comms := setT (P j).comms v.view v.frm v.value } u = some x → (P j).ownC u = some x := fun u x e => by
        unfold CoreM.ownC at e ⊢
        dsimp only at e
        rw [lookup_inner_setT, if_neg (fun e => hm e.2.symm)] at e
        exact e
      refine h.move hj hnx hlc (fun k _ _ v x e => .inl e) (fun k hk hw u x e => ?_) (fun k _ _ x e => .inl e) (fun v x e => .inl (own v x e)) (fun r r' x x' _ e1 e2 _ => .inl ⟨e1, own r x e2⟩) (fun e => .inl e)
      · dsimp only at e
        rw [lookup_inner_setT] at e
        split at e
        · rename_i e2; cases e; rw [e2.1]; exact .inr (.inr ((hs k hk hw e2.2.symm).2.1 h3))
        · exact .inl e
  rw [if_neg h3] at hlc hnx ⊢
  by_cases h5 : v.kind = 5
  · rw [if_pos h5] at hlc hnx ⊢
    dsimp only at hlc hnx ⊢
    split
    · exact triv
    · rename_i hx
      rw [if_neg hx] at hlc hnx
      exact h.quiet hj hnx hlc ⟨rfl, rfl, rfl⟩ (fun e => e)
  rw [if_neg h5] at hlc hnx ⊢
  split
  · exact triv
  · rename_i hx
    rw [if_neg hx] at hlc hnx
    refine h.move hj hnx hlc (fun k _ _ v x e => .inl e) (fun k _ _ v x e => .inl e) (fun k hk hw x e => ?_) (fun v x e => .inl e) (fun r r' x x' _ e1 e2 _ => .inl ⟨e1, e2⟩) (fun e => .inl e)
    dsimp only at e
    rw [lookup_put] at e
    split at e
    · rename_i e2; cases e; exact .inr ((hs k hk hw e2.symm).2.2 (by omega))
    · exact .inl e
theorem Peers.take (h : Peers n slot wrong acc P) (hj : j < n) {v : Vote} (hs : Sound n wrong P v) : Peers n slot wrong acc (upd P j ((P j).take acc v).2) := by
  rcases CoreM.take_cases acc (P j) v with e | ⟨_, hn, hm, hv, _, e⟩
  · rw [e, upd_self]; exact h
  · rw [e]
    have h1 := h.know hj hs hv hn hm
    have hl1 := h1.loc j hj
    rw [upd_same] at hl1
    obtain ⟨a, b⟩ := CoreM.see_loc hl1 hv
    have hse : (CoreM.see ((P j).know v).2 v).preps = ((P j).know v).2.preps ∧ (CoreM.see ((P j).know v).2 v).comms = ((P j).know v).2.comms ∧ (CoreM.see ((P j).know v).2 v).decs = ((P j).know v).2.decs ∧ (CoreM.see ((P j).know v).2 v).decided = ((P j).know v).2.decided := by
      unfold CoreM.see; split <;> exact ⟨rfl, rfl, rfl, rfl⟩
    have h2 := h1.quiet hj (c := CoreM.see ((P j).know v).2 v) (by rw [upd_same]; exact b) a (by rw [upd_same]; exact ⟨hse.1, hse.2.1, hse.2.2.1⟩) (fun e => by rw [upd_same]; rw [← hse.2.2.2]; exact e)
    have h3 := h2.settle hj
    rw [upd_same, upd_upd, upd_upd] at h3
    exact h3

/-! ### One value -/
theorem Peers.comm_prep (h : Peers n slot wrong acc P) {r : Int} {x : List UInt8} (hc : Comm n wrong P r x) : Prep n wrong P r x := by
  obtain ⟨k, hk, _, e⟩ := quorum_some h.n4 h.few hc
  exact h.g2 k hk r x (by simpa using e)
theorem Peers.comm_one (h : Peers n slot wrong acc P) {r r' : Int} {x y : List UInt8} (hx : Comm n wrong P r x) (hy : Comm n wrong P r' y) : x = y := by
  rcases Int.lt_trichotomy r r' with hr | hr | hr
  · exact (h.later hr hx.pot (h.comm_prep hy)).symm
  · subst hr
    exact h.prep_one (h.comm_prep hx) (h.comm_prep hy)
  · exact h.later hr hy.pot (h.comm_prep hx)
theorem Peers.comm_acc (h : Peers n slot wrong acc P) {r : Int} {x : List UInt8} (hc : Comm n wrong P r x) : acc x = true := by
  obtain ⟨k, hk, _, e⟩ := quorum_some h.n4 h.few (h.comm_prep hc)
  exact (h.loc k hk).la r x (by simpa using e)
theorem Peers.agree (h : Peers n slot wrong acc P) {i k : Nat} (hi : i < n) (hk : k < n) (di : (P i).decided = true) (dk : (P k).decided = true) : (P i).value = (P k).value := by
  obtain ⟨r, hr⟩ := h.gdec i hi di
  obtain ⟨r', hr'⟩ := h.gdec k hk dk
  exact h.comm_one hr hr'
theorem Peers.accepted (h : Peers n slot wrong acc P) {i : Nat} (hi : i < n) (di : (P i).decided = true) : acc (P i).value = true := by
  obtain ⟨r, hr⟩ := h.gdec i hi di
  exact h.comm_acc hr

/-! ### What it tells is sound -/
theorem mine_mem {kind : Int} {t : TM} {x : Vote} (h : x ∈ c.mine kind t) : x.kind = kind ∧ x.frm = c.me ∧ x.slot = c.slot ∧ x.valid = -1 ∧ (inner t x.view).lookup c.me = some x.value := by
  unfold CoreM.mine at h
  obtain ⟨v, _, hv⟩ := List.mem_filterMap.1 h
  unfold CoreM.mineAt at hv
  obtain ⟨l, hl, rfl⟩ := Option.map_eq_some_iff.1 hv
  exact ⟨rfl, rfl, rfl, rfl, hl⟩
theorem says_cases {x : Vote} (h : x ∈ c.says) : x = c.word ∨ (∃ p, c.props.lookup c.view = some p ∧ c.decided = false ∧ c.proposer c.view = c.me ∧ x = ⟨1, c.me, c.slot, c.view, p.2, p.1⟩) ∨ x ∈ c.mine 2 c.preps ∨ x ∈ c.mine 3 c.comms := by
  unfold CoreM.says at h
  simp only [List.mem_append, List.mem_singleton] at h
  rcases h with ((h | h) | h) | h
  · exact .inl h
  · right; left
    unfold CoreM.offer at h
    split at h
    · rename_i p hp
      split at h
      · rename_i hc
        simp only [Bool.and_eq_true, Bool.not_eq_true', beq_iff_eq] at hc
        exact ⟨p, hp, hc.1, hc.2, List.mem_singleton.1 h⟩
      · cases h
    · cases h
  · exact .inr (.inr (.inl h))
  · exact .inr (.inr (.inr h))
theorem says_frm {x : Vote} (h : x ∈ c.says) : x.frm = c.me ∧ x.slot = c.slot := by
  rcases says_cases h with rfl | ⟨p, _, _, _, rfl⟩ | h | h
  · unfold CoreM.word; split <;> exact ⟨rfl, rfl⟩
  · exact ⟨rfl, rfl⟩
  · exact ⟨(mine_mem h).2.1, (mine_mem h).2.2.1⟩
  · exact ⟨(mine_mem h).2.1, (mine_mem h).2.2.1⟩
theorem says_true {x : Vote} (h : x ∈ c.says) : (x.kind = 2 → c.ownP x.view = some x.value) ∧ (x.kind = 3 → c.ownC x.view = some x.value) ∧ (x.kind = 4 → c.decided = true ∧ c.value = x.value) := by
  rcases says_cases h with rfl | ⟨p, _, _, _, rfl⟩ | h | h
  · unfold CoreM.word
    split
    · rename_i hd; exact ⟨fun e => by simp at e, fun e => by simp at e, fun _ => ⟨hd, rfl⟩⟩
    · exact ⟨fun e => by simp at e, fun e => by simp at e, fun e => by simp at e⟩
  · exact ⟨fun e => by simp at e, fun e => by simp at e, fun e => by simp at e⟩
  · obtain ⟨e1, _, _, _, e2⟩ := mine_mem h
    exact ⟨fun _ => e2, fun e => by omega, fun e => by omega⟩
  · obtain ⟨e1, _, _, _, e2⟩ := mine_mem h
    exact ⟨fun e => by omega, fun _ => e2, fun e => by omega⟩
theorem Peers.says_sound (h : Peers n slot wrong acc P) (hj : j < n) {x : Vote} (hx : x ∈ (P j).says) : Sound n wrong P x := fun k hk hw e => by
  have e2 := (says_frm hx).1
  rw [(h.ids j hj).2.1] at e2
  obtain rfl : k = j := by omega
  exact says_true hx
theorem wrong_sound (hw : wrong j = true) {x : Vote} (hx : x.frm = (j : Int) + 1) : Sound n wrong P x := fun k hk hw2 e => by
  obtain rfl : k = j := by omega
  rw [hw] at hw2
  cases hw2
end
end Go.Proofs.Ytkkmkkgjpmlhaaa
