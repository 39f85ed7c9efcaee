/- Cores whose values are short and whose views are few: how long their bytes are. No program in sight. A core that begins anew among its peers. No program in sight. What lasts is the same as long as it hasn't grown. No program in sight. Of: what the steps of a beginning anew leave. Of: a core that begins anew. -/
import Derived.Test.YtkkmkkgjpmlhaaaV23
import Derived.Test.YtkkmkkgjpmlhaaaV15
import Derived.Test.YtkkmkkgjpmlhaaaV21
import Derived.Test.YtkkmkkgjpmlhaaaV06
namespace Go.Proofs.Ytkkmkkgjpmlhaaa
namespace CoreM
variable {acc : List UInt8 → Bool} {c c' : CoreM} {L : Nat}

/-- Values of at most L bytes, views up to the last one. -/
structure Lim (L : Nat) (c : CoreM) : Prop where
  view : c.view ≤ 1048576
  wish : c.wish.length ≤ L
  value : c.value.length ≤ L
  props : ∀ v p, c.props.lookup v = some p → p.1.length ≤ L ∧ p.2 ≤ 1048576
  preps : ∀ v who x, (inner c.preps v).lookup who = some x → x.length ≤ L ∧ v ≤ 1048576
  comms : ∀ v who x, (inner c.comms v).lookup who = some x → x.length ≤ L ∧ v ≤ 1048576
  decs : ∀ who x, c.decs.lookup who = some x → x.length ≤ L
  seen : ∀ p ∈ c.seen, p.2 ≤ 1048576

theorem Lim.prepared (h : Lim L c) {v : Int} {x : List UInt8} (hp : c.prepared v = some x) : x.length ≤ L ∧ v ≤ 1048576 := by
  obtain ⟨⟨who, hw⟩, _⟩ := count_mem hp
  exact h.preps v who x hw
theorem Lim.turn (h : Lim L c) (hs : c.turn = some c') : Lim L c' := by
  obtain ⟨x, hx, _, rfl⟩ := turn_some hs
  obtain ⟨p, hp, rfl⟩ := reach_mem hx
  exact ⟨h.seen p hp, h.wish, h.value, h.props, h.preps, h.comms, h.decs, h.seen⟩
theorem Lim.propose (h : Lim L c) (hs : c.propose = some c') : Lim L c' := by
  obtain ⟨_, _, hs⟩ := propose_some hs
  rcases hs with ⟨view, v, hb, rfl⟩ | ⟨_, _, rfl⟩
  · obtain ⟨_, hp, _⟩ := best_mem hb
    have hl := h.prepared hp
    refine ⟨h.view, h.wish, h.value, fun u p hu => ?_, h.preps, h.comms, h.decs, h.seen⟩
    dsimp only at hu
    rw [lookup_put] at hu
    split at hu
    · cases hu; exact hl
    · exact h.props u p hu
  · refine ⟨h.view, h.wish, h.value, fun u p hu => ?_, h.preps, h.comms, h.decs, h.seen⟩
    dsimp only at hu
    rw [lookup_put] at hu
    split at hu
    · cases hu; exact ⟨h.wish, show (-1 : Int) ≤ 1048576 by decide⟩
    · exact h.props u p hu
theorem Lim.prepare (h : Lim L c) (hs : c.prepare acc = some c') : Lim L c' := by
  obtain ⟨p, hp, _, _, rfl⟩ := prepare_some hs
  refine ⟨h.view, h.wish, h.value, h.props, fun v who x hx => ?_, h.comms, h.decs, h.seen⟩
  dsimp only at hx
  rw [lookup_inner_setT] at hx
  split at hx
  · rename_i e; cases hx; rw [e.1]; exact ⟨(h.props _ _ hp).1, h.view⟩
  · exact h.preps v who x hx
theorem Lim.commit (h : Lim L c) (hs : c.commit = some c') : Lim L c' := by
  obtain ⟨x0, hp, _, rfl⟩ := commit_some hs
  refine ⟨h.view, h.wish, h.value, h.props, h.preps, fun v who x hx => ?_, h.decs, h.seen⟩
  dsimp only at hx
  rw [lookup_inner_setT] at hx
  split at hx
  · rename_i e; cases hx; rw [e.1]; exact ⟨(h.prepared hp).1, h.view⟩
  · exact h.comms v who x hx
theorem Lim.decide_ (h : Lim L c) (hs : c.decide_ = some c') : Lim L c' := by
  obtain ⟨v, rfl, hv⟩ := decide_some hs
  refine ⟨h.view, h.wish, ?_, h.props, h.preps, h.comms, h.decs, h.seen⟩
  rcases hv with ⟨view, hv⟩ | hv
  · obtain ⟨⟨who, hw⟩, _⟩ := agreed_some hv
    exact (h.comms view who v hw).1
  · obtain ⟨⟨who, hw⟩, _⟩ := count_mem hv
    exact h.decs who v hw
theorem Lim.undecided (h : Lim L c) : Lim L c.undecided := ⟨h.view, h.wish, Nat.zero_le _, h.props, h.preps, h.comms, h.decs, h.seen⟩
theorem Lim.step (h : Lim L c) (hs : c.step acc = some c') : Lim L c' := by
  rcases step_some hs with e | ⟨_, e⟩ | ⟨_, _, e⟩ | ⟨_, _, _, e⟩ | ⟨_, _, _, _, e⟩
  · exact h.turn e
  · exact h.propose e
  · exact h.prepare e
  · exact h.commit e
  · exact h.decide_ e
theorem Lim.settle (h : Lim L c) : Lim L (c.settle acc) := settle_keep (Lim L) (fun _ _ h _ hs => h.step hs) (fun _ h _ => h.undecided) h
theorem Lim.late (h : Lim L c) : Lim L (c.late acc) := by
  unfold CoreM.late
  split
  · rename_i hc
    simp only [Bool.and_eq_true, decide_eq_true_eq] at hc
    exact Lim.settle ⟨by dsimp only; omega, h.wish, h.value, h.props, h.preps, h.comms, h.decs, h.seen⟩
  · exact h
theorem Lim.ask (h : Lim L c) {l : List UInt8} (hl : l.length ≤ L) : Lim L (c.ask acc l) := by
  unfold CoreM.ask
  split
  · exact h
  · exact Lim.settle ⟨h.view, hl, h.value, h.props, h.preps, h.comms, h.decs, h.seen⟩
theorem Lim.know (h : Lim L c) {v : Vote} (hv : v.okB = true) (hl : v.value.length ≤ L) : Lim L (c.know v).2 := by
  have hk := (okB_iff v).1 hv
  have inT : ∀ t : TM, (∀ u who x, (inner t u).lookup who = some x → x.length ≤ L ∧ u ≤ 1048576) → ∀ u who x, (inner (setT t v.view v.frm v.value) u).lookup who = some x → x.length ≤ L ∧ u ≤ 1048576 := fun t ht u who x hx => by
    rw [lookup_inner_setT] at hx
    split at hx
    · rename_i e; cases hx; rw [e.1]; exact ⟨hl, hk.2.2.2.2.2.2.2.1⟩
    · exact ht u who x hx
  unfold CoreM.know
  split
  · split
    · exact h
    · refine ⟨h.view, h.wish, h.value, fun u p hu => ?_, h.preps, h.comms, h.decs, h.seen⟩
      dsimp only at hu
      rw [lookup_put] at hu
      split at hu
      · cases hu; exact ⟨hl, hk.2.2.2.2.2.2.2.2.2.1⟩
      · exact h.props u p hu
  split
  · dsimp only
    split
    · exact h
    · exact ⟨h.view, h.wish, h.value, h.props, inT _ h.preps, h.comms, h.decs, h.seen⟩
  split
  · dsimp only
    split
    · exact h
    · exact ⟨h.view, h.wish, h.value, h.props, h.preps, inT _ h.comms, h.decs, h.seen⟩
  split
  · dsimp only
    split
    · exact h
    · exact ⟨h.view, h.wish, h.value, h.props, h.preps, h.comms, h.decs, h.seen⟩
  split
  · exact h
  · refine ⟨h.view, h.wish, h.value, h.props, h.preps, h.comms, fun who x hx => ?_, h.seen⟩
    dsimp only at hx
    rw [lookup_put] at hx
    split at hx
    · cases hx; exact hl
    · exact h.decs who x hx
theorem Lim.see (h : Lim L c) {v : Vote} (hv : v.okB = true) : Lim L (c.see v) := by
  have hk := (okB_iff v).1 hv
  unfold CoreM.see
  split
  · exact h
  · refine ⟨h.view, h.wish, h.value, h.props, h.preps, h.comms, h.decs, fun p hp => ?_⟩
    rcases mem_put hp with rfl | ⟨hp, _⟩
    · dsimp only
      have h0 : (c.seen.lookup v.frm).getD 0 ≤ 1048576 := by
        cases hl : c.seen.lookup v.frm with
        | none => simp
        | some s => exact h.seen _ (lookup_mem hl)
      have := hk.2.2.2.2.2.2.2.1
      omega
    · exact h.seen p hp
theorem Lim.take (h : Lim L c) {v : Vote} (hl : v.value.length ≤ L) : Lim L (c.take acc v).2 := by
  rcases take_cases acc c v with e | ⟨_, _, _, hv, _, e⟩
  · rw [e]; exact h
  · rw [e]; exact ((h.know hv hl).see hv).settle
theorem Lim.new (L : Nat) (n me slot : Int) : Lim L { n := n, me := me, slot := slot } :=
  ⟨show (0 : Int) ≤ 1048576 by decide, Nat.zero_le _, Nat.zero_le _, (fun _ _ h => by cases h), (fun _ _ _ h => by cases h), (fun _ _ _ h => by cases h), (fun _ _ h => by cases h), (fun _ h => by cases h)⟩

/-! ### How long the bytes are -/
theorem rise_length : ∀ (l : List Vote) (lo hi : Int), (∀ x ∈ l, lo ≤ x.view ∧ x.view ≤ hi) → l.Pairwise (fun x y => x.view < y.view) → (l.length : Int) ≤ max 0 (hi - lo + 1)
  | [], _, _, _, _ => by simp; omega
  | x :: l, lo, hi, hb, hp => by
    have hp2 := List.pairwise_cons.1 hp
    have h1 := rise_length l (x.view + 1) hi (fun y hy => ⟨by have := hp2.1 y hy; omega, (hb y (List.mem_cons_of_mem _ hy)).2⟩) hp2.2
    have h2 := hb x List.mem_cons_self
    simp only [List.length_cons]
    omega
theorem votesBytes_le {L : Nat} : ∀ (l : List Vote), (∀ x ∈ l, x.value.length ≤ L) → (votesBytes l).length ≤ l.length * (8 + L)
  | [], _ => by simp [votesBytes]
  | x :: l, h => by
    have h1 := votesBytes_le l (fun y hy => h y (List.mem_cons_of_mem _ hy))
    have h2 := h x List.mem_cons_self
    have e : votesBytes (x :: l) = voteBytes x ++ votesBytes l := rfl
    have h3 : (voteBytes x).length = 8 + x.value.length := by unfold voteBytes; rw [List.length_append, List.length_append, be4_len, be4_len]
    rw [e, List.length_append, h3, List.length_cons, Nat.add_mul]
    omega
theorem Lim.bytes (h : Lim L c) (hf : c.Fine) (hL : L ≤ 100) : c.bytes.length ≤ 268435456 := by
  have one : ∀ kind (t : TM), TMFine t → (∀ v who x, (inner t v).lookup who = some x → x.length ≤ L ∧ v ≤ 1048576) → (block (c.mine kind t)).length ≤ 4 + 1048577 * 108 := fun kind t ht hl => by
    have h1 := rise_length (c.mine kind t) 0 1048576 (fun x hx => ⟨(mine_view ht x hx).1, (hl _ _ _ (mine_mem hx).2.2.2.2).2⟩) (mine_rise ht)
    have h2 := votesBytes_le (L := L) (c.mine kind t) (fun x hx => (hl _ _ _ (mine_mem hx).2.2.2.2).1)
    have h3 : (c.mine kind t).length * (8 + L) ≤ 1048577 * 108 := Nat.mul_le_mul (by omega) (by omega)
    unfold block
    rw [List.length_append, be4_len]
    omega
  have h2 := one 2 c.preps hf.preps h.preps
  have h3 := one 3 c.comms hf.comms h.comms
  have hv := h.value
  unfold CoreM.bytes
  rw [List.length_append, List.length_append, List.length_append, be4_len]
  split
  · rw [List.length_cons, List.length_append, be4_len]; omega
  · rw [List.length_cons, be4_len]; omega
theorem withLock_lim (h : Lim L c) : Lim L c.withLock := by
  unfold CoreM.withLock
  split
  · exact h
  · exact ⟨h.view, h.wish, h.value, h.props, h.preps, h.comms, h.decs, h.seen⟩
theorem Lim.anew (h : Lim L c) (hf : c.Fine) : Lim L c.anew := by
  unfold CoreM.anew
  refine withLock_lim ⟨h.view, Nat.zero_le _, ?_, fun _ _ h => (by cases h), fun v who x hx => ?_, fun v who x hx => ?_, fun _ _ h => (by cases h), fun _ h => (by cases h)⟩
  · dsimp only
    split
    · exact h.value
    · exact Nat.zero_le _
  · have hw : who = c.me := ownMap_peer (lookup_mem hx)
    subst hw
    dsimp only at hx
    rw [ownMap_own hf.preps] at hx
    exact h.preps v _ x hx
  · have hw : who = c.me := ownMap_peer (lookup_mem hx)
    subst hw
    dsimp only at hx
    rw [ownMap_own hf.comms] at hx
    exact h.comms v _ x hx

/-! ### What is told can be told -/
theorem Lim.says (h : Lim L c) (hf : c.Fine) (hL : L ≤ 4096) {x : Vote} (hx : x ∈ c.says) (hown : ∀ v y, c.ownP v = some y → v ≤ c.view) (hownC : ∀ v y, c.ownC v = some y → v ≤ c.view) : x.okB = true ∧ x.view ≤ c.view := by
  obtain ⟨n0, n1, m0, m1, s0, s1, v0, v1⟩ := hf.ok
  have hv := h.view
  rw [okB_iff]
  have mine : ∀ kind (t : TM), TMFine t → (1 ≤ kind ∧ kind ≤ 5) → (∀ v who x, (inner t v).lookup who = some x → x.length ≤ L ∧ v ≤ 1048576) → (∀ v y, (inner t v).lookup c.me = some y → v ≤ c.view) → x ∈ c.mine kind t → _ := fun kind t ht hk hl ho hm => by
    obtain ⟨e1, e2, e3, e4, e5⟩ := mine_mem hm
    have h1 := hl _ _ _ e5
    have h2 := ho _ _ e5
    have h3 := (mine_view ht x hm).1
    exact (show (1 ≤ x.kind ∧ x.kind ≤ 5 ∧ 1 ≤ x.frm ∧ x.frm ≤ 64 ∧ 0 ≤ x.slot ∧ x.slot ≤ 256 ∧ 0 ≤ x.view ∧ x.view ≤ 1048576 ∧ -1 ≤ x.valid ∧ x.valid ≤ 1048576 ∧ x.value.length ≤ 4096) ∧ x.view ≤ c.view from by omega)
  rcases says_cases hx with rfl | ⟨p, hp, _, _, rfl⟩ | hm | hm
  · unfold CoreM.word
    have := h.value
    split
    · dsimp only; omega
    · dsimp only; simp only [List.length_nil]; omega
  · have hpv := h.props _ _ hp
    have hpv2 := hf.propsV _ (lookup_mem hp)
    dsimp only at hpv2 ⊢
    omega
  · exact mine 2 _ hf.preps (by decide) h.preps hown hm
  · exact mine 3 _ hf.comms (by decide) h.comms hownC hm
end CoreM
end Go.Proofs.Ytkkmkkgjpmlhaaa
namespace Go.Proofs.Ytkkmkkgjpmlhaaa
namespace CoreM
variable {acc : List UInt8 → Bool} {c : CoreM}
theorem anew_same (c : CoreM) : c.anew.n = c.n ∧ c.anew.me = c.me ∧ c.anew.slot = c.slot ∧ c.anew.view = c.view ∧ c.anew.preps = ownMap c.me (c.mine 2 c.preps) ∧ c.anew.comms = ownMap c.me (c.mine 3 c.comms) ∧ c.anew.decided = c.decided ∧ c.anew.value = if c.decided then c.value else [] :=
  withLock_same _
theorem anew_decs (c : CoreM) : c.anew.decs = [] := by unfold anew withLock; split <;> rfl
theorem anew_ownP (hf : c.Fine) (v : Int) : c.anew.ownP v = c.ownP v := by
  obtain ⟨_, e2, _, _, e5, _⟩ := anew_same c
  unfold ownP
  rw [e2, e5, ownMap_own hf.preps]
theorem anew_ownC (hf : c.Fine) (v : Int) : c.anew.ownC v = c.ownC v := by
  obtain ⟨_, e2, _, _, _, e6, _⟩ := anew_same c
  unfold ownC
  rw [e2, e6, ownMap_own hf.comms]
theorem anew_next (hf : c.Fine) : Next c c.anew := by
  obtain ⟨e1, e2, e3, e4, _, _, e7, e8⟩ := anew_same c
  exact ⟨e1, e2, e3, by rw [e4]; exact Int.le_refl _, fun v x h => by rw [anew_ownP hf]; exact h, fun v x h => by rw [anew_ownC hf]; exact h, fun v x h => .inl (by rw [← anew_ownC hf]; exact h), fun hd => ⟨by rw [e7]; exact hd, by rw [e8, hd]; rfl⟩⟩
/-- The lock is the last Commit. -/
theorem anew_lock (hf : c.Fine) : (∀ v x, c.ownC v = some x → v ≤ c.anew.lock) ∧ (0 ≤ c.anew.lock → c.ownC c.anew.lock = some c.anew.locked) := by
  have hr := mine_rise (c := c) (kind := 3) hf.comms
  have hk := ownMap_keys (me := c.me) hr
  have hown : ∀ v, (inner (ownMap c.me (c.mine 3 c.comms)) v).lookup c.me = c.ownC v := fun v => ownMap_own hf.comms v
  have hmem : ∀ v x, c.ownC v = some x → v ∈ (c.mine 3 c.comms).map (·.view) := fun v x h => List.mem_map.2 ⟨_, mine_has (kind := 3) hf.comms h, rfl⟩
  have hrise : ((c.mine 3 c.comms).map (·.view)).Pairwise (· < ·) := List.pairwise_map.2 hr
  unfold anew withLock
  dsimp only
  rw [hk]
  have hsrc : ∀ v, v ∈ (c.mine 3 c.comms).map (·.view) → ∃ x, c.ownC v = some x := fun v hv => by
    obtain ⟨x, hx, rfl⟩ := List.mem_map.1 hv
    exact ⟨x.value, (mine_mem hx).2.2.2.2⟩
  generalize (c.mine 3 c.comms).map (·.view) = ks at hmem hrise hsrc
  split
  · rename_i hn
    have hks : ks = [] := by simpa using hn
    subst hks
    refine ⟨fun v x h => ?_, fun h => absurd h (show ¬ (0 : Int) ≤ -1 by decide)⟩
    exact absurd (hmem v x h) (by simp)
  · rename_i view hv
    obtain ⟨hne, hlast⟩ : ∃ hne, ks.getLast hne = view := by
      cases ks with
      | nil => cases hv
      | cons a l => exact ⟨by simp, by simpa [List.getLast?] using hv⟩
    refine ⟨fun v x h => ?_, fun _ => ?_⟩
    · dsimp only
      have hm := hmem v x h
      rw [← List.dropLast_concat_getLast hne, hlast] at hm hrise
      rcases List.mem_append.1 hm with hm | hm
      · exact Int.le_of_lt ((List.pairwise_append.1 hrise).2.2 v hm view (by simp))
      · rw [List.mem_singleton.1 hm]; exact Int.le_refl _
    · dsimp only
      rw [hown]
      have hin : view ∈ ks := hlast ▸ List.getLast_mem hne
      obtain ⟨x, hx⟩ := hsrc view hin
      rw [hx]
      rfl
theorem anew_loc (h : Loc acc c) (hfine : c.anew.Fine) : Loc acc c.anew := by
  obtain ⟨e1, e2, e3, e4, e5, e6, e7, e8⟩ := anew_same c
  obtain ⟨l1, l2⟩ := anew_lock h.fine
  have hm : 1 ≤ c.me ∧ c.me ≤ c.n := ⟨h.fine.ok.me0, h.fine.ok.me1⟩
  exact { fine := hfine
          lp := fun v x hx => by rw [e4]; rw [anew_ownP h.fine] at hx; exact h.lp v x hx
          lc := fun v x hx => by rw [e4]; rw [anew_ownC h.fine] at hx; exact h.lc v x hx
          lk1 := fun v x hx => by rw [anew_ownC h.fine] at hx; exact l1 v x hx
          lk2 := fun hl => by rw [anew_ownC h.fine]; exact l2 hl
          la := fun v x hx => by rw [anew_ownP h.fine] at hx; exact h.la v x hx
          kp := fun v p hp => by rw [e5] at hp; rw [e1, ownMap_peer hp]; exact hm
          kc := fun v p hp => by rw [e6] at hp; rw [e1, ownMap_peer hp]; exact hm
          kd := fun p hp => by rw [anew_decs] at hp; cases hp }
theorem anew_fine {L : Nat} (h : c.Fine) (hl : Lim L c) (hL : L ≤ 100) (hp : ∀ v x, c.ownP v = some x → v ≤ c.view) (hc : ∀ v x, c.ownC v = some x → v ≤ c.view) : c.anew.Fine :=
  ofM_fine ⟨h.ok.n0, h.ok.n1, h.ok.me0, h.ok.me1, h.ok.slot0, h.ok.slot1⟩ (hl.bytes h hL) (anew_of h hp hc hl.view (Nat.le_trans (hl.bytes h hL) (by decide)))
end CoreM
section
variable {n : Nat} {wrong : Nat → Bool} {acc : List UInt8 → Bool} {slot : Int} {P : Nat → CoreM} {j : Nat}
theorem Peers.anew (h : Peers n slot wrong acc P) (hj : j < n) (hf : (P j).anew.Fine) : Peers n slot wrong acc (upd P j (P j).anew) := by
  have hl := h.loc j hj
  obtain ⟨e1, e2, e3, e4, e5, e6, e7, e8⟩ := CoreM.anew_same (P j)
  have hids := h.ids j hj
  have me : ∀ k : Nat, (k : Int) + 1 = (P j).me → k = j := fun k e => by rw [hids.2.1] at e; omega
  refine h.move hj (CoreM.anew_next hl.fine) (CoreM.anew_loc hl hf) (fun k _ _ v x e => ?_) (fun k _ _ v x e => ?_) (fun k _ _ x e => ?_) (fun v x e => ?_) (fun r r' x x' _ a b _ => ?_) (fun e => .inl (by rw [← e7]; exact e))
  · rw [e5] at e
    exact .inr (.inl (me k (ownMap_peer (lookup_mem e))))
  · rw [e6] at e
    exact .inr (.inl (me k (ownMap_peer (lookup_mem e))))
  · rw [CoreM.anew_decs] at e; cases e
  · rw [CoreM.anew_ownC hl.fine] at e; exact .inl e
  · rw [CoreM.anew_ownP hl.fine] at a; rw [CoreM.anew_ownC hl.fine] at b; exact .inl ⟨a, b⟩
end
end Go.Proofs.Ytkkmkkgjpmlhaaa
namespace Go.Proofs.Ytkkmkkgjpmlhaaa

/-- A thing that happens to a core. -/
def stepA (acc : List UInt8 → Bool) (c : CoreM) (a : ActM) : CoreM :=
  if a.kind = 0 then (c.take acc a.vote).2 else if a.kind = 1 then c.ask acc a.value else if a.kind = 2 then c.late acc else c
section
variable {acc : List UInt8 → Bool} {c c' : CoreM} {L : Nat}
theorem stepA_keep (h : CoreM.Loc acc c) (hl : CoreM.Lim L c) {a : ActM} (h1 : a.vote.value.length ≤ L) (h2 : a.value.length ≤ L) : CoreM.Loc acc (stepA acc c a) ∧ CoreM.Lim L (stepA acc c a) ∧ CoreM.Next c (stepA acc c a) := by
  unfold stepA
  split
  · obtain ⟨x, y⟩ := CoreM.take_loc h a.vote; exact ⟨x, hl.take h1, y⟩
  split
  · obtain ⟨x, y⟩ := CoreM.ask_loc h a.value; exact ⟨x, hl.ask h2, y⟩
  split
  · obtain ⟨x, y⟩ := CoreM.late_loc h; exact ⟨x, hl.late, y⟩
  · exact ⟨h, hl, CoreM.Next.refl c⟩

theorem filterMap_length {α β : Type} (f : α → Option β) : ∀ l : List α, (l.filterMap f).length = (l.filter fun x => (f x).isSome).length
  | [] => rfl
  | x :: l => by
    have ih := filterMap_length f l
    rw [List.filterMap_cons, List.filter_cons]
    cases h : f x with
    | none => simpa using ih
    | some y => simpa using ih
theorem mine_length {kind : Int} {t : TM} (ht : TMFine t) : (c.mine kind t).length = ownN c.me t := by
  unfold CoreM.mine
  rw [filterMap_length]
  have hp : (CoreM.keys t).Perm (t.map (·.1)) := sortZ_perm _
  rw [(hp.filter _).length_eq, List.filter_map, List.length_map]
  unfold ownN
  congr 1
  apply List.filter_congr
  intro p hp
  have e : inner t p.1 = p.2 := by unfold inner; rw [lookup_of_mem ht.1.1 hp]; rfl
  simp only [Function.comp_def, CoreM.mineAt, e, Option.isSome_map]

/-- Rising lists: one lies in the other, and is as long. -/
theorem rise_sub : ∀ (l m : List Vote), l.Pairwise (fun x y => x.view < y.view) → m.Pairwise (fun x y => x.view < y.view) → (∀ x ∈ l, x ∈ m) → l.Sublist m
  | [], _, _, _, _ => List.nil_sublist _
  | x :: l, [], _, _, h => absurd (h x List.mem_cons_self) (by simp)
  | x :: l, y :: m, hl, hm, h => by
    have hl2 := List.pairwise_cons.1 hl
    have hm2 := List.pairwise_cons.1 hm
    by_cases e : x = y
    · subst e
      refine (rise_sub l m hl2.2 hm2.2 (fun z hz => ?_)).cons_cons x
      rcases List.mem_cons.1 (h z (List.mem_cons_of_mem _ hz)) with rfl | hz2
      · exact absurd (hl2.1 z hz) (by omega)
      · exact hz2
    · refine (rise_sub (x :: l) m hl hm2.2 (fun z hz => ?_)).cons y
      have hx : x ∈ m := by
        rcases List.mem_cons.1 (h x List.mem_cons_self) with e2 | hx
        · exact absurd e2 e
        · exact hx
      rcases List.mem_cons.1 (h z hz) with rfl | hz2
      · have h1 := hm2.1 x hx
        rcases List.mem_cons.1 hz with e2 | hz3
        · rw [e2] at h1; omega
        · have := hl2.1 z hz3; omega
      · exact hz2
theorem mine_same {kind : Int} {t t' : TM} (ht : TMFine t) (ht' : TMFine t') (hme : c'.me = c.me) (hs : c'.slot = c.slot) (hk : ∀ v x, (inner t v).lookup c.me = some x → (inner t' v).lookup c'.me = some x) (hn : ownN c'.me t' = ownN c.me t) : c'.mine kind t' = c.mine kind t := by
  have hsub := rise_sub (c.mine kind t) (c'.mine kind t') (mine_rise ht) (mine_rise ht') (fun x hx => by
    have h1 := mine_form hx
    have h2 := mine_has (c := c') (kind := kind) ht' (hk _ _ (mine_mem hx).2.2.2.2)
    rw [hme, hs] at h2
    rw [h1]
    exact h2)
  exact (hsub.eq_of_length (by rw [mine_length ht, mine_length ht', hn])).symm
theorem bytes_same (hn : CoreM.Next c c') (hf : c.Fine) (hf' : c'.Fine) (hv : c'.view = c.view) (h2 : ownN c'.me c'.preps = ownN c.me c.preps) (h3 : ownN c'.me c'.comms = ownN c.me c.comms) (hd : c'.decided = c.decided) : c'.bytes = c.bytes := by
  unfold CoreM.bytes
  rw [hv, mine_same hf.preps hf'.preps hn.me hn.slot (fun v x h => hn.keepP v x h) h2, mine_same hf.comms hf'.comms hn.me hn.slot (fun v x h => hn.keepC v x h) h3, hd]
  cases e : c.decided with
  | false => rfl
  | true => rw [(hn.keepD e).2]
end
end Go.Proofs.Ytkkmkkgjpmlhaaa
namespace Go.Proofs.Ytkkmkkgjpmlhaaa
open Go.RowKit Go.MapKept

section
variable {w w1 : World} {ρ ρ' : Roles} {i b fid : Nat} {c : CoreM} {vw vl vv : Value} {bp b1 b2 b3 bs bd : Nat} {F : Nat → Prop}
theorem Parts.preps_read (h : Parts w ρ i b fid c vw vl vv bp b1 b2 b3 bs bd) (ho : Off F w w1) (ha : Agr w ρ ρ') (hf : ∀ k, k < w.heap.size → F k → (ρ k).1 = i → (ρ k).2.1 = 10 ∨ (ρ k).2.1 = 110) {t : TM} (hp : Outer w1 ρ' i 10 b1 t) :
    Parts w1 ρ' i b fid { c with preps := t } vw vl vv bp b1 b2 b3 bs bd := by
  have hne : ∀ k, k < w.heap.size → F k → ∀ r : Nat × Int, r.1 ≠ 10 → r.1 ≠ 110 → ρ k ≠ (i, r) := by
    intro k hk f r h1 h2 e
    rcases hf k hk f (by rw [e]) with g | g <;> rw [e] at g
    · exact h1 g
    · exact h2 g
  exact {
    role := (ha b h.lt).trans h.role
    cells := ho.heap_some h.cells (fun f => hne b h.lt f _ (by decide) (by decide) h.role)
    wish := bytes_keep h.wish ho ha (fun k hk f => hne k hk f _ (by decide) (by decide))
    locked := bytes_keep h.locked ho ha (fun k hk f => hne k hk f _ (by decide) (by decide))
    value := bytes_keep h.value ho ha (fun k hk f => hne k hk f _ (by decide) (by decide))
    props := h.props.keep ho ha (fun k hk f => ⟨hne k hk f _ (by decide) (by decide), hne k hk f _ (by decide) (by decide)⟩)
    preps := hp
    comms := h.comms.keep ho ha (fun k hk f => ⟨hne k hk f _ (by decide) (by decide), fun v => hne k hk f _ (by simp) (by simp), hne k hk f _ (by decide) (by decide)⟩)
    turns := h.turns.keep ho ha (fun k hk f => ⟨hne k hk f _ (by decide) (by decide), fun v => hne k hk f _ (by simp) (by simp), hne k hk f _ (by decide) (by decide)⟩)
    seen := ⟨(ha bs h.seen.2.lt).trans h.seen.1, h.seen.2.keep ho (fun f => hne bs h.seen.2.lt f _ (by decide) (by decide) h.seen.1)⟩
    decs := told_keep h.decs ho ha (fun k hk f => ⟨hne k hk f _ (by decide) (by decide), hne k hk f _ (by decide) (by decide)⟩) }
theorem Parts.comms_read (h : Parts w ρ i b fid c vw vl vv bp b1 b2 b3 bs bd) (ho : Off F w w1) (ha : Agr w ρ ρ') (hf : ∀ k, k < w.heap.size → F k → (ρ k).1 = i → (ρ k).2.1 = 11 ∨ (ρ k).2.1 = 111) {t : TM} (hp : Outer w1 ρ' i 11 b2 t) :
    Parts w1 ρ' i b fid { c with comms := t } vw vl vv bp b1 b2 b3 bs bd := by
  have hne : ∀ k, k < w.heap.size → F k → ∀ r : Nat × Int, r.1 ≠ 11 → r.1 ≠ 111 → ρ k ≠ (i, r) := by
    intro k hk f r h1 h2 e
    rcases hf k hk f (by rw [e]) with g | g <;> rw [e] at g
    · exact h1 g
    · exact h2 g
  exact {
    role := (ha b h.lt).trans h.role
    cells := ho.heap_some h.cells (fun f => hne b h.lt f _ (by decide) (by decide) h.role)
    wish := bytes_keep h.wish ho ha (fun k hk f => hne k hk f _ (by decide) (by decide))
    locked := bytes_keep h.locked ho ha (fun k hk f => hne k hk f _ (by decide) (by decide))
    value := bytes_keep h.value ho ha (fun k hk f => hne k hk f _ (by decide) (by decide))
    props := h.props.keep ho ha (fun k hk f => ⟨hne k hk f _ (by decide) (by decide), hne k hk f _ (by decide) (by decide)⟩)
    preps := h.preps.keep ho ha (fun k hk f => ⟨hne k hk f _ (by decide) (by decide), fun v => hne k hk f _ (by simp) (by simp), hne k hk f _ (by decide) (by decide)⟩)
    comms := hp
    turns := h.turns.keep ho ha (fun k hk f => ⟨hne k hk f _ (by decide) (by decide), fun v => hne k hk f _ (by simp) (by simp), hne k hk f _ (by decide) (by decide)⟩)
    seen := ⟨(ha bs h.seen.2.lt).trans h.seen.1, h.seen.2.keep ho (fun f => hne bs h.seen.2.lt f _ (by decide) (by decide) h.seen.1)⟩
    decs := told_keep h.decs ho ha (fun k hk f => ⟨hne k hk f _ (by decide) (by decide), hne k hk f _ (by decide) (by decide)⟩) }
end
end Go.Proofs.Ytkkmkkgjpmlhaaa
namespace Go.Proofs.Ytkkmkkgjpmlhaaa
open Go.RowKit Go.MapKept

def OfPost (w : World) (ρ : Roles) (i fid : Nat) (o : Option CoreM) (e : Ending) (w' : World) : Prop :=
  match o with
  | none => e = .returned (.tuple #[.pointer none, .int .i64 3]) ∧ Below w.heap.size w w'
  | some c => ∃ b, e = .returned (.tuple #[.pointer (some ⟨b, 0, none⟩), .int .i64 0]) ∧ Made w w' ρ i b fid c

/-- A core and a reader on the way: what has changed since w is new. -/
structure Way (w W : World) (ρ : Roles) (i cb br fid : Nat) (c : CoreM) (O : Nat → Prop) (r : List UInt8 × Bool) : Prop where
  core : ∃ ρ1 vw vl vv bp b1 b2 b3 bs bd, Agr w ρ ρ1 ∧ Parts W ρ1 i cb fid c vw vl vv bp b1 b2 b3 bs bd ∧ (ρ1 br).1 ≠ i
  reader : Reader W O br r.1 r.2
  below : Below w.heap.size w W
  cb0 : w.heap.size ≤ cb
  br0 : w.heap.size ≤ br
  old : ∀ k, O k → k < w.heap.size
  fresh : ∀ k, k < w.heap.size → (ρ k).1 ≠ i

section
variable {w W W1 : World} {ρ : Roles} {i cb br fid : Nat} {c c' : CoreM} {O : Nat → Prop} {r r' : List UInt8 × Bool}
/-- The reader has read. -/
theorem Way.read (h : Way w W ρ i cb br fid c O r) (hr : Reader W1 O br r'.1 r'.2) (ho : Off (fun k => k = br) W W1) : Way w W1 ρ i cb br fid c O r' := by
  obtain ⟨ρ1, vw, vl, vv, bp, b1, b2, b3, bs, bd, ha, hp, hbr⟩ := h.core
  exact ⟨⟨ρ1, vw, vl, vv, bp, b1, b2, b3, bs, bd, ha, hp.keep ho (Agr.refl _ _) (fun k _ e => by subst e; exact hbr), hbr⟩, hr,
    h.below.trans ((ho.mono (G := fun k => w.heap.size ≤ k) (fun k _ e => by subst e; exact h.br0)).low h.below.size), h.cb0, h.br0, h.old, h.fresh⟩
/-- The core has changed. -/
theorem Way.left (h : Way w W ρ i cb br fid c O r) (hl : ∀ ρ1, CoreAt W ρ1 i cb fid c → Left W W1 ρ1 i cb fid c') : Way w W1 ρ i cb br fid c' O r := by
  obtain ⟨ρ1, vw, vl, vv, bp, b1, b2, b3, bs, bd, ha, hp, hbr⟩ := h.core
  obtain ⟨ρ2, k1, ⟨vw', vl', vv', bp', b1', b2', b3', bs', bd', k2⟩, k3⟩ := hl ρ1 ⟨vw, vl, vv, bp, b1, b2, b3, bs, bd, hp⟩
  have hltr := h.reader.bad.2.2
  exact ⟨⟨ρ2, vw', vl', vv', bp', b1', b2', b3', bs', bd', ha.trans k1 h.below.size, k2, by rw [k1 br hltr]; exact hbr⟩,
    h.reader.keep k3 hbr (fun k _ hk e => h.fresh k (h.old k hk) (by rw [← ha k (h.old k hk)]; exact e)),
    h.below.trans ((k3.mono (G := fun k => w.heap.size ≤ k) (fun k _ e => Nat.not_lt.1 fun hk => h.fresh k hk (by rw [← ha k hk]; exact e))).low h.below.size), h.cb0, h.br0, h.old, h.fresh⟩
theorem Way.cell (h : Way w W ρ i cb br fid c O r) : W.cell? ⟨cb, 4, none⟩ = some (.int .i64 c.view) ∧ W.frozen? ⟨cb, 4, none⟩ = false ∧ W.cell? ⟨cb, 15, none⟩ = some (.bool c.decided) ∧ W.frozen? ⟨cb, 15, none⟩ = false ∧ (∃ vv, W.cell? ⟨cb, 16, none⟩ = some vv) ∧ W.frozen? ⟨cb, 16, none⟩ = false ∧
    (∃ b1, W.cell? ⟨cb, 8, none⟩ = some (.map (some b1))) ∧ (∃ b2, W.cell? ⟨cb, 9, none⟩ = some (.map (some b2))) := by
  obtain ⟨ρ1, vw, vl, vv, bp, b1, b2, b3, bs, bd, ha, hp, hbr⟩ := h.core
  exact ⟨hp.cell 4, hp.frozen 4, hp.cell 15, hp.frozen 15, ⟨vv, hp.cell 16⟩, hp.frozen 16, ⟨b1, hp.cell 8⟩, ⟨b2, hp.cell 9⟩⟩
/-- Votes are read into a map. -/
theorem Way.preps (h : Way w W ρ i cb br fid c O r) (hf : c.Fine) (hl : r.1.length ≤ 268435456) : ∃ bm, W.cell? ⟨cb, 8, none⟩ = some (.map (some bm)) ∧
    Calls Try.prog 57 #[.pointer (some ⟨br, 0, none⟩), .pointer (some ⟨cb, 0, none⟩), .map (some bm)] W fun e w' => e = .returned (.tuple #[]) ∧
      Way w w' ρ i cb br fid { c with preps := (votesR c.me c.view (fourR r).1 (-1) c.preps (fourR r).2).1 } O (votesR c.me c.view (fourR r).1 (-1) c.preps (fourR r).2).2 := by
  obtain ⟨ρ1, vw, vl, vv, bp, b1, b2, b3, bs, bd, ha, hp, hbr⟩ := h.core
  refine ⟨b1, hp.cell 8, (votes_any (O := O) r W (by omega) hp.cells hp.role rfl rfl hp.preps h.reader hbr (fun k hk => ⟨Nat.lt_of_lt_of_le (h.old k hk) h.below.size, by rw [ha k (h.old k hk)]; exact h.fresh k (h.old k hk)⟩) hl ⟨by have := hf.ok.view0; omega, hf.ok.view1⟩).mono ?_⟩
  rintro e w' ⟨rfl, ρ', k1, k2, k3, k4⟩
  have hltr := h.reader.bad.2.2
  have hpn := hp.preps_read k4 k1 (fun k _ hk e => by rcases hk with rfl | ⟨_, e2⟩; { exact absurd e hbr }; { exact e2 }) k2
  exact ⟨rfl, ⟨ρ', vw, vl, vv, bp, b1, b2, b3, bs, bd, ha.trans k1 h.below.size, hpn, by rw [k1 br hltr]; exact hbr⟩, k3,
    h.below.trans ((k4.mono (G := fun k => w.heap.size ≤ k) (fun k _ e => Nat.not_lt.1 fun hk => by rcases e with rfl | ⟨e, _⟩; { have := h.br0; omega }; { exact h.fresh k hk (by rw [← ha k hk]; exact e) })).low h.below.size), h.cb0, h.br0, h.old, h.fresh⟩
/-- Votes are read into a map. -/
theorem Way.comms (h : Way w W ρ i cb br fid c O r) (hf : c.Fine) (hl : r.1.length ≤ 268435456) : ∃ bm, W.cell? ⟨cb, 9, none⟩ = some (.map (some bm)) ∧
    Calls Try.prog 57 #[.pointer (some ⟨br, 0, none⟩), .pointer (some ⟨cb, 0, none⟩), .map (some bm)] W fun e w' => e = .returned (.tuple #[]) ∧
      Way w w' ρ i cb br fid { c with comms := (votesR c.me c.view (fourR r).1 (-1) c.comms (fourR r).2).1 } O (votesR c.me c.view (fourR r).1 (-1) c.comms (fourR r).2).2 := by
  obtain ⟨ρ1, vw, vl, vv, bp, b1, b2, b3, bs, bd, ha, hp, hbr⟩ := h.core
  refine ⟨b2, hp.cell 9, (votes_any (O := O) r W (by omega) hp.cells hp.role rfl rfl hp.comms h.reader hbr (fun k hk => ⟨Nat.lt_of_lt_of_le (h.old k hk) h.below.size, by rw [ha k (h.old k hk)]; exact h.fresh k (h.old k hk)⟩) hl ⟨by have := hf.ok.view0; omega, hf.ok.view1⟩).mono ?_⟩
  rintro e w' ⟨rfl, ρ', k1, k2, k3, k4⟩
  have hltr := h.reader.bad.2.2
  have hpn := hp.comms_read k4 k1 (fun k _ hk e => by rcases hk with rfl | ⟨_, e2⟩; { exact absurd e hbr }; { exact e2 }) k2
  exact ⟨rfl, ⟨ρ', vw, vl, vv, bp, b1, b2, b3, bs, bd, ha.trans k1 h.below.size, hpn, by rw [k1 br hltr]; exact hbr⟩, k3,
    h.below.trans ((k4.mono (G := fun k => w.heap.size ≤ k) (fun k _ e => Nat.not_lt.1 fun hk => by rcases e with rfl | ⟨e, _⟩; { have := h.br0; omega }; { exact h.fresh k hk (by rw [← ha k hk]; exact e) })).low h.below.size), h.cb0, h.br0, h.old, h.fresh⟩
/-- What the reader took becomes the value. -/
theorem Way.value (h : Way w W ρ i cb br fid c O r) {v : Value} {val : List UInt8} (hv : Bs W1 (fun k => W.heap.size ≤ k) v val) (hr : Reader W1 O br r'.1 r'.2) (ho : Off (fun k => k = br) W W1) :
    Way w (W1.setCell ⟨cb, 16, none⟩ v) ρ i cb br fid { c with value := val } O r' := by
  obtain ⟨ρ1, vw, vl, vv, bp, b1, b2, b3, bs, bd, ha, hp, hbr⟩ := h.core
  have hltr := h.reader.bad.2.2
  have hag : Agr W ρ1 (ρ1.fresh i W.heap.size W1.heap.size) := agr_fresh _ _ _ _
  have hp1 : Parts W1 (ρ1.fresh i W.heap.size W1.heap.size) i cb fid c vw vl vv bp b1 b2 b3 bs bd := hp.keep ho hag (fun k _ e => by subst e; exact hbr)
  have hv1 : Bs W1 (fun k => ρ1.fresh i W.heap.size W1.heap.size k = (i, 2, 0)) v val := hv.mono (fun k hk hwk => by unfold Roles.fresh; rw [if_pos ⟨hwk, hk⟩])
  have hcl : Left W1 (W1.setCell ⟨cb, 16, none⟩ v) (ρ1.fresh i W.heap.size W1.heap.size) i cb fid { c with value := val } := by
    have e2 := Off.setOne W1 ⟨cb, 16, none⟩ v
    exact ⟨_, Agr.refl _ _, ⟨_, _, _, _, _, _, _, _, _, hp1.set e2 (Agr.refl _ _) (heap_setCell_cells hp1.cells _) (bytes_own hp1.wish hp1.role e2 (Agr.refl _ _)) (bytes_own hp1.locked hp1.role e2 (Agr.refl _ _)) (bytes_own hv1 hp1.role e2 (Agr.refl _ _)) ⟨rfl, rfl, rfl, rfl, rfl, rfl⟩⟩,
      e2.mono (fun k _ e => by subst e; rw [hp1.role])⟩
  have hbelow := h.below.trans ((ho.mono (G := fun k => w.heap.size ≤ k) (fun k _ e => by subst e; exact h.br0)).low h.below.size)
  have hway : Way w W1 ρ i cb br fid c O r' := ⟨⟨_, vw, vl, vv, bp, b1, b2, b3, bs, bd, ha.trans hag h.below.size, hp1, by rw [hag br hltr]; exact hbr⟩, hr, hbelow, h.cb0, h.br0, h.old, h.fresh⟩
  obtain ⟨ρ2, k1, ⟨vw', vl', vv', bp', b1', b2', b3', bs', bd', k2⟩, k3⟩ := hcl
  have hltr1 := hr.bad.2.2
  have hbr1 : (ρ1.fresh i W.heap.size W1.heap.size br).1 ≠ i := by rw [hag br hltr]; exact hbr
  have hold : ∀ k, k < w.heap.size → (ρ1.fresh i W.heap.size W1.heap.size k).1 ≠ i := fun k hk => by rw [hag k (Nat.lt_of_lt_of_le hk h.below.size), ha k hk]; exact h.fresh k hk
  exact ⟨⟨ρ2, vw', vl', vv', bp', b1', b2', b3', bs', bd', (ha.trans hag h.below.size).trans k1 hbelow.size, k2, by rw [k1 br hltr1]; exact hbr1⟩,
    hr.keep k3 hbr1 (fun k _ hk e => hold k (h.old k hk) e),
    hbelow.trans ((k3.mono (G := fun k => w.heap.size ≤ k) (fun k _ e => Nat.not_lt.1 fun hk => hold k hk e)).low hbelow.size), h.cb0, h.br0, h.old, h.fresh⟩
end
end Go.Proofs.Ytkkmkkgjpmlhaaa
