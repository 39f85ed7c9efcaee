/- Four rounds of a view: somebody decides, or all know of all Prepares; where the proposal is the best one all decide. No program in sight. All go on to a view that none has been in. No program in sight. Two views: all decide. No program in sight. The greatest view of peers of whom none is wrong, behind each step. No program in sight. -/
import Derived.Test.YtkkmkkgjpmlhaaaE00
namespace Go.Proofs.Ytkkmkkgjpmlhaaa
section
variable {n : Nat} {slot V : Int} {p i j : Nat} {pr : List UInt8 × Int} {S P Q : Nat → CoreM} {W : Nat → Bool}
/-- Nobody does anything any more. -/
structure CrewI (n : Nat) (slot V : Int) (p : Nat) (pr : List UInt8 × Int) (W : Nat → Bool) (S Q P : Nat → CoreM) : Prop where
  v : CrewV n slot V p pr S P
  idle : ∀ i, i < n → Idle n V W i (Q i) (P i)
theorem CrewI.talk (h : CrewI n slot V p pr W S Q P) (hp : (p : Int) = (slot + V) % n) (hW : cnt n W < n - (n - 1) / 3) (ho : ∀ i, i < n → W i = false → 0 ≤ (Q i).lock ∧ (Q i).locked ≠ pr.1 ∧ pr.2 < (Q i).lock)
    (hQ : ∀ i, i < n → ((Q i).ownP V).isSome = true → W i = true) (hj : j < n) : CrewI n slot V p pr W S Q (Ytkkmkkgjpmlhaaa.talk notB n P j) := by
  have hl : ∀ v ∈ (P j).says, (Word n slot V j P v ∧ (v.kind = 1 → v.view = V → (v.value, v.valid) = pr)) ∧ (v.kind = 2 → v.view = V → ∀ k : Nat, v.frm = (k : Int) + 1 → W k = true) := fun v hv =>
    ⟨h.v.says hj hv, fun hk hvv k hkf => by
      have w := h.v.base.says hj hv
      have e : k = j := by have := w.frm; omega
      subst e
      have h1 := (says_true hv).1 hk
      rw [hvv] at h1
      exact hQ k hj (by rw [(h.idle k hj).own V _ h1]; rfl)⟩
  have key := hearAll_ind (acc := notB) (n := n) (fun R => CrewI n slot V p pr W S Q R ∧ ∀ v ∈ (P j).says, (Word n slot V j R v ∧ (v.kind = 1 → v.view = V → (v.value, v.valid) = pr)) ∧ (v.kind = 2 → v.view = V → ∀ k : Nat, v.frm = (k : Int) + 1 → W k = true)) (P j).says (P := P) (fun v hv R m hm ⟨h1, h2⟩ => by
    obtain ⟨⟨w1, w2⟩, w3⟩ := h2 v hv
    obtain ⟨a, b⟩ := h1.v.base.take hm w1
    refine ⟨⟨⟨a, fun k hk => ?_⟩, fun k hk => ?_⟩, fun u hu => ⟨⟨(h2 u hu).1.1.upd b, (h2 u hu).1.2⟩, (h2 u hu).2⟩⟩
    · unfold upd
      split
      · rename_i e; subst e; exact (h1.v.jv k hk).take hp h1.v.base.pos w1.view w2
      · exact h1.v.jv k hk
    · unfold upd
      split
      · rename_i e; subst e; exact (h1.idle k hk).take (h1.v.jv k hk) hp h1.v.base.pos hW (ho k hk) w1.view w2 w3
      · exact h1.idle k hk) ⟨h, hl⟩
  exact key.1
theorem CrewI.talks (h : CrewI n slot V p pr W S Q P) (hp : (p : Int) = (slot + V) % n) (hW : cnt n W < n - (n - 1) / 3) (ho : ∀ i, i < n → W i = false → 0 ≤ (Q i).lock ∧ (Q i).locked ≠ pr.1 ∧ pr.2 < (Q i).lock)
    (hQ : ∀ i, i < n → ((Q i).ownP V).isSome = true → W i = true) : ∀ a, a ≤ n → CrewI n slot V p pr W S Q (Ytkkmkkgjpmlhaaa.talks notB n P a)
  | 0, _ => h
  | a + 1, ha => (h.talks hp hW ho hQ a (by omega)).talk hp hW ho hQ (by omega)
theorem not_some (h : ¬ Some_ n P) : ∀ i, i < n → (P i).decided = false := fun i hi => by
  cases e : (P i).decided with
  | false => rfl
  | true => exact absurd ⟨i, hi, e⟩ h
theorem all_some (h : All_ n P) (hn : 0 < n) : Some_ n P := ⟨0, hn, h 0 hn⟩

/-- The four rounds. -/
theorem CrewV.four (h : CrewV n slot V p pr S S) (hp : (p : Int) = (slot + V) % n) (hpn : p < n) (hacc : notB pr.1 = true) (hpr : pr.2 = -1 ∨ (0 ≤ pr.2 ∧ pr.2 < V ∧ Prep n none_ S pr.2 pr.1)) :
    Some_ n (rounds notB n S 4) ∨ Full n (rounds notB n S 4) := by
  have h1 := h.talks hp n (Nat.le_refl _)
  have h2 := h1.talks hp n (Nat.le_refl _)
  have h3 := h2.talks hp n (Nat.le_refl _)
  have h4 := h3.talks hp n (Nat.le_refl _)
  have o2 := (h1.base.talks n (Nat.le_refl _)).2 0 (by omega)
  have o3 := (h2.base.talks n (Nat.le_refl _)).2 0 (by omega)
  have o4 := (h3.base.talks n (Nat.le_refl _)).2 0 (by omega)
  show Some_ n (Ytkkmkkgjpmlhaaa.talks notB n (Ytkkmkkgjpmlhaaa.talks notB n (Ytkkmkkgjpmlhaaa.talks notB n (Ytkkmkkgjpmlhaaa.talks notB n S n) n) n) n) ∨ Full n (Ytkkmkkgjpmlhaaa.talks notB n (Ytkkmkkgjpmlhaaa.talks notB n (Ytkkmkkgjpmlhaaa.talks notB n (Ytkkmkkgjpmlhaaa.talks notB n S n) n) n) n)
  by_cases hs : Some_ n (Ytkkmkkgjpmlhaaa.talks notB n (Ytkkmkkgjpmlhaaa.talks notB n (Ytkkmkkgjpmlhaaa.talks notB n (Ytkkmkkgjpmlhaaa.talks notB n S n) n) n) n)
  · exact .inl hs
  · right
    have hn0 : 0 < n := by have := h.base.crew.peers.n4; omega
    have hd1 := not_some (fun e : Some_ n (Ytkkmkkgjpmlhaaa.talks notB n S n) => hs (((e.on o2).on o3).on o4))
    have hst := fun i (hi : i < n) => h.stance hp hpn hd1 hacc hpr hi
    by_cases hq : n - (n - 1) / 3 ≤ cnt n (fun j => (Ytkkmkkgjpmlhaaa.talks notB n S n j).ownP V == some pr.1)
    · exact absurd ((all_some (h1.quorum hp hq) hn0).on o4) hs
    · have hWe : ∀ k, k < n → ((Ytkkmkkgjpmlhaaa.talks notB n S n k).ownP V).isSome = ((Ytkkmkkgjpmlhaaa.talks notB n S n k).ownP V == some pr.1) := fun k hk => by
        cases e : (Ytkkmkkgjpmlhaaa.talks notB n S n k).ownP V with
        | none => rfl
        | some y => rw [(h1.jv k hk).own y e]; simp
      have hW : cnt n (fun k => ((Ytkkmkkgjpmlhaaa.talks notB n S n k).ownP V).isSome) < n - (n - 1) / 3 := by
        rw [cnt_congr hWe]; omega
      have ho : ∀ i, i < n → ((Ytkkmkkgjpmlhaaa.talks notB n S n i).ownP V).isSome = false → 0 ≤ (Ytkkmkkgjpmlhaaa.talks notB n S n i).lock ∧ (Ytkkmkkgjpmlhaaa.talks notB n S n i).locked ≠ pr.1 ∧ pr.2 < (Ytkkmkkgjpmlhaaa.talks notB n S n i).lock := fun i hi e => by
        rcases hst i hi with h5 | h5
        · rw [h5] at e; cases e
        · exact h5
      have i1 : CrewI n slot V p pr (fun k => ((Ytkkmkkgjpmlhaaa.talks notB n S n k).ownP V).isSome) S (Ytkkmkkgjpmlhaaa.talks notB n S n) (Ytkkmkkgjpmlhaaa.talks notB n S n) :=
        ⟨h1, fun i hi => ⟨h1.base.crew.loc hi, fun _ _ e => e, rfl, rfl, fun k hk y e => by rw [h1.base.crew.peers.gp i k hi hk rfl V y e]; rfl, fun e => e⟩⟩
      have i2 := i1.talks hp hW ho (fun _ _ e => e) n (Nat.le_refl _)
      have i3 := i2.talks hp hW ho (fun _ _ e => e) n (Nat.le_refl _)
      have i4 := i3.talks hp hW ho (fun _ _ e => e) n (Nat.le_refl _)
      intro i j hi hj v y e
      have e1 := (i4.idle j hj).own v y e
      exact (o4 i hi).2.preps _ _ _ ((o3 i hi).2.preps _ _ _ (h1.base.round_preps hi hj e1))
/-- Where the proposal is the best one all decide. -/
theorem CrewV.best (h : CrewV n slot V p pr S S) (hp : (p : Int) = (slot + V) % n) (hpn : p < n) (hacc : notB pr.1 = true) (hpr : pr.2 = -1 ∨ (0 ≤ pr.2 ∧ pr.2 < V ∧ Prep n none_ S pr.2 pr.1))
    (hbest : ∀ v y, v < V → Prep n none_ S v y → v ≤ pr.2) : All_ n (rounds notB n S 4) := by
  have h1 := h.talks hp n (Nat.le_refl _)
  have h2 := h1.talks hp n (Nat.le_refl _)
  have h3 := h2.talks hp n (Nat.le_refl _)
  have o1 := (h.base.talks n (Nat.le_refl _)).2 0 (by omega)
  have o2 := (h1.base.talks n (Nat.le_refl _)).2 0 (by omega)
  have o3 := (h2.base.talks n (Nat.le_refl _)).2 0 (by omega)
  have o4 := (h3.base.talks n (Nat.le_refl _)).2 0 (by omega)
  have hn0 : 0 < n := by have := h.base.crew.peers.n4; omega
  show All_ n (Ytkkmkkgjpmlhaaa.talks notB n (Ytkkmkkgjpmlhaaa.talks notB n (Ytkkmkkgjpmlhaaa.talks notB n (Ytkkmkkgjpmlhaaa.talks notB n S n) n) n) n)
  by_cases hs : Some_ n (Ytkkmkkgjpmlhaaa.talks notB n S n)
  · exact ((h1.base.all_decide hs).on o3).on o4
  · have hd1 := not_some hs
    refine (h1.quorum hp (x := pr.1) ?_).on o4
    rw [cnt_all (fun i hi => ?_)]
    · omega
    · rw [beq_iff_eq]
      rcases h.stance hp hpn hd1 hacc hpr hi with h5 | ⟨h5, h6, h7⟩
      · exact h5
      · exfalso
        have hl := h1.base.crew.loc hi
        have hc := hl.lk2 h5
        have hg := h1.base.crew.peers.g2 i hi _ _ hc
        have hv := hl.lc _ _ hc
        rw [(h1.jv i hi).view] at hv
        by_cases e : (Ytkkmkkgjpmlhaaa.talks notB n S n i).lock = V
        · rw [e] at hg
          obtain ⟨k, hk, hkx⟩ := cnt_some (n := n) (A := fun j => none_ j || (Ytkkmkkgjpmlhaaa.talks notB n S n j).ownP V == some (Ytkkmkkgjpmlhaaa.talks notB n S n i).locked) (by unfold Prep at hg; omega)
          simp only [none_, Bool.false_or, beq_iff_eq] at hkx
          exact h6 ((h1.jv k hk).own _ hkx)
        · have h8 : Prep n none_ S (Ytkkmkkgjpmlhaaa.talks notB n S n i).lock (Ytkkmkkgjpmlhaaa.talks notB n S n i).locked := Nat.le_trans hg (cnt_mono fun k hk e2 => by
            simp only [none_, Bool.false_or, beq_iff_eq] at e2 ⊢
            exact (h1.jv k hk).old _ _ e e2)
          have := hbest _ _ (by omega) h8
          omega
end
end Go.Proofs.Ytkkmkkgjpmlhaaa
namespace Go.Proofs.Ytkkmkkgjpmlhaaa

/-- A core is late as long as it is below the view and has not decided. -/
inductive LateTo (V : Int) : CoreM → CoreM → Prop
  | done {c : CoreM} (h : V ≤ c.view ∨ c.decided = true) : LateTo V c c
  | late {c d : CoreM} (hv : c.view < V) (hd : c.decided = false) (h : LateTo V (c.late notB) d) : LateTo V c d
section
variable {n : Nat} {slot V : Int} {p i j : Nat} {pr : List UInt8 × Int} {S S0 P : Nat → CoreM} {b c d : CoreM}
theorem CrewL.late (h : CrewL n slot V P) (hi : i < n) (hv : (P i).view < V) : CrewL n slot V (Ytkkmkkgjpmlhaaa.upd P i ((P i).late notB)) :=
  h.upd ⟨h.crew.peers.late hi, lim_upd h.crew.lim (h.crew.lim i hi).late⟩ ((h.live i hi).late (h.fine hi) hv)
theorem CrewL.lateTo (hi : i < n) (hl : LateTo V c d) : ∀ {P : Nat → CoreM}, CrewL n slot V P → P i = c → CrewL n slot V (Ytkkmkkgjpmlhaaa.upd P i d) ∧ (CoreM.Next c d ∧ CoreM.Grows c d) ∧ CoreM.SameWish c d := by
  induction hl with
  | done h => exact fun {P} hP e => ⟨by rw [← e, upd_self]; exact hP, ⟨.refl _, .refl _⟩, rfl, rfl⟩
  | late hv hd h ih =>
    intro P hP e
    subst e
    obtain ⟨h1, ⟨h2, h3⟩, h4⟩ := ih (hP.late hi hv) (upd_same _ _ _)
    rw [upd_upd] at h1
    exact ⟨h1, ⟨(CoreM.late_loc (hP.crew.loc hi)).2.trans h2, (CoreM.late_grows _).trans h3⟩, (CoreM.late_wish _).trans h4⟩

/-- The last step: from the view below. -/
theorem last_late (hl : LateTo V c d) : CoreM.Loc notB c → CoreM.Live (V - 1) c → V - 1 < 1048576 → d.decided = true ∨ ∃ b, d = b.late notB ∧ b.decided = false ∧ b.view = V - 1 ∧ CoreM.Loc notB b ∧ CoreM.Live (V - 1) b ∧ (CoreM.Next c b ∧ CoreM.Grows c b) ∧ CoreM.SameWish c b ∧ (c.view = V - 1 → b = c) := by
  induction hl with
  | done h =>
    intro hloc hlive _
    rcases h with h | h
    · have := hlive.cap.view; omega
    · exact .inl h
  | @late c d hv hd h ih =>
    intro hloc hlive hM
    have hl2 := (CoreM.late_loc hloc).1
    have hn2 := (CoreM.late_loc hloc).2
    by_cases e : c.view = V - 1
    · have hview : V ≤ (c.late notB).view := by
        have h1 : c.late notB = CoreM.settle notB { c with view := c.view + 1 } := by
          unfold CoreM.late
          rw [if_pos (by simp [hd]; omega)]
        rw [h1]
        have h2 := (CoreM.settle_loc (acc := notB) (c := { c with view := c.view + 1 }) (hloc.quiet (hloc.fine.nextView (by omega)) ⟨rfl, rfl, rfl, rfl, rfl, rfl, rfl⟩ (by dsimp only; omega))).2.view
        dsimp only at h2
        omega
      have hde : d = c.late notB := by
        cases h with
        | done _ => rfl
        | late hv2 _ _ => omega
      exact .inr ⟨c, hde, hd, e, hloc, hlive, ⟨.refl _, .refl _⟩, ⟨rfl, rfl⟩, fun _ => rfl⟩
    · have hlv := hlive.late hloc.fine (by have := hlive.cap.view; omega)
      rcases ih hl2 hlv hM with h1 | ⟨b, h1, h2, h3, h4, h5, ⟨h6, h7⟩, h8, _⟩
      · exact .inl h1
      · exact .inr ⟨b, h1, h2, h3, h4, h5, ⟨hn2.trans h6, (CoreM.late_grows _).trans h7⟩, (CoreM.late_wish _).trans h8, fun e2 => absurd e2 e⟩
theorem late_eq (hd : b.decided = false) (hv : b.view = V - 1) (hM : V - 1 < 1048576) : b.late notB = CoreM.settle notB { b with view := V } := by
  unfold CoreM.late
  rw [if_pos (by simp [hd]; omega), show b.view + 1 = V from by omega]
theorem own_new (hl : CoreM.Loc notB b) (hv : b.view = V - 1) : b.ownP V = none := by
  cases e : b.ownP V with
  | none => rfl
  | some y => have := hl.lp _ _ e; omega
theorem props_new (hl : CoreM.Live (V - 1) b) : b.props.lookup V = none := by
  cases e : b.props.lookup V with
  | none => rfl
  | some q => have := hl.cap.props _ _ e; omega

/-- One that isn't the proposer. -/
structure JN (n : Nat) (slot V : Int) (i : Nat) (s c : CoreM) : Prop where
  n : c.n = n
  me : c.me = (i : Int) + 1
  slot : c.slot = slot
  cap : CoreM.Cap V c
  lo : V ≤ c.view
  props : c.props.lookup V = none
  own : c.ownP V = none
  old : ∀ v y, c.ownP v = some y → s.ownP v = some y
theorem JN.step (h : JN n slot V i b c) (hp : (i : Int) ≠ (slot + V) % n) (hs : c.step notB = some d) : JN n slot V i b d := by
  have hc := h.cap.step hs
  have hv : c.view = V := Int.le_antisymm h.cap.view h.lo
  rcases step_some hs with e | ⟨_, e⟩ | ⟨_, _, e⟩ | ⟨_, _, _, e⟩ | ⟨_, _, _, _, e⟩
  · obtain ⟨x, hx, hlt, rfl⟩ := turn_some e
    exact ⟨h.n, h.me, h.slot, hc, by have := h.lo; dsimp only; omega, h.props, h.own, h.old⟩
  · obtain ⟨_, hme, _⟩ := propose_some e
    rw [hv] at hme
    unfold CoreM.proposer at hme
    rw [h.slot, h.n, h.me] at hme
    omega
  · obtain ⟨q, hq, _, _, rfl⟩ := prepare_some e
    rw [hv, h.props] at hq
    cases hq
  · obtain ⟨x, _, _, rfl⟩ := commit_some e; exact ⟨h.n, h.me, h.slot, hc, h.lo, h.props, h.own, h.old⟩
  · obtain ⟨v, rfl, _⟩ := decide_some e; exact ⟨h.n, h.me, h.slot, hc, h.lo, h.props, h.own, h.old⟩
theorem JN.jv (h : JN n slot V i b c) (hip : i ≠ p) : JV n slot V p pr i b c :=
  ⟨h.n, h.me, h.slot, h.cap, h.lo, fun q e => (by rw [h.props] at e; cases e), fun e => absurd e hip, fun y e => (by rw [h.own] at e; cases e), fun v y _ e => h.old v y e⟩
theorem enter_other (hids : b.n = n ∧ b.me = (i : Int) + 1 ∧ b.slot = slot) (hd : b.decided = false) (hv : b.view = V - 1) (hM : V - 1 < 1048576) (hloc : CoreM.Loc notB b) (hlive : CoreM.Live (V - 1) b) (hp : (i : Int) ≠ (slot + V) % n) : JN n slot V i b (b.late notB) := by
  rw [late_eq hd hv hM]
  refine CoreM.settle_keep (JN n slot V i b) (fun _ _ h _ hs => h.step hp hs) (fun c h _ => ⟨h.n, h.me, h.slot, h.cap.same ⟨rfl, rfl, rfl⟩, h.lo, h.props, h.own, h.old⟩) ?_
  exact ⟨hids.1, hids.2.1, hids.2.2, ⟨Int.le_refl _, fun q hq => (by have := hlive.cap.seen q hq; omega), fun v q e => (by have := hlive.cap.props v q e; omega)⟩, Int.le_refl _, props_new (b := b) hlive, own_new (b := b) hloc hv, fun _ _ e => e⟩
/-- The proposer. -/
theorem enter_first (hids : b.n = n ∧ b.me = (i : Int) + 1 ∧ b.slot = slot) (hd : b.decided = false) (hv : b.view = V - 1) (hM : V - 1 < 1048576) (hloc : CoreM.Loc notB b) (hlive : CoreM.Live (V - 1) b) (hp : (i : Int) = (slot + V) % n) (hw : b.wishes = true) :
    ∃ pr : List UInt8 × Int, (b.best V = some (pr.2, pr.1) ∨ (b.best V = none ∧ pr = (b.wish, -1))) ∧ JV n slot V i pr i b (b.late notB) := by
  rw [late_eq hd hv hM]
  have hf1 : ({ b with view := V } : CoreM).Fine := by
    have := hloc.fine.nextView (by omega)
    rw [show b.view + 1 = V from by omega] at this
    exact this
  have hturn : ({ b with view := V } : CoreM).turn = none := by
    cases e : ({ b with view := V } : CoreM).turn with
    | none => rfl
    | some c' =>
      obtain ⟨x, hx, hlt, _⟩ := turn_some e
      obtain ⟨q, hq, rfl⟩ := reach_mem hx
      have := hlive.cap.seen q hq
      dsimp only at hlt
      omega
  have hpn := props_new hlive
  have hme : ({ b with view := V } : CoreM).proposer V = b.me := by
    unfold CoreM.proposer
    dsimp only
    rw [hids.2.2, hids.1, hids.2.1, ← hp]
    omega
  have hprop : ∃ pr : List UInt8 × Int, (b.best V = some (pr.2, pr.1) ∨ (b.best V = none ∧ pr = (b.wish, -1))) ∧ ({ b with view := V } : CoreM).propose = some { b with view := V, props := put b.props V pr } := by
    unfold CoreM.propose
    dsimp only
    rw [if_neg (by rw [hpn, hme]; simp)]
    have hbb : ({ b with view := V } : CoreM).best V = b.best V := rfl
    rw [hbb]
    cases e : b.best V with
    | none => exact ⟨(b.wish, -1), .inr ⟨rfl, rfl⟩, by dsimp only; rw [if_pos hw]⟩
    | some r => exact ⟨(r.2, r.1), .inl rfl, rfl⟩
  obtain ⟨pr, hpr, hpe⟩ := hprop
  have hstep : ({ b with view := V } : CoreM).step notB = some { b with view := V, props := put b.props V pr } := by
    unfold CoreM.step
    rw [hturn, hpe]
    rfl
  refine ⟨pr, hpr, ?_⟩
  rw [← CoreM.settle_some hf1 hd hstep]
  refine JV.settle ?_ hp
  refine ⟨hids.1, hids.2.1, hids.2.2, ⟨Int.le_refl _, fun q hq => (by have := hlive.cap.seen q hq; omega), CoreM.put_cap (fun v q e => (by have := hlive.cap.props v q e; omega)) (Int.le_refl _)⟩, Int.le_refl _, fun q e => ?_, fun _ => by dsimp only; rw [lookup_put, if_pos rfl], fun y e => ?_, fun v y _ e => e⟩
  · dsimp only at e
    rw [lookup_put, if_pos rfl] at e
    injection e with e
    exact e.symm
  · have e : b.ownP V = some y := e
    rw [own_new hloc hv] at e; cases e
end
end Go.Proofs.Ytkkmkkgjpmlhaaa
namespace Go.Proofs.Ytkkmkkgjpmlhaaa
section
variable {n : Nat} {slot V : Int} {p i j : Nat} {pr : List UInt8 × Int} {S S0 P : Nat → CoreM} {b c d : CoreM}
theorem findSome_first {α : Type} {f : Int → Option α} {v : Int} : ∀ {l : List Int}, l.Pairwise (fun a b => b ≤ a) → v ∈ l → (f v).isSome = true → ∃ u r, l.findSome? f = some r ∧ f u = some r ∧ v ≤ u
  | a :: l, hl, hv, hs => by
    obtain ⟨h1, h2⟩ := List.pairwise_cons.1 hl
    rw [List.findSome?_cons]
    cases e : f a with
    | some r =>
      refine ⟨a, r, rfl, e, ?_⟩
      rcases List.mem_cons.1 hv with rfl | hv
      · exact Int.le_refl _
      · exact h1 v hv
    | none =>
      rcases List.mem_cons.1 hv with rfl | hv
      · rw [e] at hs; cases hs
      · exact findSome_first h2 hv hs
theorem best_least {v below : Int} {y : List UInt8} (hp : c.prepared v = some y) (hv : v < below) : ∃ r, c.best below = some r ∧ v ≤ r.1 := by
  have hk : v ∈ CoreM.keys c.preps := by
    obtain ⟨⟨who, hw⟩, _⟩ := count_mem hp
    exact key_of_inner hw
  have hs : (c.bestAt below v).isSome = true := by unfold CoreM.bestAt; rw [hp]; dsimp only; rw [if_pos hv]; rfl
  have hsort : (CoreM.keys c.preps).Pairwise (fun a b => a ≤ b) := by unfold CoreM.keys; exact sortZ_sorted _
  obtain ⟨u, r, h1, h2, h3⟩ := findSome_first (f := c.bestAt below) (List.pairwise_reverse.2 hsort) (List.mem_reverse.2 hk) hs
  refine ⟨r, h1, ?_⟩
  rw [(bestAt_some h2).1]; exact h3

/-- All have gone on to the view V. -/
structure Entered (n : Nat) (slot V : Int) (S0 S : Nat → CoreM) : Prop where
  base : CrewL n slot (V - 1) S0
  wishes : ∀ i, i < n → (S0 i).wishes = true
  last : V - 1 < 1048576
  lates : ∀ i, i < n → LateTo V (S0 i) (S i)
  out : ∀ i, n ≤ i → S i = S0 i
def mix (S S0 : Nat → CoreM) (k : Nat) : Nat → CoreM := fun i => if i < k then S i else S0 i
theorem Entered.crew (h : Entered n slot V S0 S) : CrewL n slot V S ∧ Onward n S0 S ∧ ∀ i, i < n → (S i).wishes = true := by
  have hstep : ∀ k, k ≤ n → CrewL n slot V (mix S S0 k) := fun k => by
    induction k with
    | zero => intro _; exact (h.base.mono (by omega) : CrewL n slot V S0)
    | succ k ih =>
      intro hk
      have h1 := (CrewL.lateTo (slot := slot) (i := k) (n := n) (by omega) (h.lates k (by omega)) (ih (by omega)) (if_neg (Nat.lt_irrefl k))).1
      have e : upd (mix S S0 k) k (S k) = mix S S0 (k + 1) := by
        funext i
        by_cases e : i = k
        · subst e; rw [upd_same]; exact (if_pos (Nat.lt_succ_self i)).symm
        · rw [upd_other _ _ e]
          unfold mix
          by_cases e2 : i < k
          · rw [if_pos e2, if_pos (by omega)]
          · rw [if_neg e2, if_neg (by omega)]
      rw [e] at h1
      exact h1
  have hS : mix S S0 n = S := by
    funext i
    unfold mix
    by_cases e : i < n
    · rw [if_pos e]
    · rw [if_neg e, h.out i (by omega)]
  have hall : ∀ i, i < n → (CoreM.Next (S0 i) (S i) ∧ CoreM.Grows (S0 i) (S i)) ∧ CoreM.SameWish (S0 i) (S i) := fun i hi =>
    (CrewL.lateTo (slot := slot) hi (h.lates i hi) (h.base.mono (by omega) : CrewL n slot V S0) rfl).2
  refine ⟨by have := hstep n (Nat.le_refl _); rw [hS] at this; exact this, fun i hi => (hall i hi).1, fun i hi => by rw [(hall i hi).2.2]; exact h.wishes i hi⟩
theorem Entered.phase (h : Entered n slot V S0 S) : Some_ n S ∨ ∃ p pr, p < n ∧ (p : Int) = (slot + V) % n ∧ CrewV n slot V p pr S S ∧ notB pr.1 = true ∧ (pr.2 = -1 ∨ (0 ≤ pr.2 ∧ pr.2 < V ∧ Prep n none_ S pr.2 pr.1)) ∧
    (Full n S0 → (∀ i, i < n → (S0 i).view = V - 1) → ∀ v y, v < V → Prep n none_ S v y → v ≤ pr.2) := by
  by_cases hs : Some_ n S
  · exact .inl hs
  · right
    obtain ⟨hC, hon, _⟩ := h.crew
    have hd := not_some hs
    have h4 := hC.crew.peers.n4
    have hb : ∀ i, i < n → ∃ b, S i = b.late notB ∧ b.decided = false ∧ b.view = V - 1 ∧ CoreM.Loc notB b ∧ CoreM.Live (V - 1) b ∧ (CoreM.Next (S0 i) b ∧ CoreM.Grows (S0 i) b) ∧ CoreM.SameWish (S0 i) b ∧ ((S0 i).view = V - 1 → b = S0 i) := fun i hi => by
      rcases last_late (h.lates i hi) (h.base.crew.loc hi) (h.base.live i hi) h.last with e | e
      · rw [hd i hi] at e; cases e
      · exact e
    have hids : ∀ i, i < n → ∀ b : CoreM, CoreM.Next (S0 i) b → b.n = n ∧ b.me = (i : Int) + 1 ∧ b.slot = slot := fun i hi b hn => by
      have := h.base.crew.peers.ids i hi
      exact ⟨hn.n.trans this.1, hn.me.trans this.2.1, hn.slot.trans this.2.2⟩
    have hm0 := Int.emod_nonneg (slot + V) (show (n : Int) ≠ 0 by omega)
    have hm1 := Int.emod_lt_of_pos (slot + V) (show (0 : Int) < n by omega)
    obtain ⟨p, hp⟩ : ∃ p : Nat, (p : Int) = (slot + V) % n := ⟨((slot + V) % n).toNat, by omega⟩
    have hpn : p < n := by omega
    obtain ⟨bp, e1, e2, e3, e4, e5, e6, e7, e8⟩ := hb p hpn
    obtain ⟨pr, hpr, hjp⟩ := enter_first (hids p hpn bp e6.1) e2 e3 h.last e4 e5 hp (by rw [e7.2]; exact h.wishes p hpn)
    have hj : ∀ i, i < n → ∃ b, ((S0 i).view = V - 1 → b = S0 i) ∧ JV n slot V p pr i b (S i) := fun i hi => by
      by_cases e : i = p
      · subst e; exact ⟨bp, e8, by rw [e1]; exact hjp⟩
      · obtain ⟨b, f1, f2, f3, f4, f5, f6, f7, f8⟩ := hb i hi
        exact ⟨b, f8, by rw [f1]; exact (enter_other (hids i hi b f6.1) f2 f3 h.last f4 f5 (by omega)).jv e⟩
    have hprep : bp.best V = some (pr.2, pr.1) → 0 ≤ pr.2 ∧ pr.2 < V ∧ Prep n none_ S pr.2 pr.1 := fun hbest => by
      obtain ⟨⟨t, ht⟩, h1, h2⟩ := best_mem hbest
      refine ⟨(e4.fine.preps.1.2 _ ht).1, h2, ?_⟩
      dsimp only at h1
      obtain ⟨_, hv⟩ := count_mem h1
      rw [votes_cnt (n := n) (e4.fine.preps.inner pr.2).1.1 (fun q hq => by have := e4.kp pr.2 q hq; rw [(hids p hpn bp e6.1).1] at this; exact this)] at hv
      refine Nat.le_trans (quorum_le (hids p hpn bp e6.1).1 hv) (cnt_mono fun k hk e => ?_)
      simp only [beq_iff_eq, none_, Bool.false_or] at e ⊢
      have hg : CoreM.Grows bp (S p) := by rw [e1]; exact CoreM.late_grows _
      exact hC.crew.peers.gp p k hpn hk rfl _ _ (hg.preps _ _ _ e)
    refine ⟨p, pr, hpn, hp, ⟨hC, fun i hi => ?_⟩, ?_, ?_, fun hF hview v y hv hP => ?_⟩
    · obtain ⟨b, _, hjv⟩ := hj i hi
      exact ⟨hjv.n, hjv.me, hjv.slot, hjv.cap, hjv.lo, hjv.props, hjv.has, hjv.own, fun _ _ _ e => e⟩
    · rcases hpr with hbest | ⟨_, e⟩
      · obtain ⟨_, _, h3⟩ := hprep hbest
        obtain ⟨k, hk, hkx⟩ := cnt_some (n := n) (A := fun j => none_ j || (S j).ownP pr.2 == some pr.1) (by unfold Prep at h3; omega)
        simp only [none_, Bool.false_or, beq_iff_eq] at hkx
        exact (hC.crew.loc hk).la _ _ hkx
      · rw [e]; exact e5.wish (by rw [e7.2]; exact h.wishes p hpn)
    · rcases hpr with hbest | ⟨_, e⟩
      · exact .inr (hprep hbest)
      · rw [e]; exact .inl rfl
    · have hb0 : bp = S0 p := e8 (hview p hpn)
      have hq : (S0 p).prepared v = some y := h.base.prepared hpn (Nat.le_trans hP (cnt_mono fun k hk e => by
        simp only [beq_iff_eq, none_, Bool.false_or] at e ⊢
        obtain ⟨b, f8, hjv⟩ := hj k hk
        have h1 := hjv.old v y (by omega) e
        rw [f8 (hview k hk)] at h1
        exact hF p k hpn hk _ _ h1))
      obtain ⟨r, h1, h2⟩ := best_least hq hv
      rw [← hb0] at h1
      rcases hpr with hbest | ⟨hbest, _⟩
      · rw [hbest] at h1
        injection h1 with h1
        rw [← h1] at h2; exact h2
      · rw [hbest] at h1; cases h1
theorem talks_wish (P : Nat → CoreM) (h : ∀ i, i < n → (P i).wishes = true) : ∀ a, ∀ i, i < n → (talks notB n P a i).wishes = true
  | 0 => h
  | a + 1 => hearAll_ind (acc := notB) (n := n) (fun R => ∀ i, i < n → (R i).wishes = true) _ (fun v _ R m hm hR i hi => by
      unfold upd
      split
      · rename_i e; subst e; rw [(CoreM.take_wish (acc := notB) (R i) v).2]; exact hR i hi
      · exact hR i hi) (talks_wish P h a)
theorem CrewL.rounds (h : CrewL n slot V P) (hw : ∀ i, i < n → (P i).wishes = true) : ∀ k, (CrewL n slot V (Ytkkmkkgjpmlhaaa.rounds notB n P k) ∧ ∀ i, i < n → (Ytkkmkkgjpmlhaaa.rounds notB n P k i).wishes = true) ∧ Onward n P (Ytkkmkkgjpmlhaaa.rounds notB n P k)
  | 0 => ⟨⟨h, hw⟩, .refl _ _⟩
  | k + 1 => by
    obtain ⟨⟨h1, h2⟩, h3⟩ := h.rounds hw k
    obtain ⟨h4, h5⟩ := h1.talks n (Nat.le_refl _)
    exact ⟨⟨h4, talks_wish _ h2 n⟩, h3.trans (h5 0 (by omega))⟩
/-- A view. -/
theorem Entered.rounds (h : Entered n slot V S0 S) : (CrewL n slot V (Ytkkmkkgjpmlhaaa.rounds notB n S 4) ∧ ∀ i, i < n → (Ytkkmkkgjpmlhaaa.rounds notB n S 4 i).wishes = true) ∧ Onward n S0 (Ytkkmkkgjpmlhaaa.rounds notB n S 4) ∧
    (Some_ n (Ytkkmkkgjpmlhaaa.rounds notB n S 4) ∨ (Full n (Ytkkmkkgjpmlhaaa.rounds notB n S 4) ∧ ∀ i, i < n → (Ytkkmkkgjpmlhaaa.rounds notB n S 4 i).view = V)) ∧
    (Some_ n S0 ∨ (Full n S0 ∧ ∀ i, i < n → (S0 i).view = V - 1) → All_ n (Ytkkmkkgjpmlhaaa.rounds notB n S 4)) := by
  obtain ⟨hC, hon, hw⟩ := h.crew
  obtain ⟨h1, h2⟩ := hC.rounds hw 4
  have hn0 : 0 < n := by have := hC.crew.peers.n4; omega
  have hsome : Some_ n S → All_ n (Ytkkmkkgjpmlhaaa.rounds notB n S 4) := fun hs => by
    have k1 := hC.rounds hw 1
    have h3 : All_ n (Ytkkmkkgjpmlhaaa.rounds notB n S 1) := hC.all_decide hs
    have k2 := (k1.1.1.rounds k1.1.2 3).2
    exact h3.on k2
  refine ⟨h1, hon.trans h2, ?_, fun hS => ?_⟩
  · rcases h.phase with hs | ⟨p, pr, hpn, hp, hV, hacc, hpr, _⟩
    · exact .inl (all_some (hsome hs) hn0)
    · rcases hV.four hp hpn hacc hpr with e | e
      · exact .inl e
      · refine .inr ⟨e, fun i hi => ?_⟩
        have k1 := hV.talks hp n (Nat.le_refl _)
        have k2 := k1.talks hp n (Nat.le_refl _)
        have k3 := k2.talks hp n (Nat.le_refl _)
        have k4 := k3.talks hp n (Nat.le_refl _)
        exact (k4.jv i hi).view
  · rcases hS with hs | ⟨hF, hview⟩
    · exact hsome (hs.on hon)
    · rcases h.phase with hs | ⟨p, pr, hpn, hp, hV, hacc, hpr, hbest⟩
      · exact hsome hs
      · exact hV.best hp hpn hacc hpr (hbest hF hview)
end
end Go.Proofs.Ytkkmkkgjpmlhaaa
namespace Go.Proofs.Ytkkmkkgjpmlhaaa

/-- M is the greatest view. -/
def Att (n : Nat) (slot M : Int) (P : Nat → CoreM) : Prop := CrewL n slot M P ∧ ∃ k, k < n ∧ (P k).view = M
section
variable {n : Nat} {slot M : Int} {P : Nat → CoreM} {i j d : Nat} {c : CoreM}
theorem Att.upd (h : Att n slot M P) (hc : CrewL n slot M (Ytkkmkkgjpmlhaaa.upd P d c)) (hn : CoreM.Next (P d) c) (hdn : d < n) : Att n slot M (Ytkkmkkgjpmlhaaa.upd P d c) := by
  obtain ⟨h1, k, hk, hv⟩ := h
  refine ⟨hc, k, hk, ?_⟩
  by_cases e : k = d
  · subst e
    rw [upd_same]
    have h2 := (hc.live k hk).cap.view
    rw [upd_same] at h2
    have h3 := hn.view
    omega
  · rw [upd_other _ _ e]; exact hv
theorem CrewL.hear (hi : i < n) : ∀ (l : List Vote) {P : Nat → CoreM}, CrewL n slot M P → (∀ v ∈ l, Word n slot M j P v) → CrewL n slot M (Ytkkmkkgjpmlhaaa.upd P i (hear notB (P i) l)) ∧ CoreM.Next (P i) (hear notB (P i) l)
  | [], P, h, _ => ⟨by unfold Ytkkmkkgjpmlhaaa.hear; rw [List.foldl_nil, upd_self]; exact h, CoreM.Next.refl _⟩
  | v :: l, P, h, hl => by
    obtain ⟨h1, h2⟩ := h.take hi (hl v List.mem_cons_self)
    obtain ⟨h3, h4⟩ := CrewL.hear hi l h1 (fun u hu => (hl u (List.mem_cons_of_mem _ hu)).upd h2)
    rw [upd_same, upd_upd] at h3
    rw [upd_same] at h4
    exact ⟨h3, h2.trans h4⟩
theorem CrewL.ask (h : CrewL n slot M P) (hi : i < n) {l : List UInt8} (hl : notB l = true) (h50 : l.length ≤ 50) : CrewL n slot M (Ytkkmkkgjpmlhaaa.upd P i ((P i).ask notB l)) ∧ CoreM.Next (P i) ((P i).ask notB l) :=
  ⟨h.upd ⟨h.crew.peers.ask hi _, lim_upd h.crew.lim ((h.crew.lim i hi).ask h50)⟩ ((h.live i hi).ask (h.fine hi) hl), (CoreM.ask_loc (h.crew.loc hi) _).2⟩
theorem Att.late (h : Att n slot M P) (hi : i < n) : ∃ M', M ≤ M' ∧ M' ≤ M + 1 ∧ Att n slot M' (Ytkkmkkgjpmlhaaa.upd P i ((P i).late notB)) := by
  obtain ⟨h1, k, hk, hv⟩ := id h
  have hcap := (h1.live i hi).cap.view
  by_cases e : (P i).view < M
  · exact ⟨M, Int.le_refl _, by omega, h.upd (h1.late hi e) (CoreM.late_loc (h1.crew.loc hi)).2 hi⟩
  · by_cases e2 : (!(P i).decided && decide ((P i).view < 1048576)) = true
    · have h2 : CrewL n slot (M + 1) (Ytkkmkkgjpmlhaaa.upd P i ((P i).late notB)) := (h1.mono (by omega)).late hi (by omega)
      refine ⟨M + 1, by omega, Int.le_refl _, h2, i, hi, ?_⟩
      rw [upd_same]
      have h3 := (h2.live i hi).cap.view
      rw [upd_same] at h3
      have h4 : M + 1 ≤ ((P i).late notB).view := by
        unfold CoreM.late
        rw [if_pos e2]
        simp only [Bool.and_eq_true, Bool.not_eq_true', decide_eq_true_eq] at e2
        have h5 := (CoreM.settle_loc (acc := notB) (c := { (P i) with view := (P i).view + 1 }) ((h1.crew.loc hi).quiet ((h1.fine hi).nextView e2.2) ⟨rfl, rfl, rfl, rfl, rfl, rfl, rfl⟩ (by dsimp only; omega))).2.view
        dsimp only at h5
        omega
      omega
    · have h2 : (P i).late notB = P i := by unfold CoreM.late; rw [if_neg e2]
      rw [h2, upd_self]
      exact ⟨M, Int.le_refl _, by omega, h⟩
theorem Att.step (h : Att n slot M P) (s : StepM) (h1 : s.value.length ≤ 50) (h4 : s.kind = 4 → notB s.value = true) : ∃ M', M ≤ M' ∧ M' ≤ M + 1 ∧ Att n slot M' (stepP n slot none_ P s) := by
  have hn : 0 < n := by have := h.1.crew.peers.n4; omega
  have hf := idx_lt s.frm hn
  have hd := idx_lt s.dst hn
  have hsame : ∃ M', M ≤ M' ∧ M' ≤ M + 1 ∧ Att n slot M' (Ytkkmkkgjpmlhaaa.upd P (idx s.dst n) (P (idx s.dst n))) := ⟨M, Int.le_refl _, by omega, by rw [upd_self]; exact h⟩
  have stay : ∀ c : CoreM, CrewL n slot M (Ytkkmkkgjpmlhaaa.upd P (idx s.dst n) c) ∧ CoreM.Next (P (idx s.dst n)) c → ∃ M', M ≤ M' ∧ M' ≤ M + 1 ∧ Att n slot M' (Ytkkmkkgjpmlhaaa.upd P (idx s.dst n) c) := fun c hc => ⟨M, Int.le_refl _, by omega, h.upd hc.1 hc.2 hd⟩
  unfold stepP Ytkkmkkgjpmlhaaa.stepC
  split
  · split
    · exact hsame
    · exact stay _ (CrewL.hear hd _ h.1 (fun v hv => h.1.says hf hv))
  split
  · exact h.late hd
  split
  · have ha := h.1.crew.anew hd
    exact stay _ ⟨h.1.upd ⟨h.1.crew.peers.anew hd ha.1, lim_upd h.1.crew.lim ((h.1.crew.lim _ hd).anew (h.1.fine hd))⟩ ((h.1.live _ hd).anew (h.1.fine hd) ha.1), CoreM.anew_next (h.1.fine hd)⟩
  split
  · split
    · rename_i hw; cases hw
    · exact hsame
  split
  · rename_i h4'
    exact stay _ (h.1.ask hd (h4 h4') h1)
  split
  · split
    · exact hsame
    · split
      · rename_i v hv
        exact stay _ (h.1.take hd (h.1.says hf (List.mem_of_getElem? hv)))
      · exact hsame
  · exact hsame
theorem new_settled {m me slot : Int} (h : 4 ≤ m ∧ m ≤ 64 ∧ 1 ≤ me ∧ me ≤ m ∧ 0 ≤ slot ∧ slot ≤ 256) (hf : ({ n := m, me := me, slot := slot } : CoreM).Fine) : CoreM.Settled notB { n := m, me := me, slot := slot } := by
  have e : ({ n := m, me := me, slot := slot } : CoreM).anew = { n := m, me := me, slot := slot } := rfl
  have := CoreM.anew_settled hf (by rw [e]; exact hf)
  rw [e] at this
  exact this
theorem att_new (hc : Crew n slot none_ (fun j => { n := n, me := (j : Int) + 1, slot := slot })) (h4 : 4 ≤ n) (hn : n ≤ 64) (hs : 0 ≤ slot ∧ slot ≤ 256) : Att n slot 0 (fun j => { n := n, me := (j : Int) + 1, slot := slot }) :=
  ⟨⟨hc, fun j hj => ⟨new_settled ⟨by omega, by omega, by omega, by omega, by omega, by omega⟩ (hc.fine hj), ⟨Int.le_refl _, fun q hq => by simp at hq, fun v q e => by cases e⟩, fun e => by cases e⟩⟩, 0, by omega, rfl⟩
end
end Go.Proofs.Ytkkmkkgjpmlhaaa
