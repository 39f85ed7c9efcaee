/- A core that begins anew, as plain data; how long its bytes are. -/
import Derived.Test.YtkkmkkgjpmlhaaaRvotes
namespace Go.Proofs.Ytkkmkkgjpmlhaaa

/-- How many bytes the values of a map of maps take. -/
def tsize (t : TM) : Nat := (t.map fun p => (p.2.map fun q => 8 + q.2.length).sum).sum

theorem sum_put {α : Type} (f : Int × α → Nat) (m : List (Int × α)) (k : Int) (v : α) (hn : (m.map (·.1)).Nodup) :
    ((put m k v).map f).sum + (match m.lookup k with | some u => f (k, u) | none => 0) = (m.map f).sum + f (k, v) := by
  induction m with
  | nil => simp [put]
  | cons p m ih =>
    simp only [List.map_cons, List.nodup_cons] at hn
    by_cases e : p.1 = k
    · have hl : (p :: m).lookup k = some p.2 := by simp [List.lookup, e]
      have hput : put (p :: m) k v = (k, v) :: m := by
        unfold put
        rw [if_pos (by simp [e])]
        simp only [List.map_cons, e, beq_self_eq_true, if_true, List.cons.injEq, true_and]
        conv => rhs; rw [← List.map_id m]
        apply List.map_congr_left
        intro q hq
        rw [if_neg]
        · rfl
        · intro h; exact hn.1 (List.mem_map.2 ⟨q, hq, by rw [e]; simpa using h⟩)
      rw [hl, hput]
      have hp : f (k, p.2) = f p := by rw [← e]
      simp only [List.map_cons, List.sum_cons, hp]
      omega
    · have hl : (p :: m).lookup k = m.lookup k := by
        simp only [List.lookup]; rw [show (k == p.1) = false from by simpa using Ne.symm e]
      have hput : put (p :: m) k v = p :: put m k v := by
        unfold put
        simp only [List.any_cons, show (p.1 == k) = false from by simpa using e, Bool.false_or]
        split <;> simp [e]
      rw [hl, hput]
      have := ih hn.2
      simp only [List.map_cons, List.sum_cons]
      omega

theorem tsize_setT {t : TM} (h : TMFine t) (view who : Int) (l : List UInt8) : tsize (setT t view who l) ≤ tsize t + 8 + l.length := by
  unfold tsize setT
  have h1 := sum_put (fun p : Int × List (Int × List UInt8) => (p.2.map fun q => 8 + q.2.length).sum) t view (put (inner t view) who l) h.1.1
  have h2 := sum_put (fun q : Int × List UInt8 => 8 + q.2.length) (inner t view) who l (h.inner view).1.1
  have h3 : ((inner t view).map fun q => 8 + q.2.length).sum ≤ (match t.lookup view with | some u => (u.map fun q => 8 + q.2.length).sum | none => 0) := by
    unfold inner
    cases t.lookup view with
    | none => simp
    | some u => simp
  dsimp only at h1 h2
  split at h1 <;> split at h3 <;> simp_all <;> omega

theorem takeR_false {r : List UInt8 × Bool} {n : Nat} (h : (takeR r n).2.2 = false) : n ≤ r.1.length ∧ r.2 = false ∧ (takeR r n).1.length = n ∧ (takeR r n).2.1.length = r.1.length - n := by
  unfold takeR at *
  split at h
  · rename_i hn
    rw [if_pos hn]
    exact ⟨hn, h, by simp; omega, by simp⟩
  · cases h

theorem votesR_fine {me vmax : Int} (hm : 0 ≤ me ∧ me ≤ 4294967296) : ∀ (k : Nat) (last : Int) (t : TM) (r : List UInt8 × Bool), TMFine t → r.1.length ≤ 16777216 →
    TMFine (votesR me vmax k last t r).1 ∧ tsize (votesR me vmax k last t r).1 + (votesR me vmax k last t r).2.1.length ≤ tsize t + r.1.length
  | 0, _, t, r, ht, _ => ⟨ht, Nat.le_refl _⟩
  | k + 1, last, t, r, ht, hl => by
    rw [votesR_succ]
    have l1 := fourR_len r
    have l2 := fourR_len (fourR r).2
    have l3 := takeR_len (fourR (fourR r).2).2 (fourR (fourR r).2).1
    split
    · exact ⟨ht, by dsimp only; omega⟩
    · rename_i hc
      simp only [Bool.or_eq_true, not_or, Bool.not_eq_true] at hc
      obtain ⟨h1, h2, h3, h4⟩ := takeR_false hc.1.1
      obtain ⟨g1, g2, _, g4⟩ := takeR_false (n := 4) h2
      obtain ⟨f1, _, _, f4⟩ := takeR_false (n := 4) g2
      have hlt := fourR_lt r
      have ht' : TMFine (if hasT t (fourR r).1 me then t else setT t (fourR r).1 me (takeR (fourR (fourR r).2).2 (fourR (fourR r).2).1).1) := by
        split
        · exact ht
        · exact ht.setT (by omega) (by omega) hm.1 hm.2 (by unfold Short; omega)
      have hs' : tsize (if hasT t (fourR r).1 me then t else setT t (fourR r).1 me (takeR (fourR (fourR r).2).2 (fourR (fourR r).2).1).1) ≤ tsize t + 8 + (takeR (fourR (fourR r).2).2 (fourR (fourR r).2).1).1.length := by
        split
        · omega
        · exact tsize_setT ht _ _ _
      obtain ⟨k1, k2⟩ := votesR_fine hm k (fourR r).1 _ (takeR (fourR (fourR r).2).2 (fourR (fourR r).2).1).2 ht' (by omega)
      refine ⟨k1, Nat.le_trans k2 ?_⟩
      have e4 : (fourR (fourR r).2).2.1.length = (fourR r).2.1.length - 4 := g4
      have e5 : (fourR r).2.1.length = r.1.length - 4 := f4
      have e6 : 4 ≤ (fourR r).2.1.length := g1
      omega

theorem mine_size {c : CoreM} {kind : Int} {t : TM} (ht : TMFine t) : (votesBytes (c.mine kind t)).length ≤ tsize t := by
  have hp : ((CoreM.keys t).filterMap (c.mineAt kind t)).Perm ((t.map (·.1)).filterMap (c.mineAt kind t)) := (sortZ_perm _).filterMap _
  have hl : (votesBytes (c.mine kind t)).length = (votesBytes ((t.map (·.1)).filterMap (c.mineAt kind t))).length := by
    unfold votesBytes CoreM.mine
    exact (hp.flatMap_right _).length_eq
  rw [hl]
  have hall : ∀ p ∈ t, inner t p.1 = p.2 := fun p hp => by unfold inner; rw [lookup_of_mem ht.1.1 hp]; rfl
  unfold tsize votesBytes
  generalize hT : t = T at hall
  have key : ∀ (s : TM), (∀ p ∈ s, inner T p.1 = p.2) → (((s.map (·.1)).filterMap (c.mineAt kind T)).flatMap voteBytes).length ≤ (s.map fun p => (p.2.map fun q => 8 + q.2.length).sum).sum := by
    intro s
    induction s with
    | nil => intro _; simp
    | cons p s ih =>
      intro hs
      have hi := ih (fun q hq => hs q (List.mem_cons_of_mem _ hq))
      have hp := hs p List.mem_cons_self
      simp only [List.map_cons, List.sum_cons, List.filterMap_cons]
      have hin : ∀ (u : List (Int × List UInt8)) (l : List UInt8), u.lookup c.me = some l → 8 + l.length ≤ (u.map fun q => 8 + q.2.length).sum := by
        intro u
        induction u with
        | nil => intro l h; cases h
        | cons q u ihu =>
          intro l h
          simp only [List.lookup] at h
          simp only [List.map_cons, List.sum_cons]
          split at h
          · cases h; omega
          · have := ihu l h; omega
      unfold CoreM.mineAt
      rw [hp]
      cases hlk : p.2.lookup c.me with
      | none => simp only [Option.map_none]; exact Nat.le_trans hi (Nat.le_add_left _ _)
      | some l =>
        have h8 := hin _ _ hlk
        have hvb : (voteBytes ⟨kind, c.me, c.slot, p.1, -1, l⟩).length = 8 + l.length := by unfold voteBytes; rw [List.length_append, List.length_append, be4_len, be4_len]
        simp only [Option.map_some, List.flatMap_cons, List.length_append, hvb]
        exact Nat.add_le_add h8 hi
  exact key T hall

/-- The lock is the last Commit. -/
def CoreM.withLock (c : CoreM) : CoreM := match (CoreM.keys c.comms).getLast? with
  | none => c
  | some view => { c with lock := view, locked := ((inner c.comms view).lookup c.me).getD [] }

/-- The parts that are read. -/
structure Read where
  view : Nat
  preps : TM
  comms : TM
  kind : List UInt8
  value : List UInt8
  rest : List UInt8 × Bool

def readAll (me : Int) (l : List UInt8) : Read :=
  let a := fourR (l, false)
  let p := votesR me a.1 (fourR a.2).1 (-1) [] (fourR a.2).2
  let q := votesR me a.1 (fourR p.2).1 (-1) [] (fourR p.2).2
  let k := takeR q.2 1
  let d := fourR k.2
  let v := takeR d.2 d.1
  ⟨a.1, p.1, q.1, k.1, v.1, v.2⟩

def Read.wrong (r : Read) : Bool := r.rest.2 || decide (1048576 < (r.view : Int)) || (r.kind.length != 1) || decide (1 < (r.kind.headD 0).toNat)
def Read.core (r : Read) (n me slot : Int) : CoreM := { n := n, me := me, slot := slot, view := r.view, preps := r.preps, comms := r.comms, value := r.value, decided := r.kind.headD 0 == 1 }
/-- Of. -/
def ofM (n me slot : Int) (l : List UInt8) : Option CoreM :=
  if (readAll me l).wrong then none
  else if ((readAll me l).core n me slot).withLock.bytes == l then some ((readAll me l).core n me slot).withLock else none

theorem ofM_bytes {n me slot : Int} {l : List UInt8} {c : CoreM} (h : ofM n me slot l = some c) : c.bytes = l := by
  unfold ofM at h
  split at h
  · cases h
  · split at h
    · cases h; rename_i hb; simpa using hb
    · cases h

theorem readAll_fine {n me slot : Int} {l : List UInt8} (h : 4 ≤ n ∧ n ≤ 64 ∧ 1 ≤ me ∧ me ≤ n ∧ 0 ≤ slot ∧ slot ≤ 256) (hl : l.length ≤ 16777216) :
    TMFine (readAll me l).preps ∧ TMFine (readAll me l).comms ∧ tsize (readAll me l).preps + tsize (readAll me l).comms + (readAll me l).value.length ≤ l.length ∧ (readAll me l).view < 4294967296 ∧ (readAll me l).kind.length ≤ 1 := by
  have hm : 0 ≤ me ∧ me ≤ 4294967296 := by omega
  have l1 := fourR_len (l, false)
  have l2 := fourR_len (fourR (l, false)).2
  obtain ⟨p1, p2⟩ := votesR_fine (vmax := (fourR (l, false)).1) hm (fourR (fourR (l, false)).2).1 (-1) [] (fourR (fourR (l, false)).2).2 TMFine.nil (by simp only at l1; omega)
  have hz : tsize [] = 0 := rfl
  simp only at l1
  rw [hz] at p2
  unfold readAll
  dsimp only
  generalize votesR me (fourR (l, false)).1 (fourR (fourR (l, false)).2).1 (-1) [] (fourR (fourR (l, false)).2).2 = p at p1 p2 ⊢
  have l3 := fourR_len p.2
  obtain ⟨q1, q2⟩ := votesR_fine (vmax := (fourR (l, false)).1) hm (fourR p.2).1 (-1) [] (fourR p.2).2 TMFine.nil (by omega)
  rw [hz] at q2
  generalize votesR me (fourR (l, false)).1 (fourR p.2).1 (-1) [] (fourR p.2).2 = q at q1 q2 ⊢
  have l4 := takeR_len q.2 1
  have l5 := fourR_len (takeR q.2 1).2
  have l6 := takeR_len (fourR (takeR q.2 1).2).2 (fourR (takeR q.2 1).2).1
  refine ⟨p1, q1, by omega, fourR_lt _, ?_⟩
  unfold takeR
  split <;> simp <;> omega

theorem withLock_same (c : CoreM) : c.withLock.n = c.n ∧ c.withLock.me = c.me ∧ c.withLock.slot = c.slot ∧ c.withLock.view = c.view ∧ c.withLock.preps = c.preps ∧ c.withLock.comms = c.comms ∧ c.withLock.decided = c.decided ∧ c.withLock.value = c.value := by
  unfold CoreM.withLock
  split <;> exact ⟨rfl, rfl, rfl, rfl, rfl, rfl, rfl, rfl⟩

theorem withLock_fine {c : CoreM} (h : c.Fine) : c.withLock.Fine := by
  unfold CoreM.withLock
  split
  · exact h
  · rename_i view hv
    obtain ⟨v, hm⟩ := mem_keys.1 (List.mem_of_getLast? hv)
    have hk := h.comms.1.2 _ hm
    have hs : Short (((inner c.comms view).lookup c.me).getD []) := by
      cases hl : (inner c.comms view).lookup c.me with
      | none => exact show (0 : Nat) ≤ 16777216 by decide
      | some l => exact (h.comms.inner view).lookup hl
    obtain ⟨a, b1, b2, b3, b4, b5, b6, b7, b8, b9, b10, b11, b12, b13⟩ := h
    dsimp only at hk
    exact ⟨⟨a.1, a.2, a.3, a.4, a.5, a.6, a.7, a.8⟩, b1, hs, b3, b4, b5, b6, b7, b8, b9, b10, b11, show -1 ≤ view by omega, hk.2⟩

theorem read_fine (r : Read) {n me slot : Int} (h : 4 ≤ n ∧ n ≤ 64 ∧ 1 ≤ me ∧ me ≤ n ∧ 0 ≤ slot ∧ slot ≤ 256) (h1 : TMFine r.preps) (h2 : TMFine r.comms) (h3 : r.value.length ≤ 16777216) (h4 : r.view < 4294967296) : (r.core n me slot).Fine := by
  obtain ⟨n0, n1, m0, m1, s0, s1⟩ := h
  exact {
    ok := ⟨n0, n1, m0, m1, s0, s1, Int.natCast_nonneg r.view, show (r.view : Int) ≤ 4294967296 by omega⟩
    wish := show (0 : Nat) ≤ 16777216 by decide
    locked := show (0 : Nat) ≤ 16777216 by decide
    value := h3
    props := KeysFine.nil
    propsV := fun p hp => (List.not_mem_nil hp).elim
    preps := h1
    comms := h2
    turns := TMFine.nil
    seen := KeysFine.nil
    seenV := fun p hp => (List.not_mem_nil hp).elim
    decs := ToldFine.nil
    lock0 := show (-1 : Int) ≤ -1 by decide
    lock1 := show (-1 : Int) ≤ 4294967296 by decide }
theorem core_fine {n me slot : Int} {l : List UInt8} (h : 4 ≤ n ∧ n ≤ 64 ∧ 1 ≤ me ∧ me ≤ n ∧ 0 ≤ slot ∧ slot ≤ 256) (hl : l.length ≤ 16777216) : ((readAll me l).core n me slot).Fine := by
  obtain ⟨h1, h2, h3, h4, h5⟩ := readAll_fine h hl
  exact read_fine _ h h1 h2 (by omega) h4

theorem block_len (l : List Vote) : (block l).length = 4 + (votesBytes l).length := by unfold block; rw [List.length_append, be4_len]
theorem bytes_len {c : CoreM} (h : c.Fine) : c.bytes.length ≤ 17 + tsize c.preps + tsize c.comms + c.value.length := by
  have h1 := mine_size (c := c) (kind := 2) h.preps
  have h2 := mine_size (c := c) (kind := 3) h.comms
  unfold CoreM.bytes
  rw [List.length_append, List.length_append, List.length_append, be4_len, block_len, block_len]
  split
  · rw [List.length_cons, List.length_append, be4_len]; omega
  · rw [List.length_cons, be4_len]; omega
theorem read_len (r : Read) {n me slot : Int} {m : Nat} (hf : (r.core n me slot).Fine) (hs : tsize r.preps + tsize r.comms + r.value.length ≤ m) : (r.core n me slot).withLock.bytes.length ≤ 17 + m := by
  have h1 := bytes_len (withLock_fine hf)
  obtain ⟨_, _, _, _, e1, e2, _, e3⟩ := withLock_same (r.core n me slot)
  rw [e1, e2, e3] at h1
  simp only [Read.core] at h1
  simp only [Read.core]
  omega
theorem ofCore_len {n me slot : Int} {l : List UInt8} (h : 4 ≤ n ∧ n ≤ 64 ∧ 1 ≤ me ∧ me ≤ n ∧ 0 ≤ slot ∧ slot ≤ 256) (hl : l.length ≤ 16777216) : ((readAll me l).core n me slot).withLock.bytes.length ≤ 4294967295 :=
  Nat.le_trans (read_len _ (core_fine h hl) (readAll_fine h hl).2.2.1) (by omega)
theorem ofM_fine {n me slot : Int} {l : List UInt8} {c : CoreM} (h : 4 ≤ n ∧ n ≤ 64 ∧ 1 ≤ me ∧ me ≤ n ∧ 0 ≤ slot ∧ slot ≤ 256) (hl : l.length ≤ 16777216) (ho : ofM n me slot l = some c) : c.Fine := by
  unfold ofM at ho
  split at ho
  · cases ho
  · split at ho
    · cases ho; exact withLock_fine (core_fine h hl)
    · cases ho
end Go.Proofs.Ytkkmkkgjpmlhaaa
