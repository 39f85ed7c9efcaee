/- All peers tell one another all. No program in sight. -/
import Derived.Test.YtkkmkkgjpmlhaaaSafe
import Derived.KernelRfl
namespace Go.Proofs.Ytkkmkkgjpmlhaaa

/-- A core hears votes, one behind the other. -/
def hear (acc : List UInt8 → Bool) (c : CoreM) (l : List Vote) : CoreM := l.foldl (fun d v => (d.take acc v).2) c
/-- All of the first n hear votes. -/
def hearAll (acc : List UInt8 → Bool) (n : Nat) (P : Nat → CoreM) (l : List Vote) : Nat → CoreM := fun j => if j < n then hear acc (P j) l else P j
/-- One of them tells all to all. -/
def talk (acc : List UInt8 → Bool) (n : Nat) (P : Nat → CoreM) (a : Nat) : Nat → CoreM := hearAll acc n P (P a).says
/-- The first ones tell all to all. -/
def talks (acc : List UInt8 → Bool) (n : Nat) (P : Nat → CoreM) : Nat → Nat → CoreM
  | 0 => P
  | a + 1 => talk acc n (talks acc n P a) a
/-- So often all tell all to all. -/
def rounds (acc : List UInt8 → Bool) (n : Nat) (P : Nat → CoreM) : Nat → Nat → CoreM
  | 0 => P
  | k + 1 => talks acc n (rounds acc n P k) n
section
variable {acc : List UInt8 → Bool} {n : Nat} {P : Nat → CoreM}
theorem hear_fine {c : CoreM} (h : c.Fine) (l : List Vote) : (hear acc c l).Fine := by
  unfold hear
  induction l generalizing c with
  | nil => exact h
  | cons v l ih => exact ih (h.take v)
theorem hearAll_fine (h : ∀ j, j < n → (P j).Fine) (l : List Vote) : ∀ j, j < n → (hearAll acc n P l j).Fine := fun j hj => by
  unfold hearAll
  rw [if_pos hj]
  exact hear_fine (h j hj) l
theorem talks_fine (h : ∀ j, j < n → (P j).Fine) : ∀ a, ∀ j, j < n → (talks acc n P a j).Fine
  | 0 => h
  | a + 1 => hearAll_fine (talks_fine h a) _
theorem rounds_fine (h : ∀ j, j < n → (P j).Fine) : ∀ k, ∀ j, j < n → (rounds acc n P k j).Fine
  | 0 => h
  | k + 1 => talks_fine (rounds_fine h k) n
theorem hearAll_nil : hearAll acc n P [] = P := by funext j; unfold hearAll hear; simp
theorem hearAll_snoc (l : List Vote) (v : Vote) : hearAll acc n P (l ++ [v]) = hearAll acc n (hearAll acc n P l) [v] := by
  funext j
  unfold hearAll hear
  by_cases h : j < n <;> simp [h]
/-- The first m of them hear a vote. -/
def hearTo (acc : List UInt8 → Bool) (P : Nat → CoreM) (v : Vote) (m : Nat) : Nat → CoreM := fun j => if j < m then ((P j).take acc v).2 else P j
theorem hearTo_zero (v : Vote) : hearTo acc P v 0 = P := by funext j; unfold hearTo; simp
theorem hearTo_succ (v : Vote) (m : Nat) : hearTo acc P v (m + 1) = upd (hearTo acc P v m) m ((hearTo acc P v m m).take acc v).2 := by
  funext j
  unfold hearTo upd
  by_cases h : j = m
  · subst h; simp
  · rw [if_neg h]
    by_cases h2 : j < m
    · rw [if_pos (by omega)]; dsimp only; rw [if_pos h2]
    · rw [if_neg (by omega)]; dsimp only; rw [if_neg h2]
theorem hearTo_all (v : Vote) : hearTo acc P v n = hearAll acc n P [v] := by funext j; unfold hearTo hearAll hear; rfl
theorem hearTo_fine (h : ∀ j, j < n → (P j).Fine) (v : Vote) (m : Nat) : ∀ j, j < n → (hearTo acc P v m j).Fine := fun j hj => by
  unfold hearTo
  split
  · exact (h j hj).take v
  · exact h j hj
end

/-! ### Numbers of what is told -/
theorem says_nums {c : CoreM} (h : c.Fine) {x : Vote} (hx : x ∈ c.says) : (1 ≤ x.kind ∧ x.kind ≤ 5) ∧ (1 ≤ x.frm ∧ x.frm ≤ 64) ∧ (0 ≤ x.slot ∧ x.slot ≤ 256) ∧ (0 ≤ x.view ∧ x.view ≤ 4294967296) ∧ (-1 ≤ x.valid ∧ x.valid ≤ 4294967296) ∧ x.value.length ≤ 16777216 := by
  obtain ⟨n0, n1, m0, m1, s0, s1, v0, v1⟩ := h.ok
  have mine : ∀ kind (t : TM), TMFine t → (1 ≤ kind ∧ kind ≤ 5) → x ∈ c.mine kind t → _ := fun kind t ht hk hm => by
    obtain ⟨e1, e2, e3, e4, e5⟩ := mine_mem hm
    have hv := (ht.inner x.view).lookup e5
    have hview : 0 ≤ x.view ∧ x.view ≤ 4294967296 := by
      unfold inner at e5
      cases hl : t.lookup x.view with
      | none => rw [hl] at e5; cases e5
      | some u => exact ht.1.2 _ (lookup_mem hl)
    exact (show (1 ≤ x.kind ∧ x.kind ≤ 5) ∧ (1 ≤ x.frm ∧ x.frm ≤ 64) ∧ (0 ≤ x.slot ∧ x.slot ≤ 256) ∧ (0 ≤ x.view ∧ x.view ≤ 4294967296) ∧ (-1 ≤ x.valid ∧ x.valid ≤ 4294967296) ∧ x.value.length ≤ 16777216 from
      ⟨by omega, by omega, by omega, hview, by omega, hv⟩)
  rcases says_cases hx with rfl | ⟨p, hp, _, _, rfl⟩ | hm | hm
  · unfold CoreM.word
    split
    · exact ⟨by dsimp only; omega, ⟨m0, by dsimp only; omega⟩, ⟨s0, s1⟩, by dsimp only; omega, by dsimp only; omega, h.value⟩
    · exact ⟨by dsimp only; omega, ⟨m0, by dsimp only; omega⟩, ⟨s0, s1⟩, ⟨v0, v1⟩, by dsimp only; omega, by simp⟩
  · have hpv := h.propsV _ (lookup_mem hp)
    exact ⟨by dsimp only; omega, ⟨m0, by dsimp only; omega⟩, ⟨s0, s1⟩, ⟨v0, v1⟩, hpv.2, hpv.1⟩
  · exact mine 2 _ h.preps (by decide) hm
  · exact mine 3 _ h.comms (by decide) hm

/-! ### Four peers come to the first one's wish -/
def live0 : Nat → CoreM := fun j => { n := 4, me := (j : Int) + 1, slot := 0 }
def live1 : Nat → CoreM := upd live0 0 ((live0 0).ask (fun _ => true) [119])
theorem live0_fine : ∀ j, j < 4 → (live0 j).Fine := fun j hj => by
  exact {
    ok := ⟨show (4 : Int) ≤ 4 by decide, show (4 : Int) ≤ 64 by decide, show (1 : Int) ≤ (j : Int) + 1 by omega, show (j : Int) + 1 ≤ 4 by omega, show (0 : Int) ≤ 0 by decide, show (0 : Int) ≤ 256 by decide, show (0 : Int) ≤ 0 by decide, show (0 : Int) ≤ 4294967296 by decide⟩
    wish := show (0 : Nat) ≤ 16777216 by decide
    locked := show (0 : Nat) ≤ 16777216 by decide
    value := show (0 : Nat) ≤ 16777216 by decide
    props := KeysFine.nil
    propsV := fun p hp => (List.not_mem_nil hp).elim
    preps := TMFine.nil
    comms := TMFine.nil
    turns := TMFine.nil
    seen := KeysFine.nil
    seenV := fun p hp => (List.not_mem_nil hp).elim
    decs := ToldFine.nil
    lock0 := show (-1 : Int) ≤ -1 by decide
    lock1 := show (-1 : Int) ≤ 4294967296 by decide }
theorem live1_fine : ∀ j, j < 4 → (live1 j).Fine := fun j hj => by
  unfold live1 upd
  split
  · exact (live0_fine 0 (by decide)).ask _
  · exact live0_fine j hj

/-- The same over a list, that the kernel can run. -/
def talkL (acc : List UInt8 → Bool) (L : List CoreM) (a : Nat) : List CoreM := match L[a]? with
  | some c => L.map fun d => hear acc d c.says
  | none => L
def talksL (acc : List UInt8 → Bool) (L : List CoreM) : Nat → List CoreM
  | 0 => L
  | a + 1 => talkL acc (talksL acc L a) a
def roundsL (acc : List UInt8 → Bool) (n : Nat) (L : List CoreM) : Nat → List CoreM
  | 0 => L
  | k + 1 => talksL acc (roundsL acc n L k) n
def SameAs (n : Nat) (P : Nat → CoreM) (L : List CoreM) : Prop := L.length = n ∧ ∀ j, j < n → L[j]? = some (P j)
theorem SameAs.talk {acc : List UInt8 → Bool} {n : Nat} {P : Nat → CoreM} {L : List CoreM} (h : SameAs n P L) {a : Nat} (ha : a < n) : SameAs n (talk acc n P a) (talkL acc L a) := by
  obtain ⟨h1, h2⟩ := h
  unfold talkL
  rw [h2 a ha]
  dsimp only
  refine ⟨by rw [List.length_map, h1], fun j hj => ?_⟩
  rw [List.getElem?_map, h2 j hj]
  unfold Ytkkmkkgjpmlhaaa.talk hearAll
  rw [if_pos hj]
  rfl
theorem SameAs.talks {acc : List UInt8 → Bool} {n : Nat} {P : Nat → CoreM} {L : List CoreM} (h : SameAs n P L) : ∀ a, a ≤ n → SameAs n (talks acc n P a) (talksL acc L a)
  | 0, _ => h
  | a + 1, ha => (h.talks a (by omega)).talk (by omega)
theorem SameAs.rounds {acc : List UInt8 → Bool} {n : Nat} {P : Nat → CoreM} {L : List CoreM} (h : SameAs n P L) : ∀ k, SameAs n (rounds acc n P k) (roundsL acc n L k)
  | 0 => h
  | k + 1 => (h.rounds k).talks n (Nat.le_refl _)
def liveL : List CoreM := [live1 0, live1 1, live1 2, live1 3]
theorem live_same : SameAs 4 live1 liveL := ⟨rfl, fun j hj => by
  rcases (show j = 0 ∨ j = 1 ∨ j = 2 ∨ j = 3 by omega) with rfl | rfl | rfl | rfl <;> rfl⟩
set_option maxRecDepth 100000 in
theorem live_run : ((roundsL (fun _ => true) 4 liveL 4)[3]?).map (fun c => (c.decided, c.value)) = some (true, [119]) := by kernel_rfl
theorem live_end : (rounds (fun _ => true) 4 live1 4 3).decided = true ∧ (rounds (fun _ => true) 4 live1 4 3).value = [119] := by
  have h := live_run
  rw [(live_same.rounds 4).2 3 (by decide)] at h
  simpa using h
end Go.Proofs.Ytkkmkkgjpmlhaaa
