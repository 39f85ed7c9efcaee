/- Several cores in memory, each of an owner of its own. -/
import Derived.Test.YtkkmkkgjpmlhaaaV03
import Derived.Test.YtkkmkkgjpmlhaaaV17
import Derived.Test.YtkkmkkgjpmlhaaaV25
import Derived.Test.YtkkmkkgjpmlhaaaV20
namespace Go.Proofs.Ytkkmkkgjpmlhaaa
open Go.RowKit Go.MapKept

/-- n cores in memory at the blocks B; the blocks of Z are nobody's. -/
def Lot (w : World) (Z : Nat → Prop) (fid n : Nat) (B : Nat → Nat) (P : Nat → CoreM) : Prop :=
  ∃ (ρ : Roles) (W : Nat → Nat) (N : Nat), (∀ j, j < n → CoreAt w ρ (W j) (B j) fid (P j) ∧ 1 ≤ W j ∧ W j < N) ∧ (∀ i j, i < n → j < n → W i = W j → i = j) ∧ (∀ k, k < w.heap.size → (ρ k).1 < N) ∧ (∀ k, Z k → (ρ k).1 = 0 ∧ k < w.heap.size) ∧ 1 ≤ N

def updB (B : Nat → Nat) (j b : Nat) : Nat → Nat := fun k => if k = j then b else B k
theorem updB_same (B : Nat → Nat) (j b : Nat) : updB B j b j = b := if_pos rfl
theorem updB_other (B : Nat → Nat) {j k : Nat} (b : Nat) (h : k ≠ j) : updB B j b k = B k := if_neg h

section
variable {w w' : World} {Z Z' F : Nat → Prop} {fid n j : Nat} {B : Nat → Nat} {P : Nat → CoreM} {c : CoreM}
theorem Lot.empty (w : World) (fid : Nat) (B : Nat → Nat) (P : Nat → CoreM) : Lot w (fun k => k < w.heap.size) fid 0 B P :=
  ⟨fun _ => (0, 0, 0), fun _ => 1, 2, fun j hj => absurd hj (Nat.not_lt_zero j), fun i _ hi => absurd hi (Nat.not_lt_zero i), fun _ _ => show 0 < 2 by decide, fun k hk => ⟨rfl, hk⟩, by decide⟩
theorem Lot.mono (h : Lot w Z fid n B P) (hz : ∀ k, Z' k → Z k) : Lot w Z' fid n B P := by
  obtain ⟨ρ, W, N, h1, h2, h3, h4, h5⟩ := h
  exact ⟨ρ, W, N, h1, h2, h3, fun k hk => h4 k (hz k hk), h5⟩
theorem Lot.old (h : Lot w Z fid n B P) {k : Nat} (hk : Z k) : k < w.heap.size := by
  obtain ⟨ρ, W, N, _, _, _, h4, _⟩ := h
  exact (h4 k hk).2
theorem Lot.congr {B' : Nat → Nat} {P' : Nat → CoreM} (h : Lot w Z fid n B P) (hB : ∀ j, j < n → B' j = B j) (hP : ∀ j, j < n → P' j = P j) : Lot w Z fid n B' P' := by
  obtain ⟨ρ, W, N, h1, h2, h3, h4, h5⟩ := h
  exact ⟨ρ, W, N, fun j hj => by rw [hB j hj, hP j hj]; exact h1 j hj, h2, h3, h4, h5⟩
theorem Lot.core (h : Lot w Z fid n B P) (hj : j < n) : ∃ ρ i, CoreAt w ρ i (B j) fid (P j) := by
  obtain ⟨ρ, W, N, h1, _⟩ := h
  exact ⟨ρ, W j, (h1 j hj).1⟩
/-- The blocks of a core are none of Z. -/
theorem Lot.apart (h : Lot w Z fid n B P) (hj : j < n) : ¬ Z (B j) := by
  obtain ⟨ρ, W, N, h1, _, _, h4, _⟩ := h
  obtain ⟨⟨vw, vl, vv, bp, b1, b2, b3, bs, bd, hp⟩, h6, _⟩ := h1 j hj
  intro hz
  have := (h4 _ hz).1
  rw [hp.role] at this
  dsimp only at this
  omega
/-- A core goes on. -/
theorem Lot.left (h : Lot w Z fid n B P) (hj : j < n) {f : FuncId} {args : Array Value} {r : Ending} (hl : ∀ ρ i, CoreAt w ρ i (B j) fid (P j) → Calls Try.prog f args w fun e w' => e = r ∧ Left w w' ρ i (B j) fid c) :
    Calls Try.prog f args w fun e w' => e = r ∧ Lot w' Z fid n B (upd P j c) ∧ Off (fun k => ¬ Z k) w w' := by
  obtain ⟨ρ, W, N, h1, h2, h3, h4, h5⟩ := h
  refine (hl ρ (W j) (h1 j hj).1).mono ?_
  rintro e w' ⟨rfl, hl'⟩
  obtain ⟨ρ', ha, hc, ho, hn⟩ := hl'.norm
  have hj1 := (h1 j hj).2
  refine ⟨rfl, ⟨ρ', W, N, fun k hk => ?_, h2, fun k hk => ?_, fun k hk => ?_, h5⟩, ho.mono (fun k _ e hz => by have := (h4 k hz).1; rw [e] at this; omega)⟩
  · by_cases e : k = j
    · subst e; rw [upd_same]; exact ⟨hc, hj1⟩
    · rw [upd_other _ _ e]
      exact ⟨(h1 k hk).1.keep ho ha (fun x _ hx e2 => e (h2 k j hk hj (by rw [← e2, hx]))), (h1 k hk).2⟩
  · by_cases e : k < w.heap.size
    · rw [ha k e]; exact h3 k e
    · rw [hn k (Nat.not_lt.1 e)]; exact hj1.2
  · obtain ⟨z1, z2⟩ := h4 k hk
    exact ⟨by rw [ha k z2]; exact z1, Nat.lt_of_lt_of_le z2 ho.size⟩
/-- Something of Z has changed, something new has come. -/
theorem Lot.zone (h : Lot w Z fid n B P) (ho : Off F w w') (hF : ∀ k, k < w.heap.size → F k → Z k) : Lot w' (fun k => Z k ∨ (w.heap.size ≤ k ∧ k < w'.heap.size)) fid n B P := by
  obtain ⟨ρ, W, N, h1, h2, h3, h4, h5⟩ := h
  refine ⟨fun k => if k < w.heap.size then ρ k else (0, 0, 0), W, N, fun j hj => ⟨(h1 j hj).1.keep ho (fun k hk => if_pos hk) (fun k hk f e => ?_), (h1 j hj).2⟩, h2, fun k hk => ?_, fun k hk => ?_, h5⟩
  · have h6 := (h4 k (hF k hk f)).1
    have h7 := (h1 j hj).2.1
    rw [e] at h6
    omega
  · dsimp only
    split
    · exact h3 k (by assumption)
    · exact h5
  · rcases hk with hk | ⟨hk, hk2⟩
    · obtain ⟨z1, z2⟩ := h4 k hk
      exact ⟨by dsimp only; rw [if_pos z2]; exact z1, Nat.lt_of_lt_of_le z2 ho.size⟩
    · exact ⟨by dsimp only; rw [if_neg (Nat.not_lt.2 hk)], hk2⟩
theorem Lot.below (h : Lot w Z fid n B P) (hb : Below w.heap.size w w') : Lot w' (fun k => Z k ∨ (w.heap.size ≤ k ∧ k < w'.heap.size)) fid n B P :=
  h.zone (Off.of_below (F := fun _ => False) hb) (fun _ _ f => f.elim)
/-- A core is made. -/
theorem lot_made {ρ ρ' : Roles} {W : Nat → Nat} {N b : Nat} (h1 : ∀ j, j < n → CoreAt w ρ (W j) (B j) fid (P j) ∧ 1 ≤ W j ∧ W j < N) (h2 : ∀ i j, i < n → j < n → W i = W j → i = j) (h3 : ∀ k, k < w.heap.size → (ρ k).1 < N) (h4 : ∀ k, Z k → (ρ k).1 = 0 ∧ k < w.heap.size) (h5 : 1 ≤ N)
    (ha : Agr w ρ ρ') (hc : CoreAt w' ρ' N b fid c) (hb : Below w.heap.size w w') (hn : ∀ k, w.heap.size ≤ k → (ρ' k).1 = N) (m : Nat) (hx : ∀ k, k < m → k ≠ j → k < n) : Lot w' Z fid m (updB B j b) (upd P j c) := by
  have ho := Off.of_below (F := fun _ => False) hb
  refine ⟨ρ', fun k => if k = j then N else W k, N + 1, fun k hk => ?_, fun i k hi hk e => ?_, fun k hk => ?_, fun k hk => ?_, by omega⟩
  · dsimp only
    by_cases e : k = j
    · subst e; rw [if_pos rfl, upd_same, updB_same]; exact ⟨hc, h5, by omega⟩
    · rw [if_neg e, upd_other _ _ e, updB_other _ _ e]
      have h6 := h1 k (hx k hk e)
      exact ⟨h6.1.keep ho ha (fun _ _ f => f.elim), h6.2.1, by omega⟩
  · dsimp only at e
    by_cases ei : i = j
    · by_cases ek : k = j
      · omega
      · rw [if_pos ei, if_neg ek] at e
        have := (h1 k (hx k hk ek)).2.2
        omega
    · by_cases ek : k = j
      · rw [if_neg ei, if_pos ek] at e
        have := (h1 i (hx i hi ei)).2.2
        omega
      · rw [if_neg ei, if_neg ek] at e
        exact h2 i k (hx i hi ei) (hx k hk ek) e
  · by_cases e : k < w.heap.size
    · rw [ha k e]; have := h3 k e; omega
    · rw [hn k (Nat.not_lt.1 e)]; omega
  · obtain ⟨z1, z2⟩ := h4 k hk
    exact ⟨by rw [ha k z2]; exact z1, Nat.lt_of_lt_of_le z2 hb.size⟩
/-- One core more. -/
theorem Lot.new (h : Lot w Z fid n B P) {m me slot : Int} (hm : 4 ≤ m ∧ m ≤ 64 ∧ 1 ≤ me ∧ me ≤ m ∧ 0 ≤ slot ∧ slot ≤ 256) :
    Calls Try.prog 13 #[.int .i64 m, .int .i64 me, .int .i64 slot, .func (.func fid) #[] #[]] w fun e w' => ∃ b, e = .returned (.pointer (some ⟨b, 0, none⟩)) ∧ Lot w' Z fid (n + 1) (updB B n b) (upd P n { n := m, me := me, slot := slot }) ∧ Below w.heap.size w w' := by
  obtain ⟨ρ, W, N, h1, h2, h3, h4, h5⟩ := h
  refine (new_any ρ N fid m me slot w hm).mono ?_
  rintro e w' ⟨b, rfl, ρ', ha, hc, hb, _, hn⟩
  exact ⟨b, rfl, lot_made h1 h2 h3 h4 h5 ha hc hb hn (n + 1) (fun k hk e => by omega), hb⟩
/-- What the reading of a core leaves. -/
def OfLot (w : World) (Z : Nat → Prop) (fid n j : Nat) (B : Nat → Nat) (P : Nat → CoreM) (o : Option CoreM) (e : Ending) (w' : World) : Prop :=
  Below w.heap.size w w' ∧ match o with
    | none => e = .returned (.tuple #[.pointer none, .int .i64 3])
    | some c => ∃ b, e = .returned (.tuple #[.pointer (some ⟨b, 0, none⟩), .int .i64 0]) ∧ Lot w' Z fid (max n (j + 1)) (updB B j b) (upd P j c)
/-- A core begins anew, or a new one is read. -/
theorem Lot.of (h : Lot w Z fid n B P) (hj : j ≤ n) {m me slot : Int} (hm : 4 ≤ m ∧ m ≤ 64 ∧ 1 ≤ me ∧ me ≤ m ∧ 0 ≤ slot ∧ slot ≤ 256) {O : Nat → Prop} {v : Value} {l : List UInt8} (hb : Bs w O v l) (hl : l.length ≤ 268435456) :
    Calls Try.prog 24 #[.int .i64 m, .int .i64 me, .int .i64 slot, .func (.func fid) #[] #[], v] w (OfLot w Z fid n j B P (ofM m me slot l)) := by
  obtain ⟨ρ, W, N, h1, h2, h3, h4, h5⟩ := h
  have key := of_any ρ N fid m me slot w hm hb hl (fun k hk e => by have := h3 k hk; omega)
  generalize ofM m me slot l = o at key ⊢
  refine key.mono ?_
  intro e w' ho
  unfold OfPost at ho
  cases o with
  | none => exact ⟨ho.2, ho.1⟩
  | some c =>
    obtain ⟨b, rfl, ρ', ha, hc, hb, _, hn⟩ := ho
    exact ⟨hb, b, rfl, lot_made h1 h2 h3 h4 h5 ha hc hb hn _ (fun k hk e => by omega)⟩

/-! ### The calls -/
theorem Lot.take {acc : List UInt8 → Bool} {O : Nat → Prop} {val : Value} {v : Vote} (h : Lot w Z fid n B P) (hj : j < n) (hf : (P j).Fine) (ha : Accepts fid acc) (hv : VoteIs w O val v) :
    Calls Try.prog 17 #[.pointer (some ⟨B j, 0, none⟩), val] w fun e w' => e = .returned (.bool ((P j).take acc v).1) ∧ Lot w' Z fid n B (upd P j ((P j).take acc v).2) ∧ Off (fun k => ¬ Z k) w w' :=
  h.left hj (fun ρ i hc => take_any w hc hf ha hv)
theorem Lot.late {acc : List UInt8 → Bool} (h : Lot w Z fid n B P) (hj : j < n) (hf : (P j).Fine) (ha : Accepts fid acc) :
    Calls Try.prog 19 #[.pointer (some ⟨B j, 0, none⟩)] w fun e w' => e = .returned (.tuple #[]) ∧ Lot w' Z fid n B (upd P j ((P j).late acc)) ∧ Off (fun k => ¬ Z k) w w' :=
  h.left hj (fun ρ i hc => late_any w hc hf ha)
theorem Lot.wish {acc : List UInt8 → Bool} {O : Nat → Prop} {val : Value} {l : List UInt8} (h : Lot w Z fid n B P) (hj : j < n) (hf : (P j).Fine) (ha : Accepts fid acc) (hb : Bs w O val l) (hl : l.length ≤ 9223372036854775807) :
    Calls Try.prog 18 #[.pointer (some ⟨B j, 0, none⟩), val] w fun e w' => e = .returned (.tuple #[]) ∧ Lot w' Z fid n B (upd P j ((P j).ask acc l)) ∧ Off (fun k => ¬ Z k) w w' :=
  h.left hj (fun ρ i hc => wish_any w hc hf ha hb hl)
end
end Go.Proofs.Ytkkmkkgjpmlhaaa
