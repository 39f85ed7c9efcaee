/- The walk of VoteAgrees. -/
import Derived.Test.YtkkmkkgjpmlhaaaA01
import Derived.Test.YtkkmkkgjpmlhaaaA00
import Derived.Test.YtkkmkkgjpmlhaaaV28
namespace Go.Proofs.Ytkkmkkgjpmlhaaa
open Go.RowKit Go.MapKept

theorem crew_new {n : Nat} {slot : Int} {wg : Nat → Bool} (h4 : 4 ≤ n) (hn : n ≤ 64) (hs : 0 ≤ slot ∧ slot ≤ 256) (hw : cnt n wg ≤ (n - 1) / 3) : Crew n slot wg (fun j => { n := n, me := (j : Int) + 1, slot := slot }) :=
  { peers := { n4 := h4, few := hw, ids := fun _ _ => ⟨rfl, rfl, rfl⟩, loc := fun j hj => new_loc notB ⟨by omega, by omega, by omega, by omega, by omega, by omega⟩,
               gp := fun _ _ _ _ _ v x e => (by cases e), gc := fun _ _ _ _ _ v x e => (by cases e), gd := fun _ _ _ _ _ x e => (by cases e), g2 := fun _ _ v x e => (by cases e), gt := fun _ _ _ _ _ _ _ e => (by cases e), gdec := fun _ _ e => (by cases e) },
    lim := fun j _ => CoreM.Lim.new _ _ _ _ }

set_option maxRecDepth 100000 in
set_option maxHeartbeats 8000000 in
theorem agrees_walk (n slot : Int) {O : Nat → Prop} {v2 v3 : Value} {lw : List Int} {l : List StepM} (w : World) (h2 : RowsAt w O 1 (fun m cs => In64 m ∧ cs = [.int .i64 m]) v2 lw) (h3 : RowsAt w O 11 (StepIn w) v3 l) :
    Calls Try.prog 5 #[.int .i64 n, .int .i64 slot, v2, v3] w fun e w' => e = .returned (.bool true) ∧ Below w.heap.size w w' := by
  obtain ⟨A2, cap2, rfl, hlm2, -⟩ := id h2
  obtain ⟨A3, cap3, rfl, hlm3, -⟩ := id h3
  have H2 := hid h2
  have H3 := hid h3
  clear h2 h3
  cases hfw : fewS l with
  | false =>
    have cF := fun W hW => fewSteps_any w W H3.out hW
    rw [hfw] at cF
    go_enter Try.func5, Try.ntmps5
    go_wp2_with (first | (go_at_call 11; refine (lives_any w).mono ?_; rintro e w1 ⟨rfl, hb1⟩) | (go_at_call 26; refine (cF _ hb1).mono ?_; rintro e w2 ⟨rfl, hb2⟩) | (go_at_call 11; refine (lives_any w2).mono ?_; rintro e w3 ⟨rfl, hb3⟩))
    go_ret
    exact ⟨rfl, (hb1.trans (hb2.mono hb1.size)).trans (hb3.mono (hb1.trans (hb2.mono hb1.size)).size)⟩
  | true =>
    have cF := fun W hW => fewSteps_any w W H3.out hW
    rw [hfw] at cF
    by_cases hlw : 20 < lw.length
    · have hlw' : decide ((20 : Int) < (lw.length : Int)) = true := decide_eq_true (by omega)
      go_enter Try.func5, Try.ntmps5
      go_wp2_with (first | (go_at_call 11; refine (lives_any w).mono ?_; rintro e w1 ⟨rfl, hb1⟩) | (go_at_call 26; refine (cF _ hb1).mono ?_; rintro e w2 ⟨rfl, hb2⟩) | (go_at_call 11; refine (lives_any w2).mono ?_; rintro e w3 ⟨rfl, hb3⟩))
      go_ret
      exact ⟨rfl, (hb1.trans (hb2.mono hb1.size)).trans (hb3.mono (hb1.trans (hb2.mono hb1.size)).size)⟩
    · have hlw' : decide ((20 : Int) < (lw.length : Int)) = false := decide_eq_false (by omega)
      obtain ⟨hl250, hsh⟩ := fewS_iff hfw
      obtain ⟨r1, e1, r10, r11⟩ := umod n 7 (by decide)
      obtain ⟨r3, e4, r30, r31⟩ := umod slot 257 (by decide)
      obtain ⟨N, hN⟩ : ∃ N : Nat, 4 + r1 = (N : Int) := ⟨(4 + r1).toNat, by omega⟩
      have e2 : IntKind.i64.wrap (N : Int) = N := IntWalk.i64_in _ (by omega)
      have hN4 : 4 ≤ N ∧ N ≤ 12 := by omega
      have hs3 : 0 ≤ r3 ∧ r3 ≤ 256 := by omega
      have HSH := hid hsh
      clear hsh hfw
      go_enter Try.func5, Try.ntmps5
      go_wp2_with (first | (go_at_call 11; refine (lives_any w).mono ?_; rintro e w1 ⟨rfl, hb1⟩) | (go_at_call 26; refine (cF _ hb1).mono ?_; rintro e w2 ⟨rfl, hb2⟩; have hbw2 := hb1.trans (hb2.mono hb1.size); have cB := begin_any N r3 w w2 H2.out hbw2 hN4 hs3) | (go_at_call 27; refine cB.mono ?_; rintro e w3 ⟨pb, lb, lc, wb, B, wg, Z, rfl, hp3, hl3, hz3, hlb, hcnt, -, hb3⟩))
      have hbw3 : Below w.heap.size w w3 := hbw2.trans (hb3.mono hbw2.size)
      have hcrew := crew_new hN4.1 (by omega) hs3 hcnt
      have hz0 : ∀ k, k < w.heap.size → Z k := fun k hk => hz3 k (Nat.lt_of_lt_of_le hk hbw2.size)
      have hlbw : w.heap.size ≤ lb := Nat.le_trans hbw2.size hlb
      have HP3 := hid hp3
      have HL3 := hid hl3
      have HC3 := hid hcrew
      have HZ0 := hid hz0
      have HB3 := hid hbw3
      clear hp3 hl3 hcrew hz0 hbw3 hz3 hb3 hb2 hb1 hbw2 cB cF hcnt
      go_loopw [40] (fun i wr => ∃ (k : Nat) (B : Nat → Nat) (P : Nat → CoreM), i = .int .i64 k ∧ k ≤ l.length ∧ PeersAt wr Z pb N lb lc wb B wg ∧ Lot wr Z 14 N B P ∧ Crew N r3 wg P ∧ Off (fun k => ¬ Z k ∨ k = lb) w3 wr)
        (fun i _ => l.length - (intOf i).toNat)
      case atStart => exact ⟨0, _, _, rfl, Nat.zero_le _, HP3.out, HL3.out, HC3.out, Off.refl _ _⟩
      case round =>
        obtain ⟨k, B, P, rfl, hk, hp, hlot, hcrew, hoff⟩ := hrel
        have hbwr : Below w.heap.size w wr := HB3.out.trans ((hoff.mono (G := fun k => w.heap.size ≤ k) (fun x _ e => Nat.not_lt.1 fun hx => e.elim (fun e => e (HZ0.out x hx)) (fun e => by omega))).low HB3.out.size)
        by_cases hlt : k < l.length
        · obtain ⟨a, ha⟩ : ∃ a, l[k]? = some a := ⟨_, List.getElem?_eq_getElem hlt⟩
          obtain ⟨ba, off, A1, c1, A4, c4, rfl, -, x0, x1, x2, x3, x4, x5, x6, x7, x8, x9, x10, hv1, hv2, hn1, hn2, hin⟩ := step_cells H3.out hbwr ha
          have hsa := HSH.out a (List.mem_of_getElem? ha)
          obtain ⟨W0, hW0⟩ : ∃ W0 : World, W0 = wr.alloc (.cells #[.int .i64 a.kind, .int .i64 a.frm, .int .i64 a.dst, .int .i64 a.num, .int .i64 a.vote.kind, .int .i64 a.vote.frm, .int .i64 a.vote.slot, .int .i64 a.vote.view, .int .i64 a.vote.valid, .slice A1 a.vote.value.length c1, .slice A4 a.value.length c4] 57) := ⟨_, rfl⟩
          have hbx0 : Below wr.heap.size wr W0 := by rw [hW0]; exact (Below.refl _ wr).alloc (Nat.le_refl _) _
          have hbw0 : Below w.heap.size w W0 := hbwr.trans (hbx0.mono hbwr.size)
          have hp0 := hp.keep (F := fun _ => False) (by omega) (Off.of_below hbx0) id id id
          have hl0 : Lot W0 Z 14 N B P := (hlot.below hbx0).mono (fun _ h => .inl h)
          have cS := step_any (s := a) hp0 hl0 hcrew (by omega) hs3 hsa.1 hsa.2 (hv1.below hbw0) (hv2.below hbw0) hn1
          have hcrew' := (hcrew.stepC a hsa.1 hsa.2).1
          unfold stepV at cS
          rw [hW0] at cS
          have hoff0 := hoff.then_below hbx0
          rw [hW0] at hoff0
          have HOFF := hid hoff0
          have HC' := hid hcrew'
          clear hp hlot hcrew hoff hbwr ha hv1 hv2 hn1 hn2 hin hbx0 hbw0 hp0 hl0 hoff0 hcrew' hW0
          go_wp2_with (first | (go_at_call 28; refine cS.mono ?_; rintro e w5 ⟨rfl, B5, hp5, hl5, ho5⟩; have cA := agree_any hp5 hl5 HC'.out (by omega)) | (go_at_call 29; refine cA.mono ?_; rintro e w6 ⟨rfl, hb6⟩))
          go_roundw
          case rel => exact ⟨k + 1, B5, _, by go_num, hlt, hp5.keep (F := fun _ => False) (by omega) (Off.of_below hb6) id id id, (hl5.below hb6).mono (fun _ h => .inl h), HC'.out, (HOFF.out.trans ho5 (fun _ _ h => h)).then_below hb6⟩
          case measure => simp [intOf]; omega
        · have hke : k = l.length := by omega
          subst hke
          clear hp hlot hcrew hoff
          go_wp2
          go_ret
          exact ⟨rfl, hbwr⟩
end Go.Proofs.Ytkkmkkgjpmlhaaa
