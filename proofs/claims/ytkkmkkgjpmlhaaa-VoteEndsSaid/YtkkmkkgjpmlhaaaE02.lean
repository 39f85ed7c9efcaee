/- The walk of VoteEnds. -/
import Derived.Test.YtkkmkkgjpmlhaaaA02
import Derived.Test.YtkkmkkgjpmlhaaaE01
namespace Go.Proofs.Ytkkmkkgjpmlhaaa
open Go.RowKit Go.MapKept

/-- The view of a core, read in memory. -/
def viewOf (w : World) (b : Nat) : Int := match w.cell? ⟨b, 4, none⟩ with
  | some (.int _ v) => v
  | _ => 0
theorem CoreAt.viewOf {w : World} {ρ : Roles} {i b fid : Nat} {c : CoreM} (h : CoreAt w ρ i b fid c) : Ytkkmkkgjpmlhaaa.viewOf w b = c.view := by
  obtain ⟨vw, vl, vv, bp, b1, b2, b3, bs, bd, h⟩ := h
  have c4 := h.cell 4
  simp only [coreCells, List.getElem?_toArray, List.getElem?_cons_zero, List.getElem?_cons_succ] at c4
  unfold Ytkkmkkgjpmlhaaa.viewOf
  rw [c4]
theorem two_bs (w : World) (k : Nat) (hk : k < 256) : Bs (w.alloc (.cells #[.int .u8 119, .int .u8 k] 5)) (fun b => b = w.heap.size) (.slice (some ⟨w.heap.size, 0, none⟩) 2 2) [119, UInt8.ofNat k] :=
  ⟨_, _, rfl, by simp, (fun h => by cases h), fun _ => ⟨_, 0, rfl, rfl, fun j u hu => by
    have hu8 : (UInt8.ofNat k).toNat = k := by rw [UInt8.toNat_ofNat']; exact Nat.mod_eq_of_lt hk
    match j, hu with
    | 0, hu => cases hu; unfold World.cell?; rw [heap_alloc_new]; rfl
    | 1, hu => cases hu; rw [hu8]; unfold World.cell?; rw [heap_alloc_new]; rfl
    | j + 2, hu => simp at hu⟩⟩

theorem late_gt {c : CoreM} (hl : CoreM.Loc notB c) (hd : c.decided = false) (hv : c.view < 1048576) : c.view + 1 ≤ (c.late notB).view := by
  unfold CoreM.late
  rw [if_pos (by simp [hd, hv])]
  have h5 := (CoreM.settle_loc (acc := notB) (c := { c with view := c.view + 1 }) (hl.quiet (hl.fine.nextView hv) ⟨rfl, rfl, rfl, rfl, rfl, rfl, rfl⟩ (by dsimp only; omega))).2.view
  dsimp only at h5
  exact h5

set_option maxRecDepth 100000 in
set_option maxHeartbeats 8000000 in
theorem ends_walk (n slot : Int) {O : Nat → Prop} {v3 : Value} {l : List StepM} (w : World) (h3 : RowsAt w O 11 (StepIn w) v3 l) :
    Calls Try.prog 7 #[.int .i64 n, .int .i64 slot, v3] w fun e w' => e = .returned (.bool true) ∧ Below w.heap.size w w' := by
  obtain ⟨A3, cap3, rfl, hlm3, -⟩ := id h3
  have H3 := hid h3
  clear h3
  cases hfw : fewS l with
  | false =>
    have cF := fun W hW => fewSteps_any w W H3.out hW
    rw [hfw] at cF
    go_enter Try.func7, Try.ntmps7
    go_wp2_with (first | (go_at_call 11; refine (lives_any w).mono ?_; rintro e w1 ⟨rfl, hb1⟩) | (go_at_call 26; refine (cF _ hb1).mono ?_; rintro e w2 ⟨rfl, hb2⟩) | (go_at_call 11; refine (lives_any w2).mono ?_; rintro e w3 ⟨rfl, hb3⟩))
    go_ret
    exact ⟨rfl, (hb1.trans (hb2.mono hb1.size)).trans (hb3.mono (hb1.trans (hb2.mono hb1.size)).size)⟩
  | true =>
    have cF := fun W hW => fewSteps_any w W H3.out hW
    rw [hfw] at cF
    · obtain ⟨hl250, hsh⟩ := fewS_iff hfw
      obtain ⟨r1, e1, r10, r11⟩ := umod n 7 (by decide)
      obtain ⟨r3, e4, r30, r31⟩ := umod slot 257 (by decide)
      obtain ⟨N, hN⟩ : ∃ N : Nat, 4 + r1 = (N : Int) := ⟨(4 + r1).toNat, by omega⟩
      have e2 : IntKind.i64.wrap (N : Int) = N := IntWalk.i64_in _ (by omega)
      have hN4 : 4 ≤ N ∧ N ≤ 12 := by omega
      have hs3 : 0 ≤ r3 ∧ r3 ≤ 256 := by omega
      have HSH := hid hsh
      clear hsh hfw
      go_enter Try.func7, Try.ntmps7
      go_wp2_with (first | (go_at_call 11; refine (lives_any w).mono ?_; rintro e w1 ⟨rfl, hb1⟩) | (go_at_call 26; refine (cF _ hb1).mono ?_; rintro e w2 ⟨rfl, hb2⟩; have hbw2 := hb1.trans (hb2.mono hb1.size); have cB := begin_any (O := fun _ => False) (v := .slice none 0 0) (l := []) N r3 w2 w2 ⟨none, 0, rfl, by decide, fun h => absurd h (by decide)⟩ (Below.refl _ _) hN4 hs3) | (go_at_call 27; refine cB.mono ?_; rintro e w3 ⟨pb, lb, lc, wb, B, wg, Z, rfl, hp3, hl3, hz3, hlb, hcnt, hwg0, hb3⟩))
      have hbw3 : Below w.heap.size w w3 := hbw2.trans (hb3.mono hbw2.size)
      have hwg : wg = none_ := funext (fun j => hwg0 (by trivial) j)
      subst hwg
      have hcrew := att_new (crew_new hN4.1 (by omega) hs3 hcnt) hN4.1 (by omega) hs3
      have hz0 : ∀ k, k < w.heap.size → Z k := fun k hk => hz3 k (Nat.lt_of_lt_of_le hk hbw2.size)
      have hlbw : w.heap.size ≤ lb := Nat.le_trans hbw2.size hlb
      have HP3 := hid hp3
      have HL3 := hid hl3
      have HC3 := hid hcrew
      have HZ0 := hid hz0
      have HB3 := hid hbw3
      clear hp3 hl3 hcrew hz0 hbw3 hz3 hb3 hb2 hb1 hbw2 cB cF hcnt hwg0
      go_loopw [50] (fun i wr => ∃ (k : Nat) (B : Nat → Nat) (P : Nat → CoreM), i = .int .i64 k ∧ k ≤ l.length ∧ PeersAt wr Z pb N lb lc wb B none_ ∧ Lot wr Z 14 N B P ∧ (∃ M : Int, 0 ≤ M ∧ M ≤ k ∧ Att N r3 M P) ∧ Off (fun k => ¬ Z k ∨ k = lb) w3 wr)
        (fun i _ => l.length - (intOf i).toNat)
      case atStart => exact ⟨0, _, _, rfl, Nat.zero_le _, HP3.out, HL3.out, ⟨0, Int.le_refl _, Int.le_refl _, HC3.out⟩, Off.refl _ _⟩
      case round =>
        obtain ⟨k, B, P, rfl, hk, hp, hlot, ⟨M, hM0, hMk, hatt⟩, hoff⟩ := hrel
        have hcrew := hatt.1.crew
        have hbwr : Below w.heap.size w wr := HB3.out.trans ((hoff.mono (G := fun k => w.heap.size ≤ k) (fun x _ e => Nat.not_lt.1 fun hx => e.elim (fun e => e (HZ0.out x hx)) (fun e => by omega))).low HB3.out.size)
        by_cases hlt : k < l.length
        · obtain ⟨a, ha⟩ : ∃ a, l[k]? = some a := ⟨_, List.getElem?_eq_getElem hlt⟩
          obtain ⟨ba, off, A1, c1, A4, c4, rfl, -, x0, x1, x2, x3, x4, x5, x6, x7, x8, x9, x10, hv1, hv2, hn1, hn2, hin⟩ := step_cells H3.out hbwr ha
          have hsa := HSH.out a (List.mem_of_getElem? ha)
          obtain ⟨W0, hW0⟩ : ∃ W0 : World, W0 = wr.alloc (.cells #[.int .i64 a.kind, .int .i64 a.frm, .int .i64 a.dst, .int .i64 a.num, .int .i64 a.vote.kind, .int .i64 a.vote.frm, .int .i64 a.vote.slot, .int .i64 a.vote.view, .int .i64 a.vote.valid, .slice A1 a.vote.value.length c1, .slice A4 a.value.length c4] 57) := ⟨_, rfl⟩
          have hbx0 : Below wr.heap.size wr W0 := by rw [hW0]; exact (Below.refl _ wr).alloc (Nat.le_refl _) _
          have hbw0 : Below w.heap.size w W0 := hbwr.trans (hbx0.mono hbwr.size)
          have hp0 := hp.keep (F := fun _ => False) (by omega) (Off.of_below hbx0) id id id
          have hl0 : Lot W0 Z 14 N B P := (hlot.below hbx0).mono (fun _ h => .inl h)
          have cS := fun (W : World) (hW : Below W0.heap.size W0 W) => step_any (s := a) (hp0.keep (F := fun _ => False) (by omega) (Off.of_below hW) id id id) ((hl0.below hW).mono (fun _ h => .inl h)) hcrew (by omega) hs3 hsa.1 hsa.2 (hv1.below (hbw0.trans (hW.mono hbw0.size))) (hv2.below (hbw0.trans (hW.mono hbw0.size))) hn1
          unfold stepV at cS
          have hy : ∀ (W : World), Below W0.heap.size W0 W → ∀ (j : Nat) (u : Value), (#[Value.int .i64 a.kind, .int .i64 a.frm, .int .i64 a.dst, .int .i64 a.num, .int .i64 a.vote.kind, .int .i64 a.vote.frm, .int .i64 a.vote.slot, .int .i64 a.vote.view, .int .i64 a.vote.valid, .slice A1 a.vote.value.length c1, .slice A4 a.value.length c4] : Array Value)[j]? = some u → W.cell? ⟨wr.heap.size, j, none⟩ = some u := fun W hW j u hu => by
            have h1 : W0.cell? ⟨wr.heap.size, j, none⟩ = some u := by rw [hW0]; exact (cell_alloc_new wr _ _ _ j rfl).trans hu
            exact (hW.cell (p := ⟨wr.heap.size, j, none⟩) (World.block_lt_of_cell? _ _ h1)).trans h1
          have hoff0 := hoff.then_below hbx0
          have cN := not_accepts.2 W0 _ _ a.value (hv2.below hbw0)
          have HOFF := hid hoff0
          have HATT := hid hatt
          have HP := hid hp0
          have HL := hid hl0
          have HMM := hid (show 0 ≤ M ∧ M ≤ k from ⟨hM0, hMk⟩)
          have hstep := fun h4 => hatt.step a hsa.1 h4
          have HSTEP := hid hstep
          have hW0' := hW0
          clear hp hlot hcrew hoff hbwr ha hv1 hv2 hn1 hn2 hin hbw0 hp0 hl0 hoff0 hW0 hatt hM0 hMk hstep hbx0
          go_upto_region 9 with fail
          rw [← hW0']
          clear hW0' x0 x1 x2 x3 x4 x5 x6 x7 x8 x9 x10
          have y0 := hy W0 (Below.refl _ _) 0 _ rfl
          have y1 := hy W0 (Below.refl _ _) 1 _ rfl
          have y2 := hy W0 (Below.refl _ _) 2 _ rfl
          have y3 := hy W0 (Below.refl _ _) 3 _ rfl
          have y4 := hy W0 (Below.refl _ _) 4 _ rfl
          have y5 := hy W0 (Below.refl _ _) 5 _ rfl
          have y6 := hy W0 (Below.refl _ _) 6 _ rfl
          have y7 := hy W0 (Below.refl _ _) 7 _ rfl
          have y8 := hy W0 (Below.refl _ _) 8 _ rfl
          have y9 := hy W0 (Below.refl _ _) 9 _ rfl
          have y10 := hy W0 (Below.refl _ _) 10 _ rfl
          have HY := hid hy
          clear hy
          by_cases k4 : a.kind = 4
          · have j4 : (a.kind == 4) = true := by simp [k4]
            cases hnb : notB a.value with
            | false =>
              rw [hnb] at cN
              clear k4 hnb
              go_wp2_with (go_at_call 14; refine cN.mono ?_; rintro e w5 ⟨rfl, hb5⟩)
              go_roundw
              case rel => exact ⟨k + 1, B, P, by go_num, hlt, HP.out.keep (F := fun _ => False) (by omega) (Off.of_below hb5) id id id, (HL.out.below hb5).mono (fun _ h => .inl h), ⟨M, HMM.out.1, by have := HMM.out.2; omega, HATT.out⟩, HOFF.out.then_below hb5⟩
              case measure => simp [intOf]; omega
            | true =>
              rw [hnb] at cN
              have HST := hid (HSTEP.out (fun _ => hnb))
              clear k4 hnb
              go_wp2_with (first | (go_at_call 14; refine cN.mono ?_; rintro e w5 ⟨rfl, hb5⟩; have y0 := HY.out _ hb5 0 _ rfl; have y1 := HY.out _ hb5 1 _ rfl; have y2 := HY.out _ hb5 2 _ rfl; have y3 := HY.out _ hb5 3 _ rfl; have y4 := HY.out _ hb5 4 _ rfl; have y5 := HY.out _ hb5 5 _ rfl; have y6 := HY.out _ hb5 6 _ rfl; have y7 := HY.out _ hb5 7 _ rfl; have y8 := HY.out _ hb5 8 _ rfl; have y9 := HY.out _ hb5 9 _ rfl; have y10 := HY.out _ hb5 10 _ rfl) | (go_at_call 28; refine (cS _ hb5).mono ?_; rintro e w6 ⟨rfl, B6, hp6, hl6, ho6⟩))
              go_roundw
              case rel =>
                obtain ⟨M', h1, h2, h3⟩ := HST.out
                exact ⟨k + 1, B6, _, by go_num, hlt, hp6, hl6, ⟨M', by have := HMM.out.1; omega, by have := HMM.out.2; omega, h3⟩, (HOFF.out.then_below hb5).trans ho6 (fun _ _ h => h)⟩
              case measure => simp [intOf]; omega
          · have j4 : (a.kind == 4) = false := by simp [k4]
            have HST := hid (HSTEP.out (fun e => absurd e k4))
            have cS0 := cS W0 (Below.refl _ _)
            clear k4
            go_wp2_with (go_at_call 28; refine cS0.mono ?_; rintro e w6 ⟨rfl, B6, hp6, hl6, ho6⟩)
            go_roundw
            case rel =>
              obtain ⟨M', h1, h2, h3⟩ := HST.out
              exact ⟨k + 1, B6, _, by go_num, hlt, hp6, hl6, ⟨M', by have := HMM.out.1; omega, by have := HMM.out.2; omega, h3⟩, HOFF.out.trans ho6 (fun _ _ h => h)⟩
            case measure => simp [intOf]; omega
        · have hke : k = l.length := by omega
          subst hke
          obtain ⟨w5, hw5⟩ : ∃ w5 : World, w5 = wr := ⟨_, rfl⟩
          have hp5 := hp
          have hlot5 := hlot
          have hb5 := hbwr
          rw [← hw5] at hp5 hlot5 hb5 ⊢
          have q1 := hp5.c1
          have hpos := hatt.1.pos
          have hMl : M ≤ 250 := by omega
          have HP5 := hid hp5
          have HL5 := hid hlot5
          have HB5 := hid hb5
          have HA5 := hid hatt
          clear hp hlot hcrew hoff hp5 hlot5 hb5 hbwr hw5 hatt
          go_wp2
          go_loopw [74, 10] (fun i mo wi => ∃ (k : Nat) (P : Nat → CoreM) (m : Int), i = .int .i64 k ∧ mo = .int .i64 m ∧ k ≤ N ∧ Lot wi Z 14 N B P ∧ (Att N r3 M P ∧ (∀ j, j < k → (P j).wishes = true ∧ (P j).view ≤ m) ∧ 0 ≤ m ∧ m ≤ M) ∧ Off (fun k => ¬ Z k) w5 wi)
            (fun i _ _ => N - (intOf i).toNat)
          case atStart => exact ⟨0, P, 0, rfl, rfl, Nat.zero_le _, HL5.out, ⟨HA5.out, fun j hj => absurd hj (Nat.not_lt_zero j), Int.le_refl _, hpos⟩, Off.refl _ _⟩
          case round =>
            obtain ⟨k, P, m, rfl, rfl, hk, hlot, ⟨hatt, hwish, hm0, hmM⟩, hoff⟩ := hrel
            by_cases hkN : k < N
            · have z1 := hoff.cell_some (HP5.out.cl k hkN) (fun e => e HP5.out.zl)
              have e8 : IntKind.u8.wrap (k : Int) = k := IntWalk.u8_in _ (by omega)
              have hbs := two_bs wr k (by omega)
              have hba : Below wr.heap.size wr (wr.alloc (.cells #[.int .u8 119, .int .u8 k] 5)) := (Below.refl _ wr).alloc (Nat.le_refl _) _
              have hl0 : Lot (wr.alloc (.cells #[.int .u8 119, .int .u8 k] 5)) Z 14 N B P := (hlot.below hba).mono (fun _ h => .inl h)
              have cW := hl0.wish (acc := notB) hkN (hatt.1.fine hkN) not_accepts hbs (by simp)
              obtain ⟨hask, hnext⟩ := hatt.1.ask hkN (l := [119, UInt8.ofNat k]) rfl (by simp)
              have hwi := CoreM.ask_wishes (acc := notB) (P k) (l := [119, UInt8.ofNat k]) (by simp)
              have hatt' := hatt.upd hask hnext hkN
              generalize hcc : (P k).ask notB [119, UInt8.ofNat k] = C at cW hask hnext hwi hatt'
              have hvM := (hask.live k hkN).cap.view
              rw [upd_same] at hvM
              have hv0 := (hask.fine hkN).ok.view0
              rw [upd_same] at hv0
              have HATT := hid hatt'
              have HW := hid hwish
              have HOFF := hid (hoff.then_below hba)
              have HWI := hid hwi
              clear hlot hoff hl0 hbs hba hatt hwish hask hnext hatt' hcc hwi
              go_wp2_with (first | (go_at_call 18; refine cW.mono ?_; rintro e w6 ⟨rfl, hl6, ho6⟩; obtain ⟨ρ, ci, hcore⟩ := hl6.core hkN; rw [upd_same] at hcore; have cV := view_any w6 hcore) | (go_at_call 21; refine cV.mono ?_; rintro e _ ⟨rfl, rfl⟩))
              go_roundw
              case rel =>
                refine ⟨k + 1, _, max m C.view, by go_num, rfl, hkN, hl6, ⟨HATT.out, fun j hj => ?_, by omega, by omega⟩, HOFF.out.trans ho6 (fun _ _ h => h)⟩
                by_cases e : j = k
                · subst e; rw [upd_same]; exact ⟨HWI.out, by omega⟩
                · rw [upd_other _ _ e]
                  have := HW.out j (by omega)
                  exact ⟨this.1, by omega⟩
              case measure => simp [intOf]; omega
            · have hke : N = k := by omega
              subst hke
              have hmM' : m = M := by
                obtain ⟨_, j, hj, hv⟩ := hatt
                have := (hwish j (by omega)).2
                omega
              subst hmM'
              have hM0 := hatt.1.pos
              obtain ⟨w7, hw7⟩ : ∃ w7 : World, w7 = wr := ⟨_, rfl⟩
              rw [← hw7] at hlot hoff ⊢
              have ek1 : IntKind.i64.wrap (m + 1) = m + 1 := IntWalk.i64_in _ (by omega)
              have ek2 : IntKind.i64.wrap (m + (N : Int)) = m + N := IntWalk.i64_in _ (by omega)
              have ek3 : IntKind.i64.wrap (m + (N : Int) + 1) = m + N + 1 := IntWalk.i64_in _ (by omega)
              have HL7 := hid hlot
              have HO7 := hid hoff
              have HA7 := hid hatt.1
              have HW7 := hid (show ∀ j, j < N → (P j).wishes = true from fun j hj => (hwish j (by omega)).1)
              clear hlot hoff hatt hwish hw7 HA5 HL5
              go_wp2
              go_loopw [13] (fun v wi => ∃ (t : Nat) (P : Nat → CoreM), v = .int .i64 (m + 1 + t) ∧ t ≤ N + 1 ∧ Lot wi Z 14 N B P ∧ (CrewL N r3 (m + t) P ∧ (∀ j, j < N → (P j).wishes = true) ∧ (1 ≤ t → Some_ N P ∨ (Full N P ∧ ∀ i, i < N → (P i).view = m + t)) ∧ (2 ≤ t → All_ N P)) ∧ Off (fun k => ¬ Z k) w5 wi)
                (fun v _ => (m + N + 2 - intOf v).toNat)
              case atStart => exact ⟨0, P, by simp, by omega, HL7.out, ⟨by simpa using HA7.out, HW7.out, fun h => absurd h (by decide), fun h => absurd h (by decide)⟩, HO7.out⟩
              case round =>
                clear HL7 HO7 HA7 HW7
                obtain ⟨t, P, rfl, ht, hlot, ⟨hcl, hws, ht1, ht2⟩, hoff⟩ := hrel
                obtain ⟨V, hV⟩ : ∃ V : Int, V = m + 1 + t := ⟨_, rfl⟩
                rw [← hV]
                have x1 := hoff.cell_some HP5.out.c1 (fun e => e HP5.out.zp)
                by_cases htN : t ≤ N
                · have hle : V ≤ m + N + 1 := by omega
                  have hle' : ¬ (m + (N : Int) + 1 < V) := by omega
                  have ekV : IntKind.i64.wrap (V + 1) = V + 1 := IntWalk.i64_in _ (by omega)
                  have hcl1 : CrewL N r3 (V - 1) P := by rw [show V - 1 = m + t from by omega]; exact hcl
                  have hVM : V - 1 < 1048576 := by omega
                  have HT := hid (show (1 ≤ t → Some_ N P ∨ (Full N P ∧ ∀ i, i < N → (P i).view = m + t)) ∧ (2 ≤ t → All_ N P) from ⟨ht1, ht2⟩)
                  have HCL := hid hcl1
                  have HWS := hid hws
                  have HLOT := hid hlot
                  have HOFF := hid hoff
                  have HV := hid hV
                  clear hcl hws ht1 ht2 hlot hoff hcl1 hV
                  go_wp2
                  go_loopw [104] (fun i wi => ∃ (c : Nat) (P' : Nat → CoreM), i = .int .i64 c ∧ c ≤ N ∧ Lot wi Z 14 N B P' ∧ (CrewL N r3 V P' ∧ (∀ i, i < c → LateTo V (P i) (P' i)) ∧ (∀ i, c ≤ i → P' i = P i)) ∧ Off (fun k => ¬ Z k) w5 wi)
                    (fun i _ => N - (intOf i).toNat)
                  case atStart => exact ⟨0, P, rfl, Nat.zero_le _, HLOT.out, ⟨HCL.out.mono (by omega), fun i hi => absurd hi (Nat.not_lt_zero i), fun _ _ => rfl⟩, HOFF.out⟩
                  case round =>
                    obtain ⟨c, P', rfl, hc, hlot, ⟨hcr, hlt1, hlt2⟩, hoff⟩ := hrel
                    by_cases hcN : c < N
                    · have z1 := hoff.cell_some (HP5.out.cl c hcN) (fun e => e HP5.out.zl)
                      have HLOT2 := hid hlot
                      have HCR := hid hcr
                      have HLT := hid (show _ ∧ _ from ⟨hlt1, hlt2⟩)
                      have HOFF2 := hid hoff
                      clear hlot hcr hlt1 hlt2 hoff
                      go_wp2
                      have hfin : ∀ (W : World) (d : CoreM), Lot W Z 14 N B (upd P' c d) → LateTo V (P' c) d → CrewL N r3 V (upd P' c d) → Off (fun k => ¬ Z k) w5 W → ∃ P2 : Nat → CoreM, Lot W Z 14 N B P2 ∧ (CrewL N r3 V P2 ∧ (∀ i, i < c + 1 → LateTo V (P i) (P2 i)) ∧ (∀ i, c + 1 ≤ i → P2 i = P i)) ∧ Off (fun k => ¬ Z k) w5 W := fun W d h1 h2 h3 h4 => ⟨_, h1, ⟨h3, fun i hi => by
                        by_cases e : i = c
                        · subst e; rw [upd_same, ← HLT.out.2 i (Nat.le_refl _)]; exact h2
                        · rw [upd_other _ _ e]; exact HLT.out.1 i (by omega), fun i hi => by rw [upd_other _ _ (by omega)]; exact HLT.out.2 i (by omega)⟩, h4⟩
                      have HFIN := hid hfin
                      clear hfin
                      go_loopw [17] (fun _ wi => ∃ d : CoreM, Lot wi Z 14 N B (upd P' c d) ∧ (∀ e, LateTo V d e → LateTo V (P' c) e) ∧ CrewL N r3 V (upd P' c d) ∧ Off (fun k => ¬ Z k) w5 wi)
                        (fun _ wi => (V - viewOf wi (B c)).toNat)
                      case atStart => exact ⟨P' c, by rw [upd_self]; exact HLOT2.out, fun e h => h, by rw [upd_self]; exact HCR.out, HOFF2.out⟩
                      case round =>
                        obtain ⟨d, hlot, hlate, hcr, hoff⟩ := hrel
                        have hloc := hcr.crew.loc hcN
                        rw [upd_same] at hloc
                        obtain ⟨ρ, ci, hcore⟩ := hlot.core hcN
                        rw [upd_same] at hcore
                        have hvo := hcore.viewOf
                        have cV := view_any wr hcore
                        have hval := (hcr.crew.lim c hcN).value
                        rw [upd_same] at hval
                        have cD := decided_any wr hcore (Nat.le_trans hval (by decide))
                        unfold DecidedPost at cD
                        by_cases hv : d.view < V
                        · cases hd : d.decided with
                          | true =>
                            rw [hd] at cD
                            have hd2 := hlate d (.done (.inr hd))
                            have HFN := hid (fun (W : World) (hW : Below wr.heap.size wr W) => HFIN.out W d ((hlot.below hW).mono (fun _ h => .inl h)) hd2 hcr (hoff.then_below hW))
                            clear hlot hlate hcr hoff hloc hcore hvo hval hd hd2
                            go_wp2_with (first | (go_at_call 21; refine cV.mono ?_; rintro e _ ⟨rfl, rfl⟩) | (go_at_call 20; refine cD.mono ?_; rintro e w9 ⟨v9, rfl, hv9, hb9⟩; obtain ⟨A9, c9, rfl, -⟩ := id hv9))
                            go_roundw
                            case rel =>
                              obtain ⟨P2, h1, h2, h3⟩ := HFN.out _ hb9
                              exact ⟨c + 1, P2, by go_num, hcN, h1, h2, h3⟩
                            case measure => simp [intOf]; omega
                          | false =>
                            rw [hd] at cD
                            have hgt := late_gt hloc hd (by omega)
                            have hnext := fun e (h : LateTo V (d.late notB) e) => hlate e (.late hv hd h)
                            have hcr2 := hcr.late hcN (by rw [upd_same]; exact hv)
                            rw [upd_same, upd_upd] at hcr2
                            have cL := fun (W : World) (hW : Below wr.heap.size wr W) => ((hlot.below hW).mono (Z' := Z) (fun _ h => .inl h)).late (acc := notB) hcN (by rw [upd_same]; exact hloc.fine) not_accepts
                            rw [upd_same, upd_upd] at cL
                            have HN := hid hnext
                            have HCR2 := hid hcr2
                            have HOFF3 := hid hoff
                            have HVO := hid hvo
                            have HGT := hid hgt
                            have hv' := hv
                            clear hlot hlate hcr hoff hloc hcore hvo hval hd hnext hcr2 hgt
                            go_wp2_with (first | (go_at_call 21; refine cV.mono ?_; rintro e _ ⟨rfl, rfl⟩) | (go_at_call 20; refine cD.mono ?_; rintro e w9 ⟨v9, rfl, hv9, hb9⟩; obtain ⟨A9, c9, rfl, -⟩ := id hv9) | (go_at_call 19; refine (cL _ hb9).mono ?_; rintro e w10 ⟨rfl, hl10, ho10⟩))
                            go_roundw
                            case rel => exact ⟨_, hl10, HN.out, HCR2.out, (HOFF3.out.then_below hb9).trans ho10 (fun _ _ h => h)⟩
                            case measure =>
                              obtain ⟨ρ2, ci2, hcore2⟩ := hl10.core hcN
                              rw [upd_same] at hcore2
                              rw [hcore2.viewOf, HVO.out]
                              have := HGT.out
                              omega
                        · have hd2 := hlate d (.done (.inl (by omega)))
                          have HFN := hid (HFIN.out wr d hlot hd2 hcr hoff)
                          clear hlot hlate hcr hoff hloc hcore hvo hval hd2 cD
                          go_wp2_with (go_at_call 21; refine cV.mono ?_; rintro e _ ⟨rfl, rfl⟩)
                          go_roundw
                          case rel =>
                            obtain ⟨P2, h1, h2, h3⟩ := HFN.out
                            exact ⟨c + 1, P2, by go_num, hcN, h1, h2, h3⟩
                          case measure => simp [intOf]; omega
                    · have hke : N = c := by omega
                      subst hke
                      have hent : Entered N r3 V P P' := ⟨HCL.out, HWS.out, hVM, fun i hi => hlt1 i (by omega), fun i hi => hlt2 i (by omega)⟩
                      obtain ⟨hres1, hres2, hres3, hres4⟩ := hent.rounds
                      have hall := fun k => (hent.crew.1.rounds hent.crew.2.2 k).1.1
                      have HALL := hid hall
                      have HRES := hid (show _ ∧ _ ∧ _ from ⟨hres1, hres3, hres4⟩)
                      have HLOT3 := hid hlot
                      have HOFF3 := hid hoff
                      clear hres1 hres2 hres3 hres4 hall hent hlot hoff hcr hlt1 hlt2
                      go_wp2
                      go_loopw [121] (fun i wi => ∃ k : Nat, i = .int .i64 k ∧ k ≤ 4 ∧ Lot wi Z 14 N B (rounds notB N P' k) ∧ Off (fun k => ¬ Z k) w5 wi)
                        (fun i _ => 4 - (intOf i).toNat)
                      case atStart => exact ⟨0, rfl, by decide, HLOT3.out, HOFF3.out⟩
                      case round =>
                        obtain ⟨k, rfl, hk4, hlot, hoff⟩ := hrel
                        have x1 := hoff.cell_some HP5.out.c1 (fun e => e HP5.out.zp)
                        by_cases hk4' : k < 4
                        · have hb4 : decide ((k : Int) < 4) = true := decide_eq_true (by omega)
                          have hck := HALL.out k
                          have hsucc : rounds notB N P' (k + 1) = talks notB N (rounds notB N P' k) N := rfl
                          have HS := hid hsucc
                          clear hsucc
                          generalize rounds notB N P' k = Q at hck hlot HS
                          have HLOT4 := hid hlot
                          have HOFF4 := hid hoff
                          have HCK := hid hck
                          clear hlot hoff hck
                          go_wp2
                          go_loopw [128] (fun i wi => ∃ a : Nat, i = .int .i64 a ∧ a ≤ N ∧ Lot wi Z 14 N B (talks notB N Q a) ∧ Off (fun k => ¬ Z k) w5 wi)
                            (fun i _ => N - (intOf i).toNat)
                          case atStart => exact ⟨0, rfl, Nat.zero_le _, HLOT4.out, HOFF4.out⟩
                          case round =>
                            obtain ⟨a, rfl, haN, hlot, hoff⟩ := hrel
                            by_cases haN' : a < N
                            · have hfr : ∀ j, j < N → (talks notB N Q a j).Fine := talks_fine (fun j hj => HCK.out.fine hj) a
                              have hsucc : talks notB N Q (a + 1) = hearAll notB N (talks notB N Q a) (talks notB N Q a a).says := rfl
                              have HS2 := hid hsucc
                              clear hsucc
                              generalize talks notB N Q a = R at hfr hlot HS2
                              have ga := hoff.cell_some (HP5.out.cl a haN') (fun e => e HP5.out.zl)
                              obtain ⟨ρa, ia, hca⟩ := hlot.core haN'
                              have cS := says_any wr hca (hfr a haN')
                              have HNUM := hid (fun x hx => says_nums (hfr a haN') (x := x) hx)
                              generalize (R a).says = L at cS HS2 HNUM
                              have HLOT5 := hid hlot
                              have HOFF5 := hid hoff
                              have HFR := hid hfr
                              clear hlot hoff hfr hca
                              go_wp2_with (go_at_call 22; refine cS.mono ?_; rintro e w6 ⟨vs, rfl, hvs, hb6⟩; obtain ⟨As, cs, rfl⟩ := hvs.slice)
                              obtain ⟨Z1, hZ1⟩ : ∃ Z' : Nat → Prop, Z' = (fun k => Z k ∨ (wr.heap.size ≤ k ∧ k < w6.heap.size)) := ⟨_, rfl⟩
                              have hz10 : ∀ k, Z k → Z1 k := fun k hk => by rw [hZ1]; exact .inl hk
                              have hz16 : ∀ k, wr.heap.size ≤ k → k < w6.heap.size → Z1 k := fun k h1 h2 => by rw [hZ1]; exact .inr ⟨h1, h2⟩
                              have hl6 : Lot w6 Z1 14 N B R := by rw [hZ1]; exact HLOT5.out.below hb6
                              have ho6 : Off (fun k => ¬ Z k) w5 w6 := HOFF5.out.then_below hb6
                              have hlenL : L.length ≤ 9223372036854775807 := vs_len hvs
                              have HL6 := hid hl6
                              have HO6 := hid ho6
                              have HVS := hid hvs
                              have HZ16 := hid hz16
                              have HZ10 := hid hz10
                              clear hl6 ho6 hvs hz16 hz10 hZ1 cS ga
                              obtain ⟨wq, rfl⟩ : ∃ wq : World, wq = wr := ⟨_, rfl⟩
                              go_loopw [135] (fun i wi => ∃ q : Nat, i = .int .i64 q ∧ q ≤ L.length ∧ Lot wi Z1 14 N B (hearAll notB N R (L.take q)) ∧ Off (fun k => ¬ Z1 k) w6 wi)
                                (fun i _ => L.length - (intOf i).toNat)
                              case atStart => exact ⟨0, rfl, Nat.zero_le _, by rw [List.take_zero, hearAll_nil]; exact HL6.out, Off.refl _ _⟩
                              case round =>
                                obtain ⟨q, rfl, hq, hlot, hoff⟩ := hrel
                                have hon : Off (fun k => ¬ Z k) w5 wr := HO6.out.trans (hoff.mono (G := fun k => ¬ Z k) (fun k _ e h => e (HZ10.out k h))) (fun _ _ h => h)
                                by_cases hqL : q < L.length
                                · obtain ⟨x, hx⟩ : ∃ x, L[q]? = some x := ⟨_, List.getElem?_eq_getElem hqL⟩
                                  have hfs := hearAll_fine (acc := notB) HFR.out (L.take q)
                                  have hsucc : hearAll notB N R (L.take (q + 1)) = hearAll notB N (hearAll notB N R (L.take q)) [x] := by
                                    rw [List.take_add_one, hx]; exact hearAll_snoc _ _
                                  have HS3 := hid hsucc
                                  clear hsucc
                                  generalize hearAll notB N R (L.take q) = T at hfs hlot HS3
                                  obtain ⟨gv, cap2, A2, c2, he, hbx, x0, y1, x2, x3, x4, x5⟩ := HVS.out.later hoff (fun k h1 h2 => HZ16.out k h1 h2) hx
                                  injection he with he1 _ he3
                                  subst he1
                                  subst he3
                                  have hnum := in64_says (HNUM.out x (List.mem_of_getElem? hx))
                                  have hzb : Z1 pb := HZ10.out _ HP5.out.zp
                                  obtain ⟨W0, hW0⟩ : ∃ W0 : World, W0 = wr.alloc (.cells #[.int .i64 x.kind, .int .i64 x.frm, .int .i64 x.slot, .int .i64 x.view, .int .i64 x.valid, .slice A2 x.value.length c2] 31) := ⟨_, rfl⟩
                                  have hbx0 : Below wr.heap.size wr W0 := by rw [hW0]; exact (Below.refl _ wr).alloc (Nat.le_refl _) _
                                  have hon0 : Off (fun k => ¬ Z k) w5 W0 := hon.then_below hbx0
                                  have hc1 := hon0.cell_some HP5.out.c1 (fun e => e HP5.out.zp)
                                  obtain ⟨Z2, hZ2⟩ : ∃ Z : Nat → Prop, Z = (fun k => Z1 k ∨ (wr.heap.size ≤ k ∧ k < W0.heap.size)) := ⟨_, rfl⟩
                                  have hz21 : ∀ k, Z1 k → Z2 k := fun k hk => by rw [hZ2]; exact .inl hk
                                  have hz2b : Z2 wr.heap.size := by rw [hZ2]; exact .inr ⟨Nat.le_refl _, by rw [hW0]; simp⟩
                                  have hl0 : Lot W0 Z2 14 N B T := by rw [hZ2]; exact hlot.below hbx0
                                  have hbs0 : Bs W0 Z1 (.slice A2 x.value.length c2) x.value := hbx.below hbx0
                                  have HBX0 := hid hbx0
                                  have HL0 := hid hl0
                                  have HBS0 := hid hbs0
                                  have HZ21 := hid hz21
                                  have HON0 := hid hon0
                                  have HNX := hid hnum
                                  have HOFF6 := hid hoff
                                  have HFS := hid hfs
                                  have HW0 := hid hW0
                                  rw [hW0] at hc1
                                  clear hlot hoff hfs hbx hnum hx hbx0 hl0 hbs0 hz21 hon0 hZ2 hon
                                  go_wp2
                                  rw [← hW0] at hc1 ⊢
                                  clear hW0 x0 y1 x2 x3 x4 x5
                                  obtain ⟨wp, rfl⟩ : ∃ wp : World, wp = wr := ⟨_, rfl⟩
                                  go_loopw [144] (fun i wi => ∃ b : Nat, i = .int .i64 b ∧ b ≤ N ∧ Lot wi Z2 14 N B (hearTo notB T x b) ∧ Off (fun k => ¬ Z2 k) W0 wi)
                                    (fun i _ => N - (intOf i).toNat)
                                  case atStart => exact ⟨0, rfl, Nat.zero_le _, by rw [hearTo_zero]; exact HL0.out, Off.refl _ _⟩
                                  case round =>
                                    obtain ⟨b, rfl, hbN, hlot, hoff⟩ := hrel
                                    have hon2 : Off (fun k => ¬ Z k) w5 wr := HON0.out.trans (hoff.mono (G := fun k => ¬ Z k) (fun k _ e h => e (HZ21.out k (HZ10.out k h)))) (fun _ _ h => h)
                                    by_cases hbN' : b < N
                                    · have hff := hearTo_fine (acc := notB) HFS.out x b
                                      have HS4 := hid (hearTo_succ (acc := notB) (P := T) x b)
                                      generalize hearTo notB T x b = U at hff hlot HS4
                                      have gb := hon2.cell_some (HP5.out.cl b hbN') (fun e => e HP5.out.zl)
                                      obtain ⟨y0, y1, y2, y3, y4, y5⟩ := vote_box HW0.out hz2b hoff
                                      have hbi : Bs wr Z1 (.slice A2 x.value.length c2) x.value := HBS0.out.keep hoff (fun k _ h e => e (HZ21.out k h))
                                      have cT := hlot.take (acc := notB) (v := x) hbN' (hff b hbN') not_accepts ⟨_, rfl, hbi, HNX.out⟩
                                      have HOFF7 := hid hoff
                                      clear hoff hlot hbi hff hon2
                                      go_wp2_with (go_at_call 17; refine cT.mono ?_; rintro e w9 ⟨rfl, hlot9, hoff9⟩)
                                      go_roundw
                                      case rel => exact ⟨b + 1, by go_num, hbN', by rw [HS4.out]; exact hlot9, HOFF7.out.trans hoff9 (fun _ _ h => h)⟩
                                      case measure => simp [intOf]; omega
                                    · have hbe : N = b := by omega
                                      subst hbe
                                      have hfin : Lot wr Z1 14 N B (hearAll notB N R (L.take (q + 1))) := by
                                        rw [HS3.out, ← hearTo_all]
                                        exact hlot.mono (fun k hk => HZ21.out k hk)
                                      have hoffn : Off (fun k => ¬ Z1 k) w6 wr := (HOFF6.out.then_below HBX0.out).trans (hoff.mono (G := fun k => ¬ Z1 k) (fun k _ e h => e (HZ21.out k h))) (fun _ _ h => h)
                                      have HFIN := hid hfin
                                      have HOFN := hid hoffn
                                      clear hfin hoffn hlot hoff hon2
                                      go_wp2
                                      go_roundw
                                      case rel => exact ⟨q + 1, by go_num, hqL, HFIN.out, HOFN.out⟩
                                      case measure => simp [intOf]; omega
                                · have hqe : q = L.length := by omega
                                  subst hqe
                                  rw [List.take_length] at hlot
                                  have hfin : Lot wr Z 14 N B (talks notB N Q (a + 1)) := by
                                    rw [HS2.out]
                                    exact hlot.mono (fun k hk => HZ10.out k hk)
                                  have HFIN := hid hfin
                                  have HOFN := hid hon
                                  clear hfin hon hlot hoff
                                  go_wp2
                                  go_roundw
                                  case rel => exact ⟨a + 1, by go_num, haN', HFIN.out, HOFN.out⟩
                                  case measure => simp [intOf]; omega
                            · have hae : N = a := by omega
                              subst hae
                              have hfin : Lot wr Z 14 N B (rounds notB N P' (k + 1)) := by rw [HS.out]; exact hlot
                              have HFIN := hid hfin
                              have HOFN := hid hoff
                              clear hfin hlot hoff
                              go_wp2
                              go_roundw
                              case rel => exact ⟨k + 1, by go_num, hk4', HFIN.out, HOFN.out⟩
                              case measure => simp [intOf]; omega
                        · have hke4 : k = 4 := by omega
                          subst hke4
                          have HLR := hid hlot
                          have HOR := hid hoff
                          clear hlot hoff
                          go_wp2
                          go_roundw
                          case rel =>
                            obtain ⟨⟨g1, g2⟩, g3, g4⟩ := HRES.out
                            have hVe := HV.out
                            refine ⟨t + 1, rounds notB N P' 4, by rw [hVe]; go_num, by omega, HLR.out, ⟨by rw [show m + ((t + 1 : Nat) : Int) = V from by omega]; exact g1, g2, fun _ => ?_, fun h2 => ?_⟩, HOR.out⟩
                            · rcases g3 with g3 | ⟨g3, g5⟩
                              · exact .inl g3
                              · exact .inr ⟨g3, fun i hi => by rw [g5 i hi]; omega⟩
                            · refine g4 ?_
                              rcases HT.out.1 (by omega) with g5 | ⟨g5, g6⟩
                              · exact .inl g5
                              · exact .inr ⟨g5, fun i hi => by rw [g6 i hi]; omega⟩
                          case measure => simp [intOf]; omega
                · have hle : ¬ V ≤ m + N + 1 := by omega
                  have hlt : m + (N : Int) + 1 < V := by omega
                  have hall := ht2 (by omega)
                  have hbF : Below w.heap.size w wr := below_zone HB5.out hoff HZ0.out HB5.out.size
                  have cA := fun (W : World) (hW : Below wr.heap.size wr W) => agree_any (P := P) (slot := r3) (HP5.out.keep (by omega) (hoff.then_below hW) (fun e => e HP5.out.zp) (fun e => e HP5.out.zl) (fun e => e HP5.out.zw)) ((hlot.below hW).mono (fun _ h => .inl h)) hcl.crew (by omega)
                  have hz : ∀ c, c < N → wr.cell? ⟨lb, c, none⟩ = some (.pointer (some ⟨B c, 0, none⟩)) := fun c hc => hoff.cell_some (HP5.out.cl c hc) (fun e => e HP5.out.zl)
                  have hD : ∀ c, c < N → ∀ W, Below wr.heap.size wr W → Calls Try.prog 20 #[.pointer (some ⟨B c, 0, none⟩)] W fun e w' => ∃ v, e = .returned (.tuple #[v, .bool true]) ∧ Bs w' (fun k => W.heap.size ≤ k) v (P c).value ∧ Below W.heap.size W w' := fun c hc W hW => by
                    obtain ⟨ρ, ci, hcore⟩ := hlot.core hc
                    have h1 := decided_any W (hcore.below hW) (Nat.le_trans (hcl.crew.lim c hc).value (by decide))
                    unfold DecidedPost at h1
                    rw [hall c hc] at h1
                    exact h1
                  have HZ := hid hz
                  have HD := hid hD
                  have HBF := hid hbF
                  have HCA := hid cA
                  clear hcl hws ht1 ht2 hlot hoff hall hbF cA hz hD
                  go_wp2
                  obtain ⟨w8, hw8⟩ : ∃ w8 : World, w8 = wr := ⟨_, rfl⟩
                  rw [← hw8] at HZ HD HBF HCA ⊢
                  clear hw8
                  go_loopw [160] (fun i wi => ∃ c : Nat, i = .int .i64 c ∧ c ≤ N ∧ Below w8.heap.size w8 wi)
                    (fun i _ => N - (intOf i).toNat)
                  case atStart => exact ⟨0, rfl, Nat.zero_le _, Below.refl _ _⟩
                  case round =>
                    obtain ⟨c, rfl, hc, hb⟩ := hrel
                    by_cases hcN : c < N
                    · have hz8 := HZ.out c hcN
                      have z1 := (hb.cell (p := ⟨lb, c, none⟩) (World.block_lt_of_cell? _ _ hz8)).trans hz8
                      have cD := HD.out c hcN wr hb
                      have HB := hid hb
                      clear hb hz8
                      go_wp2_with (go_at_call 20; refine cD.mono ?_; rintro e w9 ⟨v9, rfl, hv9, hb9⟩; obtain ⟨A9, c9, rfl, -⟩ := id hv9)
                      go_roundw
                      case rel => exact ⟨c + 1, by go_num, hcN, HB.out.trans (hb9.mono HB.out.size)⟩
                      case measure => simp [intOf]; omega
                    · have hce : N = c := by omega
                      subst hce
                      have cA := HCA.out wr hb
                      have hbw := HBF.out.trans (hb.mono HBF.out.size)
                      clear hb
                      go_wp2_with (go_at_call 29; refine cA.mono ?_; rintro e w9 ⟨rfl, hb9⟩)
                      go_ret
                      exact ⟨rfl, hbw.trans (hb9.mono hbw.size)⟩
end Go.Proofs.Ytkkmkkgjpmlhaaa
