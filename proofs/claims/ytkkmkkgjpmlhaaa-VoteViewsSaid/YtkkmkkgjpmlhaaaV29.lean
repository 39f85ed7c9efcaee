/- The walk of VoteViews. -/
import Derived.Test.YtkkmkkgjpmlhaaaV24
import Derived.Test.YtkkmkkgjpmlhaaaV15
import Derived.Test.YtkkmkkgjpmlhaaaV28
import Derived.Deep.DeepCutAuto
import Derived.Deep.CutBlock
import Derived.Deep.RegionHeld3
namespace Go.Proofs.Ytkkmkkgjpmlhaaa
open Go.RowKit Go.MapKept

attribute [local go_sem] eq_arr3 idx_arr3
set_option maxRecDepth 100000 in
set_option maxHeartbeats 8000000 in
theorem views_walk (n me slot : Int) {O : Nat → Prop} {v : Value} {l : List ActM} (w : World) (h : RowsAt w O 8 (ActIn w) v l) :
    Calls Try.prog 3 #[.int .i64 n, .int .i64 me, .int .i64 slot, v] w fun e w' => e = .returned (.bool true) ∧ Below w.heap.size w w' := by
  obtain ⟨A, cap, rfl, hlm, -⟩ := id h
  have H := hid h
  clear h
  cases hfw : fewB l with
  | false =>
    have cF := fun W hW => few_any w W H.out hW
    rw [hfw] at cF
    go_enter Try.func3, Try.ntmps3
    go_wp2_with (first | (go_at_call 11; refine (lives_any w).mono ?_; rintro e w1 ⟨rfl, hb1⟩) | (go_at_call 12; refine (cF _ hb1).mono ?_; rintro e w2 ⟨rfl, hb2⟩) | (go_at_call 11; refine (lives_any w2).mono ?_; rintro e w3 ⟨rfl, hb3⟩))
    go_ret
    exact ⟨rfl, (hb1.trans (hb2.mono hb1.size)).trans (hb3.mono (hb1.trans (hb2.mono hb1.size)).size)⟩
  | true =>
    obtain ⟨hl100, hsh⟩ := fewB_iff hfw
    have cF := fun W hW => few_any w W H.out hW
    rw [hfw] at cF
    obtain ⟨r1, e1, r10, r11⟩ := umod n 9 (by decide)
    have e2 : IntKind.u64.wrap (4 + r1) = 4 + r1 := IntWalk.u64_in _ (by omega)
    obtain ⟨r2, e3, r20, r21⟩ := umod me (4 + r1) (by omega)
    obtain ⟨r3, e4, r30, r31⟩ := umod slot 257 (by decide)
    have e5 : (4 + r1 == 0) = false := by simp; omega
    have hbd : 4 ≤ 4 + r1 ∧ 4 + r1 ≤ 64 ∧ 1 ≤ 1 + r2 ∧ 1 + r2 ≤ 4 + r1 ∧ 0 ≤ r3 ∧ r3 ≤ 256 := by omega
    have HBD := hid hbd
    have HSH := hid hsh
    clear hbd hfw hsh
    go_enter Try.func3, Try.ntmps3
    go_wp2_with (first | (go_at_call 11; refine (lives_any w).mono ?_; rintro e w1 ⟨rfl, hb1⟩) | (go_at_call 12; refine (cF _ hb1).mono ?_; rintro e w2 ⟨rfl, hb2⟩; have hbw2 := hb1.trans (hb2.mono hb1.size); have cN := (Lot.empty w2 14 (fun _ => 0) live0).new HBD.out) | (go_at_call 13; refine cN.mono ?_; rintro e w3 ⟨b, rfl, hlot, hb3⟩; have hbw3 := hbw2.trans (hb3.mono hbw2.size)))
    have hl3 : Lot w3 (fun k => k < w2.heap.size) 14 1 (fun _ => b) (fun _ => { n := 4 + r1, me := 1 + r2, slot := r3 }) := hlot.congr (fun j hj => by obtain rfl : j = 0 := (by omega); exact (updB_same _ _ _).symm) (fun j hj => by obtain rfl : j = 0 := (by omega); exact (upd_same _ _ _).symm)
    have hloc0 := new_loc notB HBD.out
    obtain ⟨Z0, hZ0⟩ : ∃ Z : Nat → Prop, Z = (fun k => k < w2.heap.size) := ⟨_, rfl⟩
    rw [← hZ0] at hl3
    have hz0 : ∀ k, k < w.heap.size → Z0 k := fun k hk => by rw [hZ0]; exact Nat.lt_of_lt_of_le hk hbw2.size
    have HL3 := hid hl3
    have HLOC0 := hid hloc0
    have HZ0 := hid hz0
    have HB3 := hid hbw3
    clear hl3 hlot hloc0 hz0 hZ0 cN cF
    go_loopw [57, 10, 11, 12] (fun i vw vs dn wr => ∃ (k : Nat) (P : Nat → CoreM) (dd : Bool) (sv : List UInt8), i = .int .i64 k ∧ k ≤ l.length ∧ vw = .int .i64 (P 0).view ∧ vs = .string ⟨sv.toArray⟩ ∧ dn = .bool dd ∧ Hid (dd = (P 0).decided ∧ sv = (if (P 0).decided then (P 0).value else [])) ∧ Lot wr Z0 14 1 (fun _ => b) P ∧ CoreM.Loc notB (P 0) ∧ CoreM.Lim 100 (P 0) ∧ ((P 0).me = 1 + r2 ∧ (P 0).slot = r3) ∧ Off (fun k => ¬ Z0 k) w3 wr)
      (fun i _ _ _ _ => l.length - (intOf i).toNat)
    case atStart => exact ⟨0, _, false, [], rfl, Nat.zero_le _, rfl, rfl, rfl, hid ⟨rfl, rfl⟩, HL3.out, HLOC0.out, CoreM.Lim.new _ _ _ _, ⟨rfl, rfl⟩, Off.refl _ _⟩
    case round =>
      obtain ⟨k, P, dd, sv, rfl, hk, rfl, rfl, rfl, hds, hlot, hloc, hlim, hids, hoff⟩ := hrel
      have hbwr := below_zone HB3.out hoff HZ0.out HB3.out.size
      by_cases hlt : k < l.length
      · obtain ⟨a, ha⟩ : ∃ a, l[k]? = some a := ⟨_, List.getElem?_eq_getElem hlt⟩
        obtain ⟨ba, off, A1, c1, A2, c2, rfl, -, x0, x1, x2, x3, x4, x5, x6, x7, hv1, hv2, hn1, hn2⟩ := act_cells H.out hbwr ha
        have hsa := HSH.out a (List.mem_of_getElem? ha)
        obtain ⟨C, hC⟩ : ∃ C, C = P 0 := ⟨_, rfl⟩
        rw [← hC] at hloc hlim hids hds ⊢
        have HCP := hid hC
        clear hC
        go_upto_region 14 with fail
        obtain ⟨W0, hW0⟩ : ∃ W0 : World, W0 = wr.alloc (.cells #[.int .i64 a.kind, .int .i64 a.vote.kind, .int .i64 a.vote.frm, .int .i64 a.vote.slot, .int .i64 a.vote.view, .int .i64 a.vote.valid, .slice A1 a.vote.value.length c1, .slice A2 a.value.length c2] 33) := ⟨_, rfl⟩
        have hbx0 : Below wr.heap.size wr W0 := by rw [hW0]; exact (Below.refl _ wr).alloc (Nat.le_refl _) _
        have hy : ∀ (j : Nat) (u : Value), (#[Value.int .i64 a.kind, .int .i64 a.vote.kind, .int .i64 a.vote.frm, .int .i64 a.vote.slot, .int .i64 a.vote.view, .int .i64 a.vote.valid, .slice A1 a.vote.value.length c1, .slice A2 a.value.length c2] : Array Value)[j]? = some u → W0.cell? ⟨wr.heap.size, j, none⟩ = some u := fun j u hu => by rw [hW0]; exact (cell_alloc_new wr _ _ _ j rfl).trans hu
        have hszW : W0.heap.size = wr.heap.size + 1 := by rw [hW0]; simp
        rw [← hW0]
        obtain ⟨Z1, hZ1⟩ : ∃ Z : Nat → Prop, Z = (fun k => Z0 k ∨ (wr.heap.size ≤ k ∧ k < W0.heap.size)) := ⟨_, rfl⟩
        have hz10 : ∀ k, Z0 k → Z1 k := fun k hk => by rw [hZ1]; exact .inl hk
        have hz1b : Z1 wr.heap.size := by rw [hZ1]; exact .inr ⟨Nat.le_refl _, by omega⟩
        have hl0 : Lot W0 Z1 14 1 (fun _ => b) P := by rw [hZ1]; exact hlot.below hbx0
        have hlenB : C.bytes.length ≤ 4294967295 := Nat.le_trans (hlim.bytes hloc.fine (by decide)) (by decide)
        obtain ⟨ρ, ci, hcore⟩ := hl0.core (j := 0) (by decide)
        rw [← HCP.out] at hcore
        have cB := fun W (hW : Below W0.heap.size W0 W) => bytes_any W (hcore.keep (Off.of_below (F := fun _ => False) hW) (Agr.refl _ _) (fun _ _ f => f.elim)) hloc.fine hlenB
        have cG := fun W (hW : Below W0.heap.size W0 W) => grown_any W (hcore.keep (Off.of_below (F := fun _ => False) hW) (Agr.refl _ _) (fun _ _ f => f.elim)) hloc.fine
        have hdr : Below W0.heap.size W0 W0.drew := (Off.refl (fun _ => False) W0).drew.below
        have HL0 := hid hl0
        have HLOC := hid hloc
        have HLIM := hid hlim
        have HIDS := hid hids
        have HDS := hid hds
        have HY := hid hy
        have HOFF := hid hoff
        have HBX0 := hid hbx0
        have HSZ := hid hszW
        have HBWR := hid hbwr
        have HZ10 := hid hz10
        have HA := hid ha
        have HV1 := hid hv1
        have HV2 := hid hv2
        have HN1 := hid hn1
        clear hszW hl0 hloc hlim hids hds hy hoff hbx0 hbwr hz10 ha hv1 hv2 hn1 hcore hlot hW0 hZ1 x0 x1 x2 x3 x4 x5 x6 x7
        go_cut [16, 17, 18] (fun s p d wx => s = .string ⟨C.bytes.toArray⟩ ∧ d = .bool dd ∧ ∃ g, p = .pointer (some ⟨g, 0, none⟩) ∧ W0.heap.size ≤ g ∧ wx.cell? ⟨g, 0, none⟩ = some (.int .i64 C.view) ∧ wx.cell? ⟨g, 1, none⟩ = some (.int .i64 (ownN C.me C.preps)) ∧ wx.cell? ⟨g, 2, none⟩ = some (.int .i64 (ownN C.me C.comms)) ∧ Below W0.heap.size W0 wx)
        case first =>
          go_region_with (first
            | (go_at_call 15; refine (cB _ (hdr.alloc (Nat.le_refl _) _)).mono ?_; rintro e w5 ⟨v5, rfl, hown5, hb5⟩; obtain ⟨A5, n5, c5, rfl⟩ := hown5.form; have k5 := hown5.bs.convert; have hb5' : Below W0.heap.size W0 w5 := (hdr.alloc (Nat.le_refl _) (.cells #[.int .i64 0, .int .i64 0, .int .i64 0] 35)).trans (hb5.mono (by simp)); obtain ⟨qh, q0, q1, q2, p0, p1, p2⟩ := arr_new (W := W0.drew) (g := W0.heap.size) rfl hb5)
            | (go_at_call 15; refine (cB _ hdr).mono ?_; rintro e w5 ⟨v5, rfl, hown5, hb5⟩; obtain ⟨A5, n5, c5, rfl⟩ := hown5.form; have k5 := hown5.bs.convert; have hb5' : Below W0.heap.size W0 w5 := below_drew_l hb5; have k5a := (hown5.bs.below ((Below.refl _ w5).alloc (Nat.le_refl _) (.cells #[.int .i64 0, .int .i64 0, .int .i64 0] 35))).convert)
            | (go_at_call 16; have qq := qh; refine (cG _ hb5').mono ?_; rintro e w6 ⟨rfl, hb6⟩; have k6 := (hown5.bs.below hb6).convert; have hb6' := hb5'.trans (hb6.mono hb5'.size); obtain ⟨rh, r0, r1', r2', s0, s1, s2⟩ := arr_old qh hb6; have k6c := conv_set hown5.bs qh hb6 (.int .i64 C.view) (.int .i64 (ownN C.me C.preps)) (.int .i64 (ownN C.me C.comms)) (fun e => by have q : (W0.drew.alloc (.cells #[.int .i64 0, .int .i64 0, .int .i64 0] 35)).heap.size = W0.drew.heap.size + 1 := (by simp); have e' : _ ≤ W0.drew.heap.size := e; omega))
            | (go_at_call 16; refine (cG _ (hb5'.alloc hb5'.size _)).mono ?_; rintro e w6 ⟨rfl, hb6⟩; have k6 := ((hown5.bs.below ((Below.refl _ w5).alloc (Nat.le_refl _) (.cells #[.int .i64 0, .int .i64 0, .int .i64 0] 35))).below hb6).convert; have hb6' := (hb5'.alloc hb5'.size (.cells #[.int .i64 0, .int .i64 0, .int .i64 0] 35)).trans (hb6.mono (Nat.le_trans hb5'.size (by simp))); obtain ⟨rh, r0, r1', r2', s0, s1, s2⟩ := arr_new (g := w5.heap.size) rfl hb6; have k6c := conv_set ((hown5.bs.mono (O' := fun k => k < w5.heap.size) (fun _ hb _ => hb)).below ((Below.refl _ w5).alloc (Nat.le_refl _) (.cells #[.int .i64 0, .int .i64 0, .int .i64 0] 35))) (heap_alloc_new w5 _) hb6 (.int .i64 C.view) (.int .i64 (ownN C.me C.preps)) (.int .i64 (ownN C.me C.comms)) (Nat.lt_irrefl _))
            | (go_at_call 16; refine (cG _ hb5').mono ?_; rintro e w6 ⟨rfl, hb6⟩; have k6 := (hown5.bs.below hb6).convert; have hb6' := hb5'.trans (hb6.mono hb5'.size); have k6a := ((hown5.bs.below hb6).below ((Below.refl _ w6).alloc (Nat.le_refl _) (.cells #[.int .i64 0, .int .i64 0, .int .i64 0] 35))).convert; have k6b := ((hown5.bs.below hb6).below ((Below.refl _ w6).alloc (Nat.le_refl _) (.cells #[.int .i64 C.view, .int .i64 (ownN C.me C.preps), .int .i64 (ownN C.me C.comms)] 35))).convert))
          all_goals
            go_wp2
            go_meet
            case rel =>
              first
                | exact ⟨rfl, rfl, arr_made hb6' _ _ _ _⟩
                | exact ⟨rfl, rfl, arr_laid hb6' (Nat.le_refl _) rh _ _ _⟩
                | exact ⟨rfl, rfl, arr_laid hb6' hb5'.size rh _ _ _⟩
        case rest =>
          obtain ⟨rfl, rfl, g, rfl, hg, g0, g1, g2, hbc⟩ := hcut
          obtain ⟨Z2, hZ2⟩ : ∃ Z : Nat → Prop, Z = (fun k => Z1 k ∨ (W0.heap.size ≤ k ∧ k < wc.heap.size)) := ⟨_, rfl⟩
          have hz21 : ∀ k, Z1 k → Z2 k := fun k hk => by rw [hZ2]; exact .inl hk
          have hzg : Z2 g := by rw [hZ2]; exact .inr ⟨hg, World.block_lt_of_cell? _ _ g0⟩
          have hzb : Z2 wr.heap.size := hz21 _ hz1b
          have hl2 : Lot wc Z2 14 1 (fun _ => b) P := by rw [hZ2]; exact HL0.out.below hbc
          have hy : ∀ (j : Nat) (u : Value), W0.cell? ⟨wr.heap.size, j, none⟩ = some u → wc.cell? ⟨wr.heap.size, j, none⟩ = some u := fun j u hu => (hbc.cell (p := ⟨wr.heap.size, j, none⟩) (World.block_lt_of_cell? _ _ hu)).trans hu
          have y0 := hy 0 _ (HY.out 0 _ rfl)
          have y1 := hy 1 _ (HY.out 1 _ rfl)
          have y2 := hy 2 _ (HY.out 2 _ rfl)
          have y3 := hy 3 _ (HY.out 3 _ rfl)
          have y4 := hy 4 _ (HY.out 4 _ rfl)
          have y5 := hy 5 _ (HY.out 5 _ rfl)
          have y6 := hy 6 _ (HY.out 6 _ rfl)
          have y7 := hy 7 _ (HY.out 7 _ rfl)
          have hbwc : Below w.heap.size w wc := (HBWR.out.trans (HBX0.out.mono HBWR.out.size)).trans (hbc.mono (Nat.le_trans HBWR.out.size (by rw [HSZ.out]; omega)))
          have b1 := HV1.out.below hbwc
          have b2 := HV2.out.below hbwc
          have hfP : (P 0).Fine := by rw [← HCP.out]; exact HLOC.out.fine
          have cT := hl2.take (acc := notB) (v := a.vote) (j := 0) (by decide) hfP not_accepts ⟨_, rfl, b1, HN1.out⟩
          have cL := hl2.late (acc := notB) (j := 0) (by decide) hfP not_accepts
          have cW := hl2.wish (acc := notB) (j := 0) (by decide) hfP not_accepts b2 hn2
          have HZ21 := hid hz21
          have HBWC := hid hbwc
          have HBC := hid hbc
          have HG0 := hid g0
          have HG1 := hid g1
          have HG2 := hid g2
          have HL2 := hid hl2
          clear hz21 hbwc hbc g0 g1 g2 hl2 hy b1 b2 hfP hZ2
          obtain ⟨w4, rfl⟩ : ∃ w4 : World, w4 = wc := ⟨_, rfl⟩
          go_step
          go_step
          go_cut [] (fun wx => ∃ P' : Nat → CoreM, Lot wx Z2 14 1 (fun _ => b) P' ∧ P' 0 = stepA notB C a ∧ Off (fun k => ¬ Z2 k) w4 wx)
          case first =>
            have hfin : ∀ (W : World) (C' : CoreM), C' = stepA notB C a → Lot W Z2 14 1 (fun _ => b) (upd P 0 C') → Off (fun k => ¬ Z2 k) w4 W → ∃ P' : Nat → CoreM, Lot W Z2 14 1 (fun _ => b) P' ∧ P' 0 = stepA notB C a ∧ Off (fun k => ¬ Z2 k) w4 W := fun W C' e h ho => ⟨_, h, (upd_same _ _ _).trans e, ho⟩
            have HFIN := hid hfin
            clear hfin
            by_cases k0 : a.kind = 0
            · have K0 := hid k0
              have k1 : (a.kind == 0) = true := by simp [k0]
              clear k0
              go_wp2_with (go_at_call 17; refine cT.mono ?_; rintro e w6 ⟨rfl, hl6, ho6⟩)
              go_meet
              case rel => exact HFIN.out _ _ (by rw [HCP.out]; unfold stepA; rw [if_pos K0.out]) hl6 ho6
            by_cases k1 : a.kind = 1
            · have K0 := hid k0
              have K1 := hid k1
              have j0 : (a.kind == 0) = false := by simp [k0]
              have j1 : (a.kind == 1) = true := by simp [k1]
              clear k0 k1
              go_wp2_with (go_at_call 18; refine cW.mono ?_; rintro e w6 ⟨rfl, hl6, ho6⟩)
              go_meet
              case rel => exact HFIN.out _ _ (by rw [HCP.out]; unfold stepA; rw [if_neg K0.out, if_pos K1.out]) hl6 ho6
            by_cases k2 : a.kind = 2
            · have K0 := hid k0
              have K1 := hid k1
              have K2 := hid k2
              have j0 : (a.kind == 0) = false := by simp [k0]
              have j1 : (a.kind == 1) = false := by simp [k1]
              have j2 : (a.kind == 2) = true := by simp [k2]
              clear k0 k1 k2
              go_wp2_with (go_at_call 19; refine cL.mono ?_; rintro e w6 ⟨rfl, hl6, ho6⟩)
              go_meet
              case rel => exact HFIN.out _ _ (by rw [HCP.out]; unfold stepA; rw [if_neg K0.out, if_neg K1.out, if_pos K2.out]) hl6 ho6
            · have K0 := hid k0
              have K1 := hid k1
              have K2 := hid k2
              have j0 : (a.kind == 0) = false := by simp [k0]
              have j1 : (a.kind == 1) = false := by simp [k1]
              have j2 : (a.kind == 2) = false := by simp [k2]
              clear k0 k1 k2
              go_wp2
              go_meet
              case rel => exact ⟨P, HL2.out, by rw [← HCP.out]; unfold stepA; rw [if_neg K0.out, if_neg K1.out, if_neg K2.out], Off.refl _ _⟩
          case rest =>
            obtain ⟨w6, rfl⟩ : ∃ w6 : World, w6 = wc := ⟨_, rfl⟩
            obtain ⟨P', hl3, hC', ho3⟩ := hcut
            obtain ⟨C', hCe⟩ : ∃ C', C' = P' 0 := ⟨_, rfl⟩
            rw [← hCe] at hC'
            obtain ⟨hloc', hlim', hnext⟩ := stepA_keep (a := a) HLOC.out HLIM.out hsa.2 hsa.1
            rw [← hC'] at hloc' hlim' hnext
            obtain ⟨ρ', ci', hcore'⟩ := hl3.core (j := 0) (by decide)
            rw [← hCe] at hcore'
            have cD := decided_any _ hcore' (Nat.le_trans hlim'.value (by decide))
            have hbt := bytes_same hnext HLOC.out.fine hloc'.fine
            have hsame : dd = true → C'.decided = true ∧ (if C'.decided = true then C'.value else []) = sv := fun e => by
              obtain ⟨e1, e2⟩ := HDS.out.out
              rw [e] at e1
              obtain ⟨q1, q2⟩ := hnext.keepD e1.symm
              rw [e2, ← e1, q1, if_pos rfl, if_pos rfl]
              exact ⟨rfl, q2⟩
            have cV := fun (W : World) (hW : Below w6.heap.size w6 W) => view_any W (hcore'.below hW)
            have cG := fun (W : World) (hW : Below w6.heap.size w6 W) => grown_any W (hcore'.below hW) hloc'.fine
            have cB := fun (W : World) (hW : Below w6.heap.size w6 W) => bytes_any W (hcore'.below hW) hloc'.fine (Nat.le_trans (hlim'.bytes hloc'.fine (by decide)) (by decide))
            have cS := fun (W : World) (hW : Below w6.heap.size w6 W) => says_any W (hcore'.below hW) hloc'.fine
            have hcells : ∀ W, Below w6.heap.size w6 W → W.cell? ⟨g, 0, none⟩ = some (.int .i64 C.view) ∧ W.cell? ⟨g, 1, none⟩ = some (.int .i64 (ownN C.me C.preps)) ∧ W.cell? ⟨g, 2, none⟩ = some (.int .i64 (ownN C.me C.comms)) := fun W hW => by
              have f : ∀ (j : Nat) (u : Value), w4.cell? ⟨g, j, none⟩ = some u → W.cell? ⟨g, j, none⟩ = some u := fun j u hu => by
                have h1 := ho3.cell_some hu (fun h => h hzg)
                exact (hW.cell (p := ⟨g, j, none⟩) (World.block_lt_of_cell? _ _ h1)).trans h1
              exact ⟨f 0 _ HG0.out, f 1 _ HG1.out, f 2 _ HG2.out⟩
            have hsays : ∀ x ∈ C'.says, (x.frm = 1 + r2 ∧ x.slot = r3 ∧ x.view ≤ C'.view) ∧ x.okB = true := fun x hx => by
              have h1 := says_frm hx
              have h2 := hlim'.says hloc'.fine (by decide) hx (fun v y h => hloc'.lp v y h) (fun v y h => hloc'.lc v y h)
              rw [hnext.me, hnext.slot, HIDS.out.1, HIDS.out.2] at h1
              exact ⟨⟨h1.1, h1.2, h2.2⟩, h2.1⟩
            have hnums : ∀ x ∈ C'.says, _ := fun x hx => in64_says (says_nums hloc'.fine hx)
            obtain ⟨d', hd'⟩ : ∃ d', d' = C'.decided := ⟨_, rfl⟩
            rw [← hd'] at hsame hbt
            unfold DecidedPost at cD
            rw [← hd'] at cD
            obtain ⟨x', hx'⟩ : ∃ x', x' = (if d' = true then C'.value else []) := ⟨_, rfl⟩
            rw [← hx'] at cD hsame
            obtain ⟨a1, ha1⟩ : ∃ z : Int, z = C'.view := ⟨_, rfl⟩
            obtain ⟨a2, ha2⟩ : ∃ z : Int, z = ((ownN C'.me C'.preps : Nat) : Int) := ⟨_, rfl⟩
            obtain ⟨a3, ha3⟩ : ∃ z : Int, z = ((ownN C'.me C'.comms : Nat) : Int) := ⟨_, rfl⟩
            obtain ⟨q1, hq1⟩ : ∃ z : Int, z = C.view := ⟨_, rfl⟩
            obtain ⟨q2, hq2⟩ : ∃ z : Int, z = ((ownN C.me C.preps : Nat) : Int) := ⟨_, rfl⟩
            obtain ⟨q3, hq3⟩ : ∃ z : Int, z = ((ownN C.me C.comms : Nat) : Int) := ⟨_, rfl⟩
            obtain ⟨y', hy'⟩ : ∃ y', y' = C'.bytes := ⟨_, rfl⟩
            obtain ⟨y0', hy0'⟩ : ∃ y, y = C.bytes := ⟨_, rfl⟩
            have hltv : ¬ a1 < q1 := by rw [ha1, hq1]; exact Int.not_lt.2 hnext.view
            have hbt' : a1 = q1 → a2 = q2 → a3 = q3 → d' = dd → y' = y0' := fun h1 h2 h3 h4 => by
              rw [hy', hy0']
              refine hbt (by rw [← ha1, ← hq1]; exact h1) ?_ ?_ ?_
              · rw [ha2, hq2] at h2; exact Int.ofNat.inj h2
              · rw [ha3, hq3] at h3; exact Int.ofNat.inj h3
              · rw [h4]; exact HDS.out.out.1
            rw [← ha1] at cV hsays
            rw [← ha1, ← ha2, ← ha3] at cG
            rw [← hy'] at cB
            rw [← hy0', ← hq1]
            rw [← hq1, ← hq2, ← hq3] at hcells
            have HDD := hid (⟨hd', hx'⟩ : d' = C'.decided ∧ x' = _)
            have HL3 := hid hl3
            have HLOC' := hid hloc'
            have HLIM' := hid hlim'
            have HNEXT := hid hnext
            have HO3 := hid ho3
            have HC' := hid hCe
            have HSAYS := hid hsays
            have HNUMS := hid hnums
            have HSAME := hid hsame
            have HBT := hid hbt'
            have HCELLS := hid hcells
            have HA1 := hid ha1
            clear hl3 hloc' hlim' hnext ho3 hCe hC' hsays hnums hsame hbt hbt' hcells hd' hx' ha1 ha2 ha3 hq1 hq2 hq3 hy' hy0' hcore'
            go_upto_region 23 with (go_at_call 20; refine cD.mono ?_; rintro e w5 ⟨v5, rfl, hv5, hb5⟩; obtain ⟨A5, c5, rfl, -, -, -⟩ := id hv5; have k5 := hv5.convert)
            go_cut [106] (fun t wx => t = .bool false ∧ wx = w5)
            case first =>
              cases dd with
              | true =>
                obtain ⟨e1, e2⟩ := HSAME.out rfl
                subst e1
                subst e2
                go_wp2_with (go_at_call 21; refine (cV _ hb5).mono ?_; rintro e _ ⟨rfl, rfl⟩)
                go_meet
                case rel => exact ⟨by simp [hltv], rfl⟩
              | false =>
                go_wp2_with (go_at_call 21; refine (cV _ hb5).mono ?_; rintro e _ ⟨rfl, rfl⟩)
                go_meet
                case rel => exact ⟨by simp [hltv], rfl⟩
            case rest =>
              obtain ⟨rfl, hwc⟩ := hcut
              subst hwc
              go_upto_region 25 with fail
              have k5d := (hv5.drew).convert
              have hb5d : Below w6.heap.size w6 wc.drew := ((Off.of_below (F := fun _ => False) hb5).drew).below
              have cVd := cV _ hb5d
              obtain ⟨w7, rfl⟩ : ∃ w7 : World, w7 = wc := ⟨_, rfl⟩
              go_cut [10, 11, 12] (fun y1 y2 y3 wx => y1 = .int .i64 a1 ∧ y2 = .string ⟨x'.toArray⟩ ∧ y3 = .bool d' ∧ Below w6.heap.size w6 wx)
              case first =>
                go_region_with (go_at_call 21; refine cVd.mono ?_; rintro e w7 ⟨rfl, hw7⟩; subst hw7)
                all_goals
                  go_wp2
                  go_meet
                  case rel => exact ⟨rfl, rfl, rfl, hb5d⟩
              case rest =>
                obtain ⟨w8, rfl⟩ : ∃ w8 : World, w8 = wc := ⟨_, rfl⟩
                obtain ⟨rfl, rfl, rfl, hb8⟩ := hcut
                have hb8d : Below w6.heap.size w6 w8.drew := ((Off.of_below (F := fun _ => False) hb8).drew).below
                go_upto_region 26 with fail
                go_cut [140] (fun t wx => t = .bool false ∧ Below w6.heap.size w6 wx)
                case first =>
                  by_cases h : a1 = q1 ∧ a2 = q2 ∧ a3 = q3
                  · obtain ⟨rfl, rfl, rfl⟩ := h
                    by_cases hd : d' = dd
                    · have hy : y' = y0' := HBT.out rfl rfl rfl hd
                      subst hd
                      subst hy
                      refine wp_region_noPanic ?_
                      refine wp_region_held_drew (S := fun W => W.cell? ⟨g, 0, none⟩ = some (.int .i64 a1) ∧ W.cell? ⟨g, 1, none⟩ = some (.int .i64 a2) ∧ W.cell? ⟨g, 2, none⟩ = some (.int .i64 a3)) (by kernel_rfl) ?_ (fun hHeld => ?_)
                      · exact HCELLS.out _ hb8d
                      refine wpAnyH_take (i := 0) (v := ?va0) rfl (by kernel_rfl) (by kernel_rfl) (by kernel_rfl) (fun _ _ _ h => h) (Or.inl ⟨by rfl, ?ha0⟩) (by assumption) ?ra0
                      case ha0 => first | (intro w hSw; (try dsimp only at hSw); go_simp; done) | (intro w hSw; (try dsimp only at hSw); go_simp; with_reducible rfl)
                      try simp only [Act.put, List.getElem_toArray, List.getElem_cons_zero, List.getElem_cons_succ, List.setIfInBounds_toArray, List.set_cons_zero, List.set_cons_succ]
                      refine wpAnyH_take (i := 2) (v := ?va2) rfl (by kernel_rfl) (by kernel_rfl) (by kernel_rfl) (fun _ _ _ h => h) (Or.inl ⟨by rfl, ?ha2⟩) (by assumption) ?ra2
                      case ha2 => first | (intro w hSw; (try dsimp only at hSw); go_simp; done) | (intro w hSw; (try dsimp only at hSw); go_simp; with_reducible rfl)
                      try simp only [Act.put, List.getElem_toArray, List.getElem_cons_zero, List.getElem_cons_succ, List.setIfInBounds_toArray, List.set_cons_zero, List.set_cons_succ]
                      refine wpAnyH_ready (rs := [1]) (by kernel_rfl) (by simp) ?_
                      refine AllReadyH.cons rfl (fun K hK => ?_) AllReadyH.nil
                      go_simp
                      (first
                        | (go_at_call_of 16 (Value.pointer none); refine (grown_none _).mono ?_; rintro e w10 ⟨rfl, hb10⟩; have hbk := hb8d.trans (hb10.mono hb8d.size))
                        | (go_at_call_of 16 (Value.pointer (some (⟨b, 0, none⟩ : Addr))); refine (cG _ hbk).mono ?_; rintro e w11 ⟨rfl, hb11⟩; have hbk := hbk.trans (hb11.mono hbk.size))
                        | (go_at_call 15; refine (cB _ hbk).mono ?_; rintro e w12 ⟨v12, rfl, hown12, hb12⟩; obtain ⟨A12, n12, c12, rfl⟩ := hown12.form; have k12 := hown12.bs.convert; have hbk := hbk.trans (hb12.mono hbk.size)))
                      go_wp2_with fail
                      refine hK.out _ _ ?_ (fun hHeld => ?_)
                      · exact HCELLS.out _ hbk
                      clear hK K
                      try simp only [Act.put, List.getElem_toArray, List.getElem_cons_zero, List.getElem_cons_succ, List.setIfInBounds_toArray, List.set_cons_zero, List.set_cons_succ]
                      refine wpAnyH_take (i := 3) (v := ?va3) rfl (by kernel_rfl) (by kernel_rfl) (by kernel_rfl) (fun _ _ _ h => h) (Or.inl ⟨by rfl, ?ha3⟩) (by assumption) ?ra3
                      case ha3 => first | (intro w hSw; (try dsimp only at hSw); go_simp; done) | (intro w hSw; (try dsimp only at hSw); go_simp; with_reducible rfl)
                      try simp only [Act.put, List.getElem_toArray, List.getElem_cons_zero, List.getElem_cons_succ, List.setIfInBounds_toArray, List.set_cons_zero, List.set_cons_succ]
                      refine wpAnyH_take (i := 4) (v := ?va4) rfl (by kernel_rfl) (by kernel_rfl) (by kernel_rfl) (fun _ _ _ h => h) (Or.inl ⟨by rfl, ?ha4⟩) (by assumption) ?ra4
                      case ha4 => first | (intro w hSw; (try dsimp only at hSw); go_simp; done) | (intro w hSw; (try dsimp only at hSw); go_simp; with_reducible rfl)
                      try simp only [Act.put, List.getElem_toArray, List.getElem_cons_zero, List.getElem_cons_succ, List.setIfInBounds_toArray, List.set_cons_zero, List.set_cons_succ]
                      refine wpAnyH_take (i := 5) (v := ?va5) rfl (by kernel_rfl) (by kernel_rfl) (by kernel_rfl) (fun _ _ _ h => h) (Or.inl ⟨by rfl, ?ha5⟩) (by assumption) ?ra5
                      case ha5 => first | (intro w hSw; (try dsimp only at hSw); go_simp; done) | (intro w hSw; (try dsimp only at hSw); go_simp; with_reducible rfl)
                      try simp only [Act.put, List.getElem_toArray, List.getElem_cons_zero, List.getElem_cons_succ, List.setIfInBounds_toArray, List.set_cons_zero, List.set_cons_succ]
                      refine wpAnyH_take (i := 8) (v := ?va8) rfl (by kernel_rfl) (by kernel_rfl) (by kernel_rfl) (fun _ _ _ h => h) (Or.inl ⟨by rfl, ?ha8⟩) (by assumption) ?ra8
                      case ha8 => first | (intro w hSw; (try dsimp only at hSw); go_simp; done) | (intro w hSw; (try dsimp only at hSw); go_simp; with_reducible rfl)
                      try simp only [Act.put, List.getElem_toArray, List.getElem_cons_zero, List.getElem_cons_succ, List.setIfInBounds_toArray, List.set_cons_zero, List.set_cons_succ]
                      refine wpAnyH_ready (rs := [6]) (by kernel_rfl) (by simp) ?_
                      refine AllReadyH.cons rfl (fun K hK => ?_) AllReadyH.nil
                      go_simp
                      (first
                        | (go_at_call_of 16 (Value.pointer none); refine (grown_none _).mono ?_; rintro e w10 ⟨rfl, hb10⟩; have hbk := hb8d.trans (hb10.mono hb8d.size))
                        | (go_at_call_of 16 (Value.pointer (some (⟨b, 0, none⟩ : Addr))); refine (cG _ hbk).mono ?_; rintro e w11 ⟨rfl, hb11⟩; have hbk := hbk.trans (hb11.mono hbk.size))
                        | (go_at_call 15; refine (cB _ hbk).mono ?_; rintro e w12 ⟨v12, rfl, hown12, hb12⟩; obtain ⟨A12, n12, c12, rfl⟩ := hown12.form; have k12 := hown12.bs.convert; have hbk := hbk.trans (hb12.mono hbk.size)))
                      go_wp2_with fail
                      refine hK.out _ _ ?_ (fun hHeld => ?_)
                      · exact HCELLS.out _ hbk
                      clear hK K
                      try simp only [Act.put, List.getElem_toArray, List.getElem_cons_zero, List.getElem_cons_succ, List.setIfInBounds_toArray, List.set_cons_zero, List.set_cons_succ]
                      refine wpAnyH_ready (rs := [7]) (by kernel_rfl) (by simp) ?_
                      refine AllReadyH.cons rfl (fun K hK => ?_) AllReadyH.nil
                      go_simp
                      refine hK.out _ _ ?_ (fun hHeld => ?_)
                      · exact HCELLS.out _ hbk
                      clear hK K
                      try simp only [Act.put, List.getElem_toArray, List.getElem_cons_zero, List.getElem_cons_succ, List.setIfInBounds_toArray, List.set_cons_zero, List.set_cons_succ]
                      refine wpAnyH_take (i := 9) (v := ?va9) rfl (by kernel_rfl) (by kernel_rfl) (by kernel_rfl) (fun _ _ _ h => h) (Or.inl ⟨by rfl, ?ha9⟩) (by assumption) ?ra9
                      case ha9 => first | (intro w hSw; (try dsimp only at hSw); go_simp; done) | (intro w hSw; (try dsimp only at hSw); go_simp; with_reducible rfl)
                      try simp only [Act.put, List.getElem_toArray, List.getElem_cons_zero, List.getElem_cons_succ, List.setIfInBounds_toArray, List.set_cons_zero, List.set_cons_succ]
                      refine wpAnyH_take (i := 10) (v := ?va10) rfl (by kernel_rfl) (by kernel_rfl) (by kernel_rfl) (fun _ _ _ h => h) (Or.inl ⟨by rfl, ?ha10⟩) (by assumption) ?ra10
                      case ha10 => first | (intro w hSw; (try dsimp only at hSw); go_simp; done) | (intro w hSw; (try dsimp only at hSw); go_simp; with_reducible rfl)
                      try simp only [Act.put, List.getElem_toArray, List.getElem_cons_zero, List.getElem_cons_succ, List.setIfInBounds_toArray, List.set_cons_zero, List.set_cons_succ]
                      refine wpAnyH_take (i := 11) (v := ?va11) rfl (by kernel_rfl) (by kernel_rfl) (by kernel_rfl) (fun _ _ _ h => h) (Or.inl ⟨by rfl, ?ha11⟩) (by assumption) ?ra11
                      case ha11 => first | (intro w hSw; (try dsimp only at hSw); go_simp; done) | (intro w hSw; (try dsimp only at hSw); go_simp; with_reducible rfl)
                      try simp only [Act.put, List.getElem_toArray, List.getElem_cons_zero, List.getElem_cons_succ, List.setIfInBounds_toArray, List.set_cons_zero, List.set_cons_succ]
                      refine wpAnyH_take (i := 12) (v := ?va12) rfl (by kernel_rfl) (by kernel_rfl) (by kernel_rfl) (fun _ _ _ h => h) (Or.inl ⟨by rfl, ?ha12⟩) (by assumption) ?ra12
                      case ha12 => first | (intro w hSw; (try dsimp only at hSw); go_simp; done) | (intro w hSw; (try dsimp only at hSw); go_simp; with_reducible rfl)
                      try simp only [Act.put, List.getElem_toArray, List.getElem_cons_zero, List.getElem_cons_succ, List.setIfInBounds_toArray, List.set_cons_zero, List.set_cons_succ]
                      refine wpAnyH_take (i := 14) (v := ?va14) rfl (by kernel_rfl) (by kernel_rfl) (by kernel_rfl) (fun _ _ _ h => h) (Or.inl ⟨by rfl, ?ha14⟩) (by assumption) ?ra14
                      case ha14 => first | (intro w hSw; (try dsimp only at hSw); go_simp; done) | (intro w hSw; (try dsimp only at hSw); go_simp; with_reducible rfl)
                      try simp only [Act.put, List.getElem_toArray, List.getElem_cons_zero, List.getElem_cons_succ, List.setIfInBounds_toArray, List.set_cons_zero, List.set_cons_succ]
                      refine wpAnyH_ready (rs := [13]) (by kernel_rfl) (by simp) ?_
                      refine AllReadyH.cons rfl (fun K hK => ?_) AllReadyH.nil
                      go_simp
                      (first
                        | (go_at_call_of 16 (Value.pointer none); refine (grown_none _).mono ?_; rintro e w10 ⟨rfl, hb10⟩; have hbk := hb8d.trans (hb10.mono hb8d.size))
                        | (go_at_call_of 16 (Value.pointer (some (⟨b, 0, none⟩ : Addr))); refine (cG _ hbk).mono ?_; rintro e w11 ⟨rfl, hb11⟩; have hbk := hbk.trans (hb11.mono hbk.size))
                        | (go_at_call 15; refine (cB _ hbk).mono ?_; rintro e w12 ⟨v12, rfl, hown12, hb12⟩; obtain ⟨A12, n12, c12, rfl⟩ := hown12.form; have k12 := hown12.bs.convert; have hbk := hbk.trans (hb12.mono hbk.size)))
                      go_wp2_with fail
                      refine hK.out _ _ ?_ (fun hHeld => ?_)
                      · exact HCELLS.out _ hbk
                      clear hK K
                      try simp only [Act.put, List.getElem_toArray, List.getElem_cons_zero, List.getElem_cons_succ, List.setIfInBounds_toArray, List.set_cons_zero, List.set_cons_succ]
                      refine wpAnyH_take (i := 15) (v := ?va15) rfl (by kernel_rfl) (by kernel_rfl) (by kernel_rfl) (fun _ _ _ h => h) (Or.inl ⟨by rfl, ?ha15⟩) (by assumption) ?ra15
                      case ha15 => first | (intro w hSw; (try dsimp only at hSw); go_simp; done) | (intro w hSw; (try dsimp only at hSw); go_simp; with_reducible rfl)
                      try simp only [Act.put, List.getElem_toArray, List.getElem_cons_zero, List.getElem_cons_succ, List.setIfInBounds_toArray, List.set_cons_zero, List.set_cons_succ]
                      refine wpAnyH_take (i := 16) (v := ?va16) rfl (by kernel_rfl) (by kernel_rfl) (by kernel_rfl) (fun _ _ _ h => h) (Or.inl ⟨by rfl, ?ha16⟩) (by assumption) ?ra16
                      case ha16 => first | (intro w hSw; (try dsimp only at hSw); go_simp; done) | (intro w hSw; (try dsimp only at hSw); go_simp; with_reducible rfl)
                      try simp only [Act.put, List.getElem_toArray, List.getElem_cons_zero, List.getElem_cons_succ, List.setIfInBounds_toArray, List.set_cons_zero, List.set_cons_succ]
                      refine wpAnyH_take (i := 17) (v := ?va17) rfl (by kernel_rfl) (by kernel_rfl) (by kernel_rfl) (fun _ _ _ h => h) (Or.inl ⟨by rfl, ?ha17⟩) (by assumption) ?ra17
                      case ha17 => first | (intro w hSw; (try dsimp only at hSw); go_simp; done) | (intro w hSw; (try dsimp only at hSw); go_simp; with_reducible rfl)
                      try simp only [Act.put, List.getElem_toArray, List.getElem_cons_zero, List.getElem_cons_succ, List.setIfInBounds_toArray, List.set_cons_zero, List.set_cons_succ]
                      refine wpAnyH_take (i := 18) (v := ?va18) rfl (by kernel_rfl) (by kernel_rfl) (by kernel_rfl) (fun _ _ _ h => h) (Or.inl ⟨by rfl, ?ha18⟩) (by assumption) ?ra18
                      case ha18 => first | (intro w hSw; (try dsimp only at hSw); go_simp; done) | (intro w hSw; (try dsimp only at hSw); go_simp; with_reducible rfl)
                      try simp only [Act.put, List.getElem_toArray, List.getElem_cons_zero, List.getElem_cons_succ, List.setIfInBounds_toArray, List.set_cons_zero, List.set_cons_succ]
                      refine wpAnyH_take (i := 19) (v := ?va19) rfl (by kernel_rfl) (by kernel_rfl) (by kernel_rfl) (fun _ _ _ h => h) (Or.inl ⟨by rfl, ?ha19⟩) (by assumption) ?ra19
                      case ha19 => first | (intro w hSw; (try dsimp only at hSw); go_simp; done) | (intro w hSw; (try dsimp only at hSw); go_simp; with_reducible rfl)
                      try simp only [Act.put, List.getElem_toArray, List.getElem_cons_zero, List.getElem_cons_succ, List.setIfInBounds_toArray, List.set_cons_zero, List.set_cons_succ]
                      refine wpAnyH_take (i := 20) (v := ?va20) rfl (by kernel_rfl) (by kernel_rfl) (by kernel_rfl) (fun _ _ _ h => h) (Or.inl ⟨by rfl, ?ha20⟩) (by assumption) ?ra20
                      case ha20 => first | (intro w hSw; (try dsimp only at hSw); go_simp; done) | (intro w hSw; (try dsimp only at hSw); go_simp; with_reducible rfl)
                      try simp only [Act.put, List.getElem_toArray, List.getElem_cons_zero, List.getElem_cons_succ, List.setIfInBounds_toArray, List.set_cons_zero, List.set_cons_succ]
                      refine wpAnyH_take (i := 21) (v := ?va21) rfl (by kernel_rfl) (by kernel_rfl) (by kernel_rfl) (fun _ _ _ h => h) (Or.inl ⟨by rfl, ?ha21⟩) (by assumption) ?ra21
                      case ha21 => first | (intro w hSw; (try dsimp only at hSw); go_simp; done) | (intro w hSw; (try dsimp only at hSw); go_simp; with_reducible rfl)
                      try simp only [Act.put, List.getElem_toArray, List.getElem_cons_zero, List.getElem_cons_succ, List.setIfInBounds_toArray, List.set_cons_zero, List.set_cons_succ]
                      refine wpAnyH_take (i := 22) (v := ?va22) rfl (by kernel_rfl) (by kernel_rfl) (by kernel_rfl) (fun _ _ _ h => h) (Or.inl ⟨by rfl, ?ha22⟩) (by assumption) ?ra22
                      case ha22 => first | (intro w hSw; (try dsimp only at hSw); go_simp; done) | (intro w hSw; (try dsimp only at hSw); go_simp; with_reducible rfl)
                      try simp only [Act.put, List.getElem_toArray, List.getElem_cons_zero, List.getElem_cons_succ, List.setIfInBounds_toArray, List.set_cons_zero, List.set_cons_succ]
                      refine wpAnyH_take (i := 25) (v := ?va25) rfl (by kernel_rfl) (by kernel_rfl) (by kernel_rfl) (fun _ _ _ h => h) (Or.inl ⟨by rfl, ?ha25⟩) (by assumption) ?ra25
                      case ha25 => first | (intro w hSw; (try dsimp only at hSw); go_simp; done) | (intro w hSw; (try dsimp only at hSw); go_simp; with_reducible rfl)
                      try simp only [Act.put, List.getElem_toArray, List.getElem_cons_zero, List.getElem_cons_succ, List.setIfInBounds_toArray, List.set_cons_zero, List.set_cons_succ]
                      refine wpAnyH_ready (rs := [23]) (by kernel_rfl) (by simp) ?_
                      refine AllReadyH.cons rfl (fun K hK => ?_) AllReadyH.nil
                      go_simp
                      (first
                        | (go_at_call_of 16 (Value.pointer none); refine (grown_none _).mono ?_; rintro e w10 ⟨rfl, hb10⟩; have hbk := hb8d.trans (hb10.mono hb8d.size))
                        | (go_at_call_of 16 (Value.pointer (some (⟨b, 0, none⟩ : Addr))); refine (cG _ hbk).mono ?_; rintro e w11 ⟨rfl, hb11⟩; have hbk := hbk.trans (hb11.mono hbk.size))
                        | (go_at_call 15; refine (cB _ hbk).mono ?_; rintro e w12 ⟨v12, rfl, hown12, hb12⟩; obtain ⟨A12, n12, c12, rfl⟩ := hown12.form; have k12 := hown12.bs.convert; have hbk := hbk.trans (hb12.mono hbk.size)))
                      go_wp2_with fail
                      refine hK.out _ _ ?_ (fun hHeld => ?_)
                      · exact HCELLS.out _ hbk
                      clear hK K
                      try simp only [Act.put, List.getElem_toArray, List.getElem_cons_zero, List.getElem_cons_succ, List.setIfInBounds_toArray, List.set_cons_zero, List.set_cons_succ]
                      refine wpAnyH_ready (rs := [24]) (by kernel_rfl) (by simp) ?_
                      refine AllReadyH.cons rfl (fun K hK => ?_) AllReadyH.nil
                      go_simp
                      refine hK.out _ _ ?_ (fun hHeld => ?_)
                      · exact HCELLS.out _ hbk
                      clear hK K
                      try simp only [Act.put, List.getElem_toArray, List.getElem_cons_zero, List.getElem_cons_succ, List.setIfInBounds_toArray, List.set_cons_zero, List.set_cons_succ]
                      refine wpAnyH_take (i := 26) (v := ?va26) rfl (by kernel_rfl) (by kernel_rfl) (by kernel_rfl) (fun _ _ _ h => h) (Or.inl ⟨by rfl, ?ha26⟩) (by assumption) ?ra26
                      case ha26 => first | (intro w hSw; (try dsimp only at hSw); go_simp; done) | (intro w hSw; (try dsimp only at hSw); go_simp; with_reducible rfl)
                      try simp only [Act.put, List.getElem_toArray, List.getElem_cons_zero, List.getElem_cons_succ, List.setIfInBounds_toArray, List.set_cons_zero, List.set_cons_succ]
                      refine wpAnyH_take (i := 27) (v := ?va27) rfl (by kernel_rfl) (by kernel_rfl) (by kernel_rfl) (fun _ _ _ h => h) (Or.inl ⟨by rfl, ?ha27⟩) (by assumption) ?ra27
                      case ha27 => first | (intro w hSw; (try dsimp only at hSw); go_simp; done) | (intro w hSw; (try dsimp only at hSw); go_simp; with_reducible rfl)
                      try simp only [Act.put, List.getElem_toArray, List.getElem_cons_zero, List.getElem_cons_succ, List.setIfInBounds_toArray, List.set_cons_zero, List.set_cons_succ]
                      refine wpAnyH_take (i := 28) (v := ?va28) rfl (by kernel_rfl) (by kernel_rfl) (by kernel_rfl) (fun _ _ _ h => h) (Or.inl ⟨by rfl, ?ha28⟩) (by assumption) ?ra28
                      case ha28 => first | (intro w hSw; (try dsimp only at hSw); go_simp; done) | (intro w hSw; (try dsimp only at hSw); go_simp; with_reducible rfl)
                      try simp only [Act.put, List.getElem_toArray, List.getElem_cons_zero, List.getElem_cons_succ, List.setIfInBounds_toArray, List.set_cons_zero, List.set_cons_succ]
                      refine wpAnyH_done (by kernel_rfl) ?_ _
                      refine NoPanic.normal ?_
                      go_wp2
                      go_meet
                      case rel => exact ⟨rfl, hbk⟩
                    · have hdb : (d' == dd) = false := by simpa using hd
                      clear hd
                      refine wp_region_noPanic ?_
                      refine wp_region_held_drew (S := fun W => W.cell? ⟨g, 0, none⟩ = some (.int .i64 a1) ∧ W.cell? ⟨g, 1, none⟩ = some (.int .i64 a2) ∧ W.cell? ⟨g, 2, none⟩ = some (.int .i64 a3)) (by kernel_rfl) ?_ (fun hHeld => ?_)
                      · exact HCELLS.out _ hb8d
                      refine wpAnyH_take (i := 0) (v := ?vb0) rfl (by kernel_rfl) (by kernel_rfl) (by kernel_rfl) (fun _ _ _ h => h) (Or.inl ⟨by rfl, ?hb0⟩) (by assumption) ?rb0
                      case hb0 => first | (intro w hSw; (try dsimp only at hSw); go_simp; done) | (intro w hSw; (try dsimp only at hSw); go_simp; with_reducible rfl)
                      try simp only [Act.put, List.getElem_toArray, List.getElem_cons_zero, List.getElem_cons_succ, List.setIfInBounds_toArray, List.set_cons_zero, List.set_cons_succ]
                      refine wpAnyH_take (i := 2) (v := ?vb2) rfl (by kernel_rfl) (by kernel_rfl) (by kernel_rfl) (fun _ _ _ h => h) (Or.inl ⟨by rfl, ?hb2⟩) (by assumption) ?rb2
                      case hb2 => first | (intro w hSw; (try dsimp only at hSw); go_simp; done) | (intro w hSw; (try dsimp only at hSw); go_simp; with_reducible rfl)
                      try simp only [Act.put, List.getElem_toArray, List.getElem_cons_zero, List.getElem_cons_succ, List.setIfInBounds_toArray, List.set_cons_zero, List.set_cons_succ]
                      refine wpAnyH_ready (rs := [1]) (by kernel_rfl) (by simp) ?_
                      refine AllReadyH.cons rfl (fun K hK => ?_) AllReadyH.nil
                      go_simp
                      (first
                        | (go_at_call_of 16 (Value.pointer none); refine (grown_none _).mono ?_; rintro e w10 ⟨rfl, hb10⟩; have hbk := hb8d.trans (hb10.mono hb8d.size))
                        | (go_at_call_of 16 (Value.pointer (some (⟨b, 0, none⟩ : Addr))); refine (cG _ hbk).mono ?_; rintro e w11 ⟨rfl, hb11⟩; have hbk := hbk.trans (hb11.mono hbk.size)))
                      go_wp2_with fail
                      refine hK.out _ _ ?_ (fun hHeld => ?_)
                      · exact HCELLS.out _ hbk
                      clear hK K
                      try simp only [Act.put, List.getElem_toArray, List.getElem_cons_zero, List.getElem_cons_succ, List.setIfInBounds_toArray, List.set_cons_zero, List.set_cons_succ]
                      refine wpAnyH_take (i := 3) (v := ?vb3) rfl (by kernel_rfl) (by kernel_rfl) (by kernel_rfl) (fun _ _ _ h => h) (Or.inl ⟨by rfl, ?hb3⟩) (by assumption) ?rb3
                      case hb3 => first | (intro w hSw; (try dsimp only at hSw); go_simp; done) | (intro w hSw; (try dsimp only at hSw); go_simp; with_reducible rfl)
                      try simp only [Act.put, List.getElem_toArray, List.getElem_cons_zero, List.getElem_cons_succ, List.setIfInBounds_toArray, List.set_cons_zero, List.set_cons_succ]
                      refine wpAnyH_take (i := 4) (v := ?vb4) rfl (by kernel_rfl) (by kernel_rfl) (by kernel_rfl) (fun _ _ _ h => h) (Or.inl ⟨by rfl, ?hb4⟩) (by assumption) ?rb4
                      case hb4 => first | (intro w hSw; (try dsimp only at hSw); go_simp; done) | (intro w hSw; (try dsimp only at hSw); go_simp; with_reducible rfl)
                      try simp only [Act.put, List.getElem_toArray, List.getElem_cons_zero, List.getElem_cons_succ, List.setIfInBounds_toArray, List.set_cons_zero, List.set_cons_succ]
                      refine wpAnyH_take (i := 5) (v := ?vb5) rfl (by kernel_rfl) (by kernel_rfl) (by kernel_rfl) (fun _ _ _ h => h) (Or.inl ⟨by rfl, ?hb5⟩) (by assumption) ?rb5
                      case hb5 => first | (intro w hSw; (try dsimp only at hSw); go_simp; done) | (intro w hSw; (try dsimp only at hSw); go_simp; with_reducible rfl)
                      try simp only [Act.put, List.getElem_toArray, List.getElem_cons_zero, List.getElem_cons_succ, List.setIfInBounds_toArray, List.set_cons_zero, List.set_cons_succ]
                      refine wpAnyH_take (i := 8) (v := ?vb8) rfl (by kernel_rfl) (by kernel_rfl) (by kernel_rfl) (fun _ _ _ h => h) (Or.inl ⟨by rfl, ?hb8⟩) (by assumption) ?rb8
                      case hb8 => first | (intro w hSw; (try dsimp only at hSw); go_simp; done) | (intro w hSw; (try dsimp only at hSw); go_simp; with_reducible rfl)
                      try simp only [Act.put, List.getElem_toArray, List.getElem_cons_zero, List.getElem_cons_succ, List.setIfInBounds_toArray, List.set_cons_zero, List.set_cons_succ]
                      refine wpAnyH_ready (rs := [6]) (by kernel_rfl) (by simp) ?_
                      refine AllReadyH.cons rfl (fun K hK => ?_) AllReadyH.nil
                      go_simp
                      (first
                        | (go_at_call_of 16 (Value.pointer none); refine (grown_none _).mono ?_; rintro e w10 ⟨rfl, hb10⟩; have hbk := hb8d.trans (hb10.mono hb8d.size))
                        | (go_at_call_of 16 (Value.pointer (some (⟨b, 0, none⟩ : Addr))); refine (cG _ hbk).mono ?_; rintro e w11 ⟨rfl, hb11⟩; have hbk := hbk.trans (hb11.mono hbk.size)))
                      go_wp2_with fail
                      refine hK.out _ _ ?_ (fun hHeld => ?_)
                      · exact HCELLS.out _ hbk
                      clear hK K
                      try simp only [Act.put, List.getElem_toArray, List.getElem_cons_zero, List.getElem_cons_succ, List.setIfInBounds_toArray, List.set_cons_zero, List.set_cons_succ]
                      refine wpAnyH_ready (rs := [7]) (by kernel_rfl) (by simp) ?_
                      refine AllReadyH.cons rfl (fun K hK => ?_) AllReadyH.nil
                      go_simp
                      refine hK.out _ _ ?_ (fun hHeld => ?_)
                      · exact HCELLS.out _ hbk
                      clear hK K
                      try simp only [Act.put, List.getElem_toArray, List.getElem_cons_zero, List.getElem_cons_succ, List.setIfInBounds_toArray, List.set_cons_zero, List.set_cons_succ]
                      refine wpAnyH_take (i := 9) (v := ?vb9) rfl (by kernel_rfl) (by kernel_rfl) (by kernel_rfl) (fun _ _ _ h => h) (Or.inl ⟨by rfl, ?hb9⟩) (by assumption) ?rb9
                      case hb9 => first | (intro w hSw; (try dsimp only at hSw); go_simp; done) | (intro w hSw; (try dsimp only at hSw); go_simp; with_reducible rfl)
                      try simp only [Act.put, List.getElem_toArray, List.getElem_cons_zero, List.getElem_cons_succ, List.setIfInBounds_toArray, List.set_cons_zero, List.set_cons_succ]
                      refine wpAnyH_take (i := 10) (v := ?vb10) rfl (by kernel_rfl) (by kernel_rfl) (by kernel_rfl) (fun _ _ _ h => h) (Or.inl ⟨by rfl, ?hb10⟩) (by assumption) ?rb10
                      case hb10 => first | (intro w hSw; (try dsimp only at hSw); go_simp; done) | (intro w hSw; (try dsimp only at hSw); go_simp; with_reducible rfl)
                      try simp only [Act.put, List.getElem_toArray, List.getElem_cons_zero, List.getElem_cons_succ, List.setIfInBounds_toArray, List.set_cons_zero, List.set_cons_succ]
                      refine wpAnyH_take (i := 11) (v := ?vb11) rfl (by kernel_rfl) (by kernel_rfl) (by kernel_rfl) (fun _ _ _ h => h) (Or.inl ⟨by rfl, ?hb11⟩) (by assumption) ?rb11
                      case hb11 => first | (intro w hSw; (try dsimp only at hSw); go_simp; done) | (intro w hSw; (try dsimp only at hSw); go_simp; with_reducible rfl)
                      try simp only [Act.put, List.getElem_toArray, List.getElem_cons_zero, List.getElem_cons_succ, List.setIfInBounds_toArray, List.set_cons_zero, List.set_cons_succ]
                      refine wpAnyH_take (i := 12) (v := ?vb12) rfl (by kernel_rfl) (by kernel_rfl) (by kernel_rfl) (fun _ _ _ h => h) (Or.inl ⟨by rfl, ?hb12⟩) (by assumption) ?rb12
                      case hb12 => first | (intro w hSw; (try dsimp only at hSw); go_simp; done) | (intro w hSw; (try dsimp only at hSw); go_simp; with_reducible rfl)
                      try simp only [Act.put, List.getElem_toArray, List.getElem_cons_zero, List.getElem_cons_succ, List.setIfInBounds_toArray, List.set_cons_zero, List.set_cons_succ]
                      refine wpAnyH_take (i := 14) (v := ?vb14) rfl (by kernel_rfl) (by kernel_rfl) (by kernel_rfl) (fun _ _ _ h => h) (Or.inl ⟨by rfl, ?hb14⟩) (by assumption) ?rb14
                      case hb14 => first | (intro w hSw; (try dsimp only at hSw); go_simp; done) | (intro w hSw; (try dsimp only at hSw); go_simp; with_reducible rfl)
                      try simp only [Act.put, List.getElem_toArray, List.getElem_cons_zero, List.getElem_cons_succ, List.setIfInBounds_toArray, List.set_cons_zero, List.set_cons_succ]
                      refine wpAnyH_ready (rs := [13]) (by kernel_rfl) (by simp) ?_
                      refine AllReadyH.cons rfl (fun K hK => ?_) AllReadyH.nil
                      go_simp
                      (first
                        | (go_at_call_of 16 (Value.pointer none); refine (grown_none _).mono ?_; rintro e w10 ⟨rfl, hb10⟩; have hbk := hb8d.trans (hb10.mono hb8d.size))
                        | (go_at_call_of 16 (Value.pointer (some (⟨b, 0, none⟩ : Addr))); refine (cG _ hbk).mono ?_; rintro e w11 ⟨rfl, hb11⟩; have hbk := hbk.trans (hb11.mono hbk.size)))
                      go_wp2_with fail
                      refine hK.out _ _ ?_ (fun hHeld => ?_)
                      · exact HCELLS.out _ hbk
                      clear hK K
                      try simp only [Act.put, List.getElem_toArray, List.getElem_cons_zero, List.getElem_cons_succ, List.setIfInBounds_toArray, List.set_cons_zero, List.set_cons_succ]
                      refine wpAnyH_take (i := 15) (v := ?vb15) rfl (by kernel_rfl) (by kernel_rfl) (by kernel_rfl) (fun _ _ _ h => h) (Or.inl ⟨by rfl, ?hb15⟩) (by assumption) ?rb15
                      case hb15 => first | (intro w hSw; (try dsimp only at hSw); go_simp; done) | (intro w hSw; (try dsimp only at hSw); go_simp; with_reducible rfl)
                      try simp only [Act.put, List.getElem_toArray, List.getElem_cons_zero, List.getElem_cons_succ, List.setIfInBounds_toArray, List.set_cons_zero, List.set_cons_succ]
                      refine wpAnyH_take (i := 16) (v := ?vb16) rfl (by kernel_rfl) (by kernel_rfl) (by kernel_rfl) (fun _ _ _ h => h) (Or.inl ⟨by rfl, ?hb16⟩) (by assumption) ?rb16
                      case hb16 => first | (intro w hSw; (try dsimp only at hSw); go_simp; done) | (intro w hSw; (try dsimp only at hSw); go_simp; with_reducible rfl)
                      try simp only [Act.put, List.getElem_toArray, List.getElem_cons_zero, List.getElem_cons_succ, List.setIfInBounds_toArray, List.set_cons_zero, List.set_cons_succ]
                      refine wpAnyH_take (i := 17) (v := ?vb17) rfl (by kernel_rfl) (by kernel_rfl) (by kernel_rfl) (fun _ _ _ h => h) (Or.inl ⟨by rfl, ?hb17⟩) (by assumption) ?rb17
                      case hb17 => first | (intro w hSw; (try dsimp only at hSw); go_simp; done) | (intro w hSw; (try dsimp only at hSw); go_simp; with_reducible rfl)
                      try simp only [Act.put, List.getElem_toArray, List.getElem_cons_zero, List.getElem_cons_succ, List.setIfInBounds_toArray, List.set_cons_zero, List.set_cons_succ]
                      refine wpAnyH_take (i := 18) (v := ?vb18) rfl (by kernel_rfl) (by kernel_rfl) (by kernel_rfl) (fun _ _ _ h => h) (Or.inl ⟨by rfl, ?hb18⟩) (by assumption) ?rb18
                      case hb18 => first | (intro w hSw; (try dsimp only at hSw); go_simp; done) | (intro w hSw; (try dsimp only at hSw); go_simp; with_reducible rfl)
                      try simp only [Act.put, List.getElem_toArray, List.getElem_cons_zero, List.getElem_cons_succ, List.setIfInBounds_toArray, List.set_cons_zero, List.set_cons_succ]
                      refine wpAnyH_take (i := 19) (v := ?vb19) rfl (by kernel_rfl) (by kernel_rfl) (by kernel_rfl) (fun _ _ _ h => h) (Or.inl ⟨by rfl, ?hb19⟩) (by assumption) ?rb19
                      case hb19 => first | (intro w hSw; (try dsimp only at hSw); go_simp; done) | (intro w hSw; (try dsimp only at hSw); go_simp; with_reducible rfl)
                      try simp only [Act.put, List.getElem_toArray, List.getElem_cons_zero, List.getElem_cons_succ, List.setIfInBounds_toArray, List.set_cons_zero, List.set_cons_succ]
                      refine wpAnyH_take (i := 20) (v := ?vb20) rfl (by kernel_rfl) (by kernel_rfl) (by kernel_rfl) (fun _ _ _ h => h) (Or.inl ⟨by rfl, ?hb20⟩) (by assumption) ?rb20
                      case hb20 => first | (intro w hSw; (try dsimp only at hSw); go_simp; done) | (intro w hSw; (try dsimp only at hSw); go_simp; with_reducible rfl)
                      try simp only [Act.put, List.getElem_toArray, List.getElem_cons_zero, List.getElem_cons_succ, List.setIfInBounds_toArray, List.set_cons_zero, List.set_cons_succ]
                      refine wpAnyH_take (i := 21) (v := ?vb21) rfl (by kernel_rfl) (by kernel_rfl) (by kernel_rfl) (fun _ _ _ h => h) (Or.inl ⟨by rfl, ?hb21⟩) (by assumption) ?rb21
                      case hb21 => first | (intro w hSw; (try dsimp only at hSw); go_simp; done) | (intro w hSw; (try dsimp only at hSw); go_simp; with_reducible rfl)
                      try simp only [Act.put, List.getElem_toArray, List.getElem_cons_zero, List.getElem_cons_succ, List.setIfInBounds_toArray, List.set_cons_zero, List.set_cons_succ]
                      refine wpAnyH_take (i := 22) (v := undef) rfl (by kernel_rfl) (by kernel_rfl) (by kernel_rfl) (fun _ _ _ h => h) (Or.inr ⟨by rfl, rfl⟩) (by assumption) ?_
                      try simp only [Act.put, List.getElem_toArray, List.getElem_cons_zero, List.getElem_cons_succ, List.setIfInBounds_toArray, List.set_cons_zero, List.set_cons_succ]
                      refine wpAnyH_take (i := 23) (v := undef) rfl (by kernel_rfl) (by kernel_rfl) (by kernel_rfl) (fun _ _ _ h => h) (Or.inr ⟨by rfl, rfl⟩) (by assumption) ?_
                      try simp only [Act.put, List.getElem_toArray, List.getElem_cons_zero, List.getElem_cons_succ, List.setIfInBounds_toArray, List.set_cons_zero, List.set_cons_succ]
                      refine wpAnyH_take (i := 24) (v := undef) rfl (by kernel_rfl) (by kernel_rfl) (by kernel_rfl) (fun _ _ _ h => h) (Or.inr ⟨by rfl, rfl⟩) (by assumption) ?_
                      try simp only [Act.put, List.getElem_toArray, List.getElem_cons_zero, List.getElem_cons_succ, List.setIfInBounds_toArray, List.set_cons_zero, List.set_cons_succ]
                      refine wpAnyH_take (i := 25) (v := undef) rfl (by kernel_rfl) (by kernel_rfl) (by kernel_rfl) (fun _ _ _ h => h) (Or.inr ⟨by rfl, rfl⟩) (by assumption) ?_
                      try simp only [Act.put, List.getElem_toArray, List.getElem_cons_zero, List.getElem_cons_succ, List.setIfInBounds_toArray, List.set_cons_zero, List.set_cons_succ]
                      refine wpAnyH_take (i := 26) (v := undef) rfl (by kernel_rfl) (by kernel_rfl) (by kernel_rfl) (fun _ _ _ h => h) (Or.inr ⟨by rfl, rfl⟩) (by assumption) ?_
                      try simp only [Act.put, List.getElem_toArray, List.getElem_cons_zero, List.getElem_cons_succ, List.setIfInBounds_toArray, List.set_cons_zero, List.set_cons_succ]
                      refine wpAnyH_take (i := 27) (v := ?vb27) rfl (by kernel_rfl) (by kernel_rfl) (by kernel_rfl) (fun _ _ _ h => h) (Or.inl ⟨by rfl, ?hb27⟩) (by assumption) ?rb27
                      case hb27 => first | (intro w hSw; (try dsimp only at hSw); go_simp; done) | (intro w hSw; (try dsimp only at hSw); go_simp; with_reducible rfl)
                      try simp only [Act.put, List.getElem_toArray, List.getElem_cons_zero, List.getElem_cons_succ, List.setIfInBounds_toArray, List.set_cons_zero, List.set_cons_succ]
                      refine wpAnyH_take (i := 28) (v := ?vb28) rfl (by kernel_rfl) (by kernel_rfl) (by kernel_rfl) (fun _ _ _ h => h) (Or.inl ⟨by rfl, ?hb28⟩) (by assumption) ?rb28
                      case hb28 => first | (intro w hSw; (try dsimp only at hSw); go_simp; done) | (intro w hSw; (try dsimp only at hSw); go_simp; with_reducible rfl)
                      try simp only [Act.put, List.getElem_toArray, List.getElem_cons_zero, List.getElem_cons_succ, List.setIfInBounds_toArray, List.set_cons_zero, List.set_cons_succ]
                      refine wpAnyH_done (by kernel_rfl) ?_ _
                      refine NoPanic.normal ?_
                      go_wp2
                      go_meet
                      case rel => exact ⟨rfl, hbk⟩
                  · have h3 : (a1 == q1 && a2 == q2 && a3 == q3) = false := by
                      cases e : (a1 == q1 && a2 == q2 && a3 == q3) with
                      | false => rfl
                      | true => exact absurd (by simpa [and_assoc] using e) h
                    clear h
                    refine wp_region_noPanic ?_
                    refine wp_region_held_drew (S := fun W => W.cell? ⟨g, 0, none⟩ = some (.int .i64 q1) ∧ W.cell? ⟨g, 1, none⟩ = some (.int .i64 q2) ∧ W.cell? ⟨g, 2, none⟩ = some (.int .i64 q3)) (by kernel_rfl) ?_ (fun hHeld => ?_)
                    · exact HCELLS.out _ hb8d
                    refine wpAnyH_take (i := 0) (v := ?vc0) rfl (by kernel_rfl) (by kernel_rfl) (by kernel_rfl) (fun _ _ _ h => h) (Or.inl ⟨by rfl, ?hc0⟩) (by assumption) ?rc0
                    case hc0 => first | (intro w hSw; (try dsimp only at hSw); go_simp; done) | (intro w hSw; (try dsimp only at hSw); go_simp; with_reducible rfl)
                    try simp only [Act.put, List.getElem_toArray, List.getElem_cons_zero, List.getElem_cons_succ, List.setIfInBounds_toArray, List.set_cons_zero, List.set_cons_succ]
                    refine wpAnyH_take (i := 2) (v := ?vc2) rfl (by kernel_rfl) (by kernel_rfl) (by kernel_rfl) (fun _ _ _ h => h) (Or.inl ⟨by rfl, ?hc2⟩) (by assumption) ?rc2
                    case hc2 => first | (intro w hSw; (try dsimp only at hSw); go_simp; done) | (intro w hSw; (try dsimp only at hSw); go_simp; with_reducible rfl)
                    try simp only [Act.put, List.getElem_toArray, List.getElem_cons_zero, List.getElem_cons_succ, List.setIfInBounds_toArray, List.set_cons_zero, List.set_cons_succ]
                    refine wpAnyH_ready (rs := [1]) (by kernel_rfl) (by simp) ?_
                    refine AllReadyH.cons rfl (fun K hK => ?_) AllReadyH.nil
                    go_simp
                    (first
                      | (go_at_call_of 16 (Value.pointer none); refine (grown_none _).mono ?_; rintro e w10 ⟨rfl, hb10⟩; have hbk := hb8d.trans (hb10.mono hb8d.size))
                      | (go_at_call_of 16 (Value.pointer (some (⟨b, 0, none⟩ : Addr))); refine (cG _ hbk).mono ?_; rintro e w11 ⟨rfl, hb11⟩; have hbk := hbk.trans (hb11.mono hbk.size)))
                    go_wp2_with fail
                    refine hK.out _ _ ?_ (fun hHeld => ?_)
                    · exact HCELLS.out _ hbk
                    clear hK K
                    try simp only [Act.put, List.getElem_toArray, List.getElem_cons_zero, List.getElem_cons_succ, List.setIfInBounds_toArray, List.set_cons_zero, List.set_cons_succ]
                    refine wpAnyH_take (i := 3) (v := ?vc3) rfl (by kernel_rfl) (by kernel_rfl) (by kernel_rfl) (fun _ _ _ h => h) (Or.inl ⟨by rfl, ?hc3⟩) (by assumption) ?rc3
                    case hc3 => first | (intro w hSw; (try dsimp only at hSw); go_simp; done) | (intro w hSw; (try dsimp only at hSw); go_simp; with_reducible rfl)
                    try simp only [Act.put, List.getElem_toArray, List.getElem_cons_zero, List.getElem_cons_succ, List.setIfInBounds_toArray, List.set_cons_zero, List.set_cons_succ]
                    refine wpAnyH_take (i := 4) (v := ?vc4) rfl (by kernel_rfl) (by kernel_rfl) (by kernel_rfl) (fun _ _ _ h => h) (Or.inl ⟨by rfl, ?hc4⟩) (by assumption) ?rc4
                    case hc4 => first | (intro w hSw; (try dsimp only at hSw); go_simp; done) | (intro w hSw; (try dsimp only at hSw); go_simp; with_reducible rfl)
                    try simp only [Act.put, List.getElem_toArray, List.getElem_cons_zero, List.getElem_cons_succ, List.setIfInBounds_toArray, List.set_cons_zero, List.set_cons_succ]
                    refine wpAnyH_take (i := 5) (v := ?vc5) rfl (by kernel_rfl) (by kernel_rfl) (by kernel_rfl) (fun _ _ _ h => h) (Or.inl ⟨by rfl, ?hc5⟩) (by assumption) ?rc5
                    case hc5 => first | (intro w hSw; (try dsimp only at hSw); go_simp; done) | (intro w hSw; (try dsimp only at hSw); go_simp; with_reducible rfl)
                    try simp only [Act.put, List.getElem_toArray, List.getElem_cons_zero, List.getElem_cons_succ, List.setIfInBounds_toArray, List.set_cons_zero, List.set_cons_succ]
                    refine wpAnyH_take (i := 8) (v := ?vc8) rfl (by kernel_rfl) (by kernel_rfl) (by kernel_rfl) (fun _ _ _ h => h) (Or.inl ⟨by rfl, ?hc8⟩) (by assumption) ?rc8
                    case hc8 => first | (intro w hSw; (try dsimp only at hSw); go_simp; done) | (intro w hSw; (try dsimp only at hSw); go_simp; with_reducible rfl)
                    try simp only [Act.put, List.getElem_toArray, List.getElem_cons_zero, List.getElem_cons_succ, List.setIfInBounds_toArray, List.set_cons_zero, List.set_cons_succ]
                    refine wpAnyH_ready (rs := [6]) (by kernel_rfl) (by simp) ?_
                    refine AllReadyH.cons rfl (fun K hK => ?_) AllReadyH.nil
                    go_simp
                    (first
                      | (go_at_call_of 16 (Value.pointer none); refine (grown_none _).mono ?_; rintro e w10 ⟨rfl, hb10⟩; have hbk := hb8d.trans (hb10.mono hb8d.size))
                      | (go_at_call_of 16 (Value.pointer (some (⟨b, 0, none⟩ : Addr))); refine (cG _ hbk).mono ?_; rintro e w11 ⟨rfl, hb11⟩; have hbk := hbk.trans (hb11.mono hbk.size)))
                    go_wp2_with fail
                    refine hK.out _ _ ?_ (fun hHeld => ?_)
                    · exact HCELLS.out _ hbk
                    clear hK K
                    try simp only [Act.put, List.getElem_toArray, List.getElem_cons_zero, List.getElem_cons_succ, List.setIfInBounds_toArray, List.set_cons_zero, List.set_cons_succ]
                    refine wpAnyH_ready (rs := [7]) (by kernel_rfl) (by simp) ?_
                    refine AllReadyH.cons rfl (fun K hK => ?_) AllReadyH.nil
                    go_simp
                    refine hK.out _ _ ?_ (fun hHeld => ?_)
                    · exact HCELLS.out _ hbk
                    clear hK K
                    try simp only [Act.put, List.getElem_toArray, List.getElem_cons_zero, List.getElem_cons_succ, List.setIfInBounds_toArray, List.set_cons_zero, List.set_cons_succ]
                    refine wpAnyH_take (i := 9) (v := ?vc9) rfl (by kernel_rfl) (by kernel_rfl) (by kernel_rfl) (fun _ _ _ h => h) (Or.inl ⟨by rfl, ?hc9⟩) (by assumption) ?rc9
                    case hc9 => first | (intro w hSw; (try dsimp only at hSw); go_simp; done) | (intro w hSw; (try dsimp only at hSw); go_simp; with_reducible rfl)
                    try simp only [Act.put, List.getElem_toArray, List.getElem_cons_zero, List.getElem_cons_succ, List.setIfInBounds_toArray, List.set_cons_zero, List.set_cons_succ]
                    refine wpAnyH_take (i := 10) (v := ?vc10) rfl (by kernel_rfl) (by kernel_rfl) (by kernel_rfl) (fun _ _ _ h => h) (Or.inl ⟨by rfl, ?hc10⟩) (by assumption) ?rc10
                    case hc10 => first | (intro w hSw; (try dsimp only at hSw); go_simp; done) | (intro w hSw; (try dsimp only at hSw); go_simp; with_reducible rfl)
                    try simp only [Act.put, List.getElem_toArray, List.getElem_cons_zero, List.getElem_cons_succ, List.setIfInBounds_toArray, List.set_cons_zero, List.set_cons_succ]
                    refine wpAnyH_take (i := 11) (v := ?vc11) rfl (by kernel_rfl) (by kernel_rfl) (by kernel_rfl) (fun _ _ _ h => h) (Or.inl ⟨by rfl, ?hc11⟩) (by assumption) ?rc11
                    case hc11 => first | (intro w hSw; (try dsimp only at hSw); go_simp; done) | (intro w hSw; (try dsimp only at hSw); go_simp; with_reducible rfl)
                    try simp only [Act.put, List.getElem_toArray, List.getElem_cons_zero, List.getElem_cons_succ, List.setIfInBounds_toArray, List.set_cons_zero, List.set_cons_succ]
                    refine wpAnyH_take (i := 12) (v := ?vc12) rfl (by kernel_rfl) (by kernel_rfl) (by kernel_rfl) (fun _ _ _ h => h) (Or.inl ⟨by rfl, ?hc12⟩) (by assumption) ?rc12
                    case hc12 => first | (intro w hSw; (try dsimp only at hSw); go_simp; done) | (intro w hSw; (try dsimp only at hSw); go_simp; with_reducible rfl)
                    try simp only [Act.put, List.getElem_toArray, List.getElem_cons_zero, List.getElem_cons_succ, List.setIfInBounds_toArray, List.set_cons_zero, List.set_cons_succ]
                    refine wpAnyH_take (i := 14) (v := ?vc14) rfl (by kernel_rfl) (by kernel_rfl) (by kernel_rfl) (fun _ _ _ h => h) (Or.inl ⟨by rfl, ?hc14⟩) (by assumption) ?rc14
                    case hc14 => first | (intro w hSw; (try dsimp only at hSw); go_simp; done) | (intro w hSw; (try dsimp only at hSw); go_simp; with_reducible rfl)
                    try simp only [Act.put, List.getElem_toArray, List.getElem_cons_zero, List.getElem_cons_succ, List.setIfInBounds_toArray, List.set_cons_zero, List.set_cons_succ]
                    refine wpAnyH_ready (rs := [13]) (by kernel_rfl) (by simp) ?_
                    refine AllReadyH.cons rfl (fun K hK => ?_) AllReadyH.nil
                    go_simp
                    (first
                      | (go_at_call_of 16 (Value.pointer none); refine (grown_none _).mono ?_; rintro e w10 ⟨rfl, hb10⟩; have hbk := hb8d.trans (hb10.mono hb8d.size))
                      | (go_at_call_of 16 (Value.pointer (some (⟨b, 0, none⟩ : Addr))); refine (cG _ hbk).mono ?_; rintro e w11 ⟨rfl, hb11⟩; have hbk := hbk.trans (hb11.mono hbk.size)))
                    go_wp2_with fail
                    refine hK.out _ _ ?_ (fun hHeld => ?_)
                    · exact HCELLS.out _ hbk
                    clear hK K
                    try simp only [Act.put, List.getElem_toArray, List.getElem_cons_zero, List.getElem_cons_succ, List.setIfInBounds_toArray, List.set_cons_zero, List.set_cons_succ]
                    refine wpAnyH_take (i := 15) (v := ?vc15) rfl (by kernel_rfl) (by kernel_rfl) (by kernel_rfl) (fun _ _ _ h => h) (Or.inl ⟨by rfl, ?hc15⟩) (by assumption) ?rc15
                    case hc15 => first | (intro w hSw; (try dsimp only at hSw); go_simp; done) | (intro w hSw; (try dsimp only at hSw); go_simp; with_reducible rfl)
                    try simp only [Act.put, List.getElem_toArray, List.getElem_cons_zero, List.getElem_cons_succ, List.setIfInBounds_toArray, List.set_cons_zero, List.set_cons_succ]
                    refine wpAnyH_take (i := 16) (v := ?vc16) rfl (by kernel_rfl) (by kernel_rfl) (by kernel_rfl) (fun _ _ _ h => h) (Or.inl ⟨by rfl, ?hc16⟩) (by assumption) ?rc16
                    case hc16 => first | (intro w hSw; (try dsimp only at hSw); go_simp; done) | (intro w hSw; (try dsimp only at hSw); go_simp; with_reducible rfl)
                    try simp only [Act.put, List.getElem_toArray, List.getElem_cons_zero, List.getElem_cons_succ, List.setIfInBounds_toArray, List.set_cons_zero, List.set_cons_succ]
                    refine wpAnyH_take (i := 17) (v := undef) rfl (by kernel_rfl) (by kernel_rfl) (by kernel_rfl) (fun _ _ _ h => h) (Or.inr ⟨by rfl, rfl⟩) (by assumption) ?_
                    try simp only [Act.put, List.getElem_toArray, List.getElem_cons_zero, List.getElem_cons_succ, List.setIfInBounds_toArray, List.set_cons_zero, List.set_cons_succ]
                    refine wpAnyH_take (i := 18) (v := undef) rfl (by kernel_rfl) (by kernel_rfl) (by kernel_rfl) (fun _ _ _ h => h) (Or.inr ⟨by rfl, rfl⟩) (by assumption) ?_
                    try simp only [Act.put, List.getElem_toArray, List.getElem_cons_zero, List.getElem_cons_succ, List.setIfInBounds_toArray, List.set_cons_zero, List.set_cons_succ]
                    refine wpAnyH_take (i := 19) (v := undef) rfl (by kernel_rfl) (by kernel_rfl) (by kernel_rfl) (fun _ _ _ h => h) (Or.inr ⟨by rfl, rfl⟩) (by assumption) ?_
                    try simp only [Act.put, List.getElem_toArray, List.getElem_cons_zero, List.getElem_cons_succ, List.setIfInBounds_toArray, List.set_cons_zero, List.set_cons_succ]
                    refine wpAnyH_take (i := 20) (v := ?vc20) rfl (by kernel_rfl) (by kernel_rfl) (by kernel_rfl) (fun _ _ _ h => h) (Or.inl ⟨by rfl, ?hc20⟩) (by assumption) ?rc20
                    case hc20 => first | (intro w hSw; (try dsimp only at hSw); go_simp; done) | (intro w hSw; (try dsimp only at hSw); go_simp; with_reducible rfl)
                    try simp only [Act.put, List.getElem_toArray, List.getElem_cons_zero, List.getElem_cons_succ, List.setIfInBounds_toArray, List.set_cons_zero, List.set_cons_succ]
                    refine wpAnyH_take (i := 21) (v := ?vc21) rfl (by kernel_rfl) (by kernel_rfl) (by kernel_rfl) (fun _ _ _ h => h) (Or.inl ⟨by rfl, ?hc21⟩) (by assumption) ?rc21
                    case hc21 => first | (intro w hSw; (try dsimp only at hSw); go_simp; done) | (intro w hSw; (try dsimp only at hSw); go_simp; with_reducible rfl)
                    try simp only [Act.put, List.getElem_toArray, List.getElem_cons_zero, List.getElem_cons_succ, List.setIfInBounds_toArray, List.set_cons_zero, List.set_cons_succ]
                    refine wpAnyH_take (i := 22) (v := undef) rfl (by kernel_rfl) (by kernel_rfl) (by kernel_rfl) (fun _ _ _ h => h) (Or.inr ⟨by rfl, rfl⟩) (by assumption) ?_
                    try simp only [Act.put, List.getElem_toArray, List.getElem_cons_zero, List.getElem_cons_succ, List.setIfInBounds_toArray, List.set_cons_zero, List.set_cons_succ]
                    refine wpAnyH_take (i := 23) (v := undef) rfl (by kernel_rfl) (by kernel_rfl) (by kernel_rfl) (fun _ _ _ h => h) (Or.inr ⟨by rfl, rfl⟩) (by assumption) ?_
                    try simp only [Act.put, List.getElem_toArray, List.getElem_cons_zero, List.getElem_cons_succ, List.setIfInBounds_toArray, List.set_cons_zero, List.set_cons_succ]
                    refine wpAnyH_take (i := 24) (v := undef) rfl (by kernel_rfl) (by kernel_rfl) (by kernel_rfl) (fun _ _ _ h => h) (Or.inr ⟨by rfl, rfl⟩) (by assumption) ?_
                    try simp only [Act.put, List.getElem_toArray, List.getElem_cons_zero, List.getElem_cons_succ, List.setIfInBounds_toArray, List.set_cons_zero, List.set_cons_succ]
                    refine wpAnyH_take (i := 25) (v := undef) rfl (by kernel_rfl) (by kernel_rfl) (by kernel_rfl) (fun _ _ _ h => h) (Or.inr ⟨by rfl, rfl⟩) (by assumption) ?_
                    try simp only [Act.put, List.getElem_toArray, List.getElem_cons_zero, List.getElem_cons_succ, List.setIfInBounds_toArray, List.set_cons_zero, List.set_cons_succ]
                    refine wpAnyH_take (i := 26) (v := undef) rfl (by kernel_rfl) (by kernel_rfl) (by kernel_rfl) (fun _ _ _ h => h) (Or.inr ⟨by rfl, rfl⟩) (by assumption) ?_
                    try simp only [Act.put, List.getElem_toArray, List.getElem_cons_zero, List.getElem_cons_succ, List.setIfInBounds_toArray, List.set_cons_zero, List.set_cons_succ]
                    refine wpAnyH_take (i := 27) (v := ?vc27) rfl (by kernel_rfl) (by kernel_rfl) (by kernel_rfl) (fun _ _ _ h => h) (Or.inl ⟨by rfl, ?hc27⟩) (by assumption) ?rc27
                    case hc27 => first | (intro w hSw; (try dsimp only at hSw); go_simp; done) | (intro w hSw; (try dsimp only at hSw); go_simp; with_reducible rfl)
                    try simp only [Act.put, List.getElem_toArray, List.getElem_cons_zero, List.getElem_cons_succ, List.setIfInBounds_toArray, List.set_cons_zero, List.set_cons_succ]
                    refine wpAnyH_take (i := 28) (v := ?vc28) rfl (by kernel_rfl) (by kernel_rfl) (by kernel_rfl) (fun _ _ _ h => h) (Or.inl ⟨by rfl, ?hc28⟩) (by assumption) ?rc28
                    case hc28 => first | (intro w hSw; (try dsimp only at hSw); go_simp; done) | (intro w hSw; (try dsimp only at hSw); go_simp; with_reducible rfl)
                    try simp only [Act.put, List.getElem_toArray, List.getElem_cons_zero, List.getElem_cons_succ, List.setIfInBounds_toArray, List.set_cons_zero, List.set_cons_succ]
                    refine wpAnyH_done (by kernel_rfl) ?_ _
                    refine NoPanic.normal ?_
                    go_wp2
                    go_meet
                    case rel => exact ⟨rfl, hbk⟩
                case rest =>
                  obtain ⟨w9, rfl⟩ : ∃ w9 : World, w9 = wc := ⟨_, rfl⟩
                  obtain ⟨rfl, hb9⟩ := hcut
                  have cS9 := cS w9 hb9
                  have HLE := hid (show ∀ x ∈ C'.says, _ from HSAYS.out)
                  clear HSAYS cS
                  generalize C'.says = L at cS9 HLE HNUMS
                  obtain ⟨wo, rfl⟩ : ∃ wo : World, wo = wr := ⟨_, rfl⟩
                  go_wp2_with (go_at_call 22; refine cS9.mono ?_; rintro e w10 ⟨vs, rfl, hvs, hb10⟩; obtain ⟨As, cs, rfl⟩ := hvs.slice)
                  have hlenL : L.length ≤ 9223372036854775807 := by
                    obtain ⟨z, h1, h2, _⟩ := id hvs
                    have := h2.1
                    have h3 : L.length ≤ maxLen ∨ L.length = 0 := by
                      rcases h2.2 with ⟨_, h0⟩ | ⟨_, cap0, _, hv0, _, _, h4, h5, _⟩
                      · exact .inr h0
                      · exact .inl (Nat.le_trans h4 h5)
                    unfold maxLen at h3
                    omega
                  have hb610 : Below w6.heap.size w6 w10 := hb9.trans (hb10.mono hb9.size)
                  have HVS := hid hvs
                  clear hvs
                  go_loopw [144] (fun i wi => ∃ m : Nat, i = .int .i64 m ∧ m ≤ L.length ∧ Below w10.heap.size w10 wi)
                    (fun i _ => L.length - (intOf i).toNat)
                  case atStart => exact ⟨0, rfl, Nat.zero_le _, Below.refl _ _⟩
                  case round =>
                    obtain ⟨m, rfl, hm, hbi⟩ := hrel
                    by_cases hm4 : m < L.length
                    · obtain ⟨x, hx⟩ : ∃ x, L[m]? = some x := ⟨_, List.getElem?_eq_getElem hm4⟩
                      obtain ⟨gv, cap2, A2, c2, he, hbx, x0, x1, x2, x3, x4, x5⟩ := HVS.out.later (Z := fun _ => True) (Off.of_below hbi) (fun _ _ _ => trivial) hx
                      injection he with he1 _ he3
                      subst he1
                      subst he3
                      obtain ⟨⟨e1, e2, e3⟩, hok⟩ := HLE.out x (List.mem_of_getElem? hx)
                      have hnum := HNUMS.out x (List.mem_of_getElem? hx)
                      have hbx0 : Below wr.heap.size wr (wr.alloc (.cells #[.int .i64 x.kind, .int .i64 x.frm, .int .i64 x.slot, .int .i64 x.view, .int .i64 x.valid, .slice A2 x.value.length c2] 31)) := (Below.refl _ wr).alloc (Nat.le_refl _) _
                      have cE := encodeVote_any (fun k => k < wr.heap.size) _ x _ ⟨_, rfl, (hbx.mono (O' := fun k => k < wr.heap.size) (fun k hk _ => hk)).below hbx0, hnum⟩ (fun k hk => Nat.lt_of_lt_of_le hk hbx0.size)
                      have hle : ¬ a1 < x.view := Int.not_lt.2 e3
                      have HBI := hid hbi
                      rw [e1, e2] at hbx0
                      have HBX0 := hid hbx0
                      have cE' := cE
                      unfold EncPost at cE'
                      rw [hok, if_pos rfl] at cE'
                      rw [e1, e2] at cE'
                      rw [e1] at x1
                      rw [e2] at x2
                      clear hbi hbx0 hnum hbx hx e3 cE e1 e2
                      go_wp2_with (go_at_call 23; refine cE'.mono ?_; rintro e w12 ⟨⟨v12, rfl⟩, hb12⟩)
                      have hbn : Below w10.heap.size w10 w12 := (HBI.out.trans (HBX0.out.mono HBI.out.size)).trans (hb12.mono (Nat.le_trans HBI.out.size HBX0.out.size))
                      go_roundw
                      case rel => exact ⟨m + 1, by go_num, hm4, hbn⟩
                      case measure => simp [intOf]; omega
                    · have hme : m = L.length := by omega
                      subst hme
                      have hb : Below w6.heap.size w6 wr := hb610.trans (hbi.mono hb610.size)
                      have hfin : Lot wr Z0 14 1 (fun _ => b) P' := (HL3.out.below hb).mono (fun k hk => .inl (HZ21.out k (HZ10.out k hk)))
                      have hoffn : Off (fun k => ¬ Z0 k) w3 wr := (((HOFF.out.then_below HBX0.out).then_below HBC.out).trans (HO3.out.mono (G := fun k => ¬ Z0 k) (fun k _ e h => e (HZ21.out k (HZ10.out k h)))) (fun _ _ h => h)).then_below hb
                      have HFIN := hid hfin
                      have HOFN := hid hoffn
                      clear hfin hoffn hbi hb
                      go_wp2
                      go_roundw
                      case rel =>
                        refine ⟨k + 1, P', d', x', by go_num, hlt, by rw [HA1.out, HC'.out], rfl, rfl, hid ?_, HFIN.out, ?_, ?_, ?_, HOFN.out⟩
                        · rw [← HC'.out]
                          obtain ⟨z1, z2⟩ := HDD.out
                          rw [← z1]
                          exact ⟨rfl, z2⟩
                        · rw [← HC'.out]; exact HLOC'.out
                        · rw [← HC'.out]; exact HLIM'.out
                        · rw [← HC'.out, HNEXT.out.me, HNEXT.out.slot]; exact HIDS.out
                      case measure => simp [intOf]; omega
      · have hke : k = l.length := by omega
        subst hke
        clear hlot hloc hlim hoff
        go_wp2
        go_ret
        exact ⟨rfl, hbwr⟩
end Go.Proofs.Ytkkmkkgjpmlhaaa
