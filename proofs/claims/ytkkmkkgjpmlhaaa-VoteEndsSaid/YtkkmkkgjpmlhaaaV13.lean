/- decide: the last two things. act: all that it can do. Late, Wish. -/
import Derived.Test.YtkkmkkgjpmlhaaaV12
import Derived.Test.YtkkmkkgjpmlhaaaV08
import Derived.Test.YtkkmkkgjpmlhaaaV02
import Derived.Test.YtkkmkkgjpmlhaaaV06
import Derived.Test.YtkkmkkgjpmlhaaaV07
import Derived.Test.YtkkmkkgjpmlhaaaV10
import Derived.Test.YtkkmkkgjpmlhaaaV11
namespace Go.Proofs.Ytkkmkkgjpmlhaaa
open Go.RowKit Go.MapKept

def DecidePost (w : World) (ρ : Roles) (i b fid : Nat) (c : CoreM) (e : Ending) (w' : World) : Prop :=
  e = .returned (.bool c.decide_.isSome) ∧ Left w w' ρ i b fid (c.decide_.getD c.undecided)

/-- The two cells of a decision are laid. -/
theorem decided_close {w w1 w2 : World} {ρ : Roles} {i b fid : Nat} {c : CoreM} {vw vl vv v : Value} {bp b1 b2 b3 bs bd : Nat} {d : Bool} {l : List UInt8} (h : Parts w ρ i b fid c vw vl vv bp b1 b2 b3 bs bd) (hb : Below w.heap.size w w1)
    (hv : Bs w1 (fun k => ρ k = (i, 2, 0)) v l) (h2 : w2 = (w1.setCell ⟨b, 15, none⟩ (.bool d)).setCell ⟨b, 16, none⟩ v ∨ w2 = (w1.setCell ⟨b, 16, none⟩ v).setCell ⟨b, 15, none⟩ (.bool d)) : Left w w2 ρ i b fid { c with decided := d, value := l } := by
  have hc1 := h.below hb
  have e2 : Off (fun k => k = b) w1 w2 := by
    rcases h2 with rfl | rfl
    · exact Off.setCell (F := fun k => k = b) (Off.setCell (F := fun k => k = b) (Off.refl (fun k => k = b) w1) (fun _ => rfl) _) (fun _ => rfl) _
    · exact Off.setCell (F := fun k => k = b) (Off.setCell (F := fun k => k = b) (Off.refl (fun k => k = b) w1) (fun _ => rfl) _) (fun _ => rfl) _
  have hh : w2.heap[b]? = some (.cells (coreCells { c with decided := d, value := l } fid vw vl v bp b1 b2 b3 bs bd) 100 (0, 0)) := by
    rcases h2 with rfl | rfl
    · exact heap_setCell_cells (heap_setCell_cells hc1.cells _) _
    · exact heap_setCell_cells (heap_setCell_cells hc1.cells _) _
  exact ⟨ρ, Agr.refl _ _, ⟨_, _, _, _, _, _, _, _, _, hc1.set e2 (Agr.refl _ _) hh (bytes_own hc1.wish hc1.role e2 (Agr.refl _ _)) (bytes_own hc1.locked hc1.role e2 (Agr.refl _ _)) (bytes_own hv hc1.role e2 (Agr.refl _ _)) ⟨rfl, rfl, rfl, rfl, rfl, rfl⟩⟩,
    (Off.of_below hb).trans e2 (fun k _ e => by subst e; rw [h.role])⟩

set_option maxRecDepth 100000 in
set_option maxHeartbeats 4000000 in
theorem decide_any {ρ : Roles} {i b fid : Nat} {c : CoreM} (w : World) (h : CoreAt w ρ i b fid c) (hf : c.Fine) :
    Calls Try.prog 75 #[.pointer (some ⟨b, 0, none⟩)] w (DecidePost w ρ i b fid c) := by
  have hA := fun view W (hW : Below w.heap.size w W) => agreed_any view W (h.below hW) hf
  obtain ⟨vw, vl, vv, bp, b1, b2, b3, bs, bd, h⟩ := h
  obtain ⟨hr, z, h1, hz2, h3⟩ := id h.comms
  have c9 := h.cell 9
  simp only [coreCells, List.getElem?_toArray, List.getElem?_cons_zero, List.getElem?_cons_succ] at c9
  have hk0 : KeysOk z := by have := hf.comms.1.ok; rw [hz2] at this; exact this.mv
  have cS := sortedM_any b2 _ w h1 (by simpa [mv] using hk0.1) hk0.to_mv.2
  rw [show SortedPost w (mv (fun x : Nat × List (Int × List UInt8) => Value.map (some x.1)) z) = SortedPost w z from by unfold SortedPost; rw [keys_mv]] at cS
  have hL : (CoreM.keys z).length ≤ 17592186044416 := by rw [length_keys]; exact hk0.1
  have hkk : CoreM.keys c.comms = CoreM.keys z := by rw [hz2, keys_mv]
  have HKK := hid hkk
  have H := hid h
  have HA := hid hA
  obtain ⟨⟨n0, n1⟩, hdk⟩ : (4 ≤ c.n ∧ c.n ≤ 64) ∧ KeysOk c.decs := ⟨⟨hf.ok.n0, hf.ok.n1⟩, hf.decs.1.ok⟩
  clear h h1 h3 hr hA hkk hz2 hk0
  go_enter Try.func75, Try.ntmps75
  go_wp2_with (first | (go_at_call 60; refine (keysM_any _ _).mono ?_; rintro e w' ⟨rfl, rfl⟩) | (go_at_call 59; refine cS.mono ?_; rintro e w1 ⟨v, rfl, hz1, hb1⟩; obtain ⟨A, cap, rfl, hcap, hcells⟩ := id hz1))
  have HC := hid hcells
  clear hcells hz1 cS c9
  go_loopw [14] (fun i wr => ∃ k : Nat, i = .int .i64 k ∧ k ≤ (CoreM.keys z).length ∧ ((CoreM.keys z).take k).findSome? c.agreed = none ∧ Below w1.heap.size w1 wr)
    (fun i _ => (CoreM.keys z).length - (intOf i).toNat)
  case atStart => exact ⟨0, rfl, Nat.zero_le _, rfl, Below.refl _ _⟩
  case round =>
    obtain ⟨k, rfl, hkl, hnone, hbr⟩ := hrel
    have hbw := hb1.trans (hbr.mono hb1.size)
    by_cases hlt2 : k < (CoreM.keys z).length
    · obtain ⟨bz, rfl, hbz, hcell⟩ := HC.out (by omega)
      obtain ⟨view, hwho⟩ : ∃ view, (CoreM.keys z)[k]? = some view := ⟨_, List.getElem?_eq_getElem hlt2⟩
      have g0 : wr.cell? ⟨bz, k, none⟩ = some (.int .i64 view) := by
        have := hcell k view hwho
        exact (hbr.cell (p := ⟨bz, k, none⟩) (World.block_lt_of_cell? w1 _ this)).trans this
      have hgo : ∀ (o : Option (List UInt8)), c.agreed view = o → ((CoreM.keys z).take (k + 1)).findSome? c.agreed = o := fun o ho => by
        rw [List.take_succ_eq_append_getElem hlt2, List.findSome?_append, hnone, Option.none_or]
        have : (CoreM.keys z)[k] = view := by have := hwho; rw [List.getElem?_eq_getElem hlt2] at this; simpa using this
        rw [List.findSome?_cons, this, ho]
        cases o <;> rfl
      have HGO := hid hgo
      have cA := HA.out view _ hbw
      clear hgo hcell hnone hwho
      cases hag : c.agreed view with
      | none =>
        rw [hag] at cA
        have hn := HGO.out none hag
        have HN := hid hn
        clear hag hn
        go_wp2_with (go_at_call 88; refine cA.mono ?_; rintro e w2 ⟨v, rfl, hv2, hb2⟩)
        go_roundw
        case rel => exact ⟨k + 1, by go_num, hlt2, HN.out, hbr.trans (hb2.mono hbr.size)⟩
        case measure => simp [intOf]; omega
      | some l =>
        rw [hag] at cA
        have hd : c.decide_ = some { c with decided := true, value := l } := by
          unfold CoreM.decide_
          rw [HKK.out, ← List.take_append_drop (k + 1) (CoreM.keys z), List.findSome?_append, HGO.out _ hag, Option.some_or]
        have HD := hid hd
        clear hag hd
        go_wp2_with (go_at_call 88; refine cA.mono ?_; rintro e w2 ⟨v, rfl, hv2, hb2⟩; obtain ⟨A2, cap2, rfl, _⟩ := id hv2; have f15 : w2.frozen? ⟨b, 15, none⟩ = false := (H.out.below (hbw.trans (hb2.mono hbw.size))).frozen 15; have f16 : w2.frozen? ⟨b, 16, none⟩ = false := (H.out.below (hbw.trans (hb2.mono hbw.size))).frozen 16; have g15 : w2.cell? ⟨b, 15, none⟩ = some (.bool c.decided) := (H.out.below (hbw.trans (hb2.mono hbw.size))).cell 15; have g16 : w2.cell? ⟨b, 16, none⟩ = some vv := (H.out.below (hbw.trans (hb2.mono hbw.size))).cell 16)
        go_ret
        refine ⟨by rw [HD.out]; rfl, ?_⟩
        rw [HD.out]
        exact decided_close H.out (hbw.trans (hb2.mono hbw.size)) (hv2.below hb2) (.inl rfl)
    · have hnn : (CoreM.keys c.comms).findSome? c.agreed = none := by
        have hk' : k = (CoreM.keys z).length := by omega
        rw [HKK.out, ← List.take_length (l := CoreM.keys z), ← hk']
        exact hnone
      have HNN := hid hnn
      clear hnn hnone
      have h0 := (H.out.below hbw).cell 0
      have h12 := (H.out.below hbw).cell 12
      simp only [coreCells, List.getElem?_toArray, List.getElem?_cons_zero, List.getElem?_cons_succ] at h0 h12
      have hdecs := (H.out.below hbw).decs
      have q1 : IntKind.i64.wrap (c.n - 1) = c.n - 1 := IntWalk.i64_in _ (by omega)
      have q2 : (c.n - 1).tdiv 3 = (c.n - 1) / 3 := Int.tdiv_eq_ediv_of_nonneg (by omega)
      have q3 : IntKind.i64.wrap ((c.n - 1) / 3) = (c.n - 1) / 3 := IntWalk.i64_in _ (by omega)
      have q4 : IntKind.i64.wrap ((c.n - 1) / 3 + 1) = (c.n - 1) / 3 + 1 := IntWalk.i64_in _ (by omega)
      go_wp2_with fail
      go_region_held3 (fun W => W.cell? ⟨b, 0, none⟩ = some (.int .i64 c.n) ∧ W.cell? ⟨b, 12, none⟩ = some (.map (some bd)))
        (first
          | exact ⟨h0, h12⟩
          | exact ⟨g0, g12⟩
          | exact ⟨by rw [World.cell?_setCell_other _ _ _ _ (by simp)]; exact g0, by rw [World.cell?_setCell_other _ _ _ _ (by simp)]; exact g12⟩
          | exact ⟨by rw [World.cell?_setCell_other _ _ _ _ (by simp), World.cell?_setCell_other _ _ _ _ (by simp)]; exact g0, by rw [World.cell?_setCell_other _ _ _ _ (by simp), World.cell?_setCell_other _ _ _ _ (by simp)]; exact g12⟩)
        (first | (go_at_call 89; refine (count_any bd c.decs _ (fun k => ρ k = (i, 2, 0)) _ (hdecs.2.keep (Off.refl (fun _ => False) _).drew (fun f => f) (fun _ _ _ f => f)) hdk).mono ?_; rintro e w2 ⟨v, rfl, hv2, hb2⟩; obtain ⟨A2, cap2, rfl, _⟩ := id hv2; have hbx := hbw.trans ((below_drew_l hb2).mono hbw.size); have f15 : w2.frozen? ⟨b, 15, none⟩ = false := (H.out.below hbx).frozen 15; have f16 : w2.frozen? ⟨b, 16, none⟩ = false := (H.out.below hbx).frozen 16; have g15 : w2.cell? ⟨b, 15, none⟩ = some (.bool c.decided) := (H.out.below hbx).cell 15; have g16 : w2.cell? ⟨b, 16, none⟩ = some vv := (H.out.below hbx).cell 16; have g0 : w2.cell? ⟨b, 0, none⟩ = some (.int .i64 c.n) := (H.out.below hbx).cell 0; have g12 : w2.cell? ⟨b, 12, none⟩ = some (.map (some bd)) := (H.out.below hbx).cell 12))
      all_goals
        go_wp2
        go_ret
        have hcl := decided_close H.out hbx (hv2.below hb2) (.inr (Eq.refl ((w2.setCell ⟨b, 16, none⟩ (Value.slice A2 ((CoreM.count c.decs ((c.n - 1) / 3 + 1)).getD []).length cap2)).setCell ⟨b, 15, none⟩ (Value.bool (CoreM.count c.decs ((c.n - 1) / 3 + 1)).isSome))))
        have hd : c.decide_ = (CoreM.count c.decs ((c.n - 1) / 3 + 1)).map fun v => { c with decided := true, value := v } := by
          unfold CoreM.decide_ CoreM.f
          rw [HNN.out]
          cases CoreM.count c.decs ((c.n - 1) / 3 + 1) <;> rfl
        refine ⟨by rw [hd, Option.isSome_map]; rfl, ?_⟩
        rw [hd]
        cases hcc : CoreM.count c.decs ((c.n - 1) / 3 + 1) with
        | none => rw [hcc] at hcl; exact hcl
        | some l => rw [hcc] at hcl; exact hcl
end Go.Proofs.Ytkkmkkgjpmlhaaa
namespace Go.Proofs.Ytkkmkkgjpmlhaaa
open Go.RowKit Go.MapKept

theorem Left.trans {w w1 w2 : World} {ρ : Roles} {i b fid : Nat} {c1 c2 : CoreM} (h : Left w w1 ρ i b fid c1) (k : ∀ ρ1, CoreAt w1 ρ1 i b fid c1 → Left w1 w2 ρ1 i b fid c2) : Left w w2 ρ i b fid c2 := by
  obtain ⟨ρ1, h1, h2, h3⟩ := h
  obtain ⟨ρ2, k1, k2, k3⟩ := k ρ1 h2
  exact ⟨ρ2, h1.trans k1 h3.size, k2, h3.trans k3 (fun b hb e => by rw [← h1 b hb]; exact e)⟩

theorem did_left {f : FuncId} {args : Array Value} {w w1 : World} {ρ : Roles} {i b fid : Nat} {c : CoreM} {r : Option CoreM} (hl : Left w w1 ρ i b fid c)
    (h : ∀ ρ1, CoreAt w1 ρ1 i b fid c → Calls Try.prog f args w1 (DidPost w1 ρ1 i b fid c r)) : Calls Try.prog f args w1 fun e w' => e = .returned (.bool r.isSome) ∧ Left w w' ρ i b fid (r.getD c) := by
  obtain ⟨ρ1, h1, h2, h3⟩ := hl
  refine (h ρ1 h2).mono ?_
  rintro e w' ⟨rfl, ρ2, k1, k2, k3⟩
  exact ⟨rfl, ρ2, h1.trans k1 h3.size, k2, h3.trans k3 (fun b hb e => by rw [← h1 b hb]; exact e)⟩
theorem decide_left {w w1 : World} {ρ : Roles} {i b fid : Nat} {c : CoreM} (hl : Left w w1 ρ i b fid c) (hf : c.Fine) :
    Calls Try.prog 75 #[.pointer (some ⟨b, 0, none⟩)] w1 fun e w' => e = .returned (.bool c.decide_.isSome) ∧ Left w w' ρ i b fid (c.decide_.getD c.undecided) := by
  obtain ⟨ρ1, h1, h2, h3⟩ := hl
  refine (decide_any w1 h2 hf).mono ?_
  rintro e w' ⟨rfl, ρ2, k1, k2, k3⟩
  exact ⟨rfl, ρ2, h1.trans k1 h3.size, k2, h3.trans k3 (fun b hb e => by rw [← h1 b hb]; exact e)⟩

theorem Left.decided {w w1 : World} {ρ : Roles} {i b fid : Nat} {c : CoreM} (hl : Left w w1 ρ i b fid c) : w1.cell? ⟨b, 15, none⟩ = some (.bool c.decided) := by
  obtain ⟨ρ1, h1, ⟨vw, vl, vv, bp, b1, b2, b3, bs, bd, h2⟩, h3⟩ := hl
  exact h2.cell 15

def ActPost (w : World) (ρ : Roles) (i b fid : Nat) (c' : CoreM) (e : Ending) (w' : World) : Prop := e = .returned (.tuple #[]) ∧ Left w w' ρ i b fid c'

set_option maxRecDepth 100000 in
set_option maxHeartbeats 4000000 in
theorem act_any {ρ : Roles} {i b fid : Nat} {c : CoreM} {acc : List UInt8 → Bool} (w : World) (h : CoreAt w ρ i b fid c) (hf : c.Fine) (ha : Accepts fid acc) :
    Calls Try.prog 51 #[.pointer (some ⟨b, 0, none⟩)] w (ActPost w ρ i b fid (c.settle acc)) := by
  have HA := hid ha
  have HL := hid (Left.refl h)
  have HF := hid hf
  clear h ha hf
  go_enter Try.func51, Try.ntmps51
  go_wp2_with fail
  go_loopg [] c.mu (fun k wr => ∃ cr : CoreM, Left w wr ρ i b fid cr ∧ Hid cr.Fine ∧ Hid (CoreM.settle acc cr = CoreM.settle acc c) ∧ Hid (k = cr.mu))
  case atStart => exact ⟨c, HL.out, HF, hid rfl, hid rfl⟩
  case round =>
    obtain ⟨cr, hl, hfr, hse, hmu⟩ := hrel
    have g15 := hl.decided
    cases hd : cr.decided with
    | true =>
      rw [hd] at g15
      have HSE := hid (hse.out.symm.trans (CoreM.settle_decided hd))
      clear hd
      go_wp2
      go_end0
      exact ⟨rfl, by rw [HSE.out]; exact hl⟩
    | false =>
      rw [hd] at g15
      cases h0 : cr.turn with
      | some c' =>
        have hs : cr.step acc = some c' := by unfold CoreM.step; rw [h0, Option.some_or]
        have HM := hid (CoreM.mu_step hfr.out hd hs)
        have HFN := hid (hfr.out.step hs)
        have HSN := hid ((CoreM.settle_some hfr.out hd hs).trans hse.out)
        clear hd hs
        go_wp2_with (first | (go_at_call 71; refine (did_left hl fun ρ1 h1 => turn_any wr h1 hfr.out.ok hfr.out.seen.ok).mono ?_; rintro e w2 ⟨rfl, hm2⟩; have hl2 : Left w w2 ρ i b fid c' := (by rw [h0] at hm2; exact hm2)))
        go_roundg c'.mu
        case measure => rw [hmu.out]; exact HM.out
        case rel => exact ⟨c', hl2, HFN, HSN, hid rfl⟩
      | none =>
        cases h1 : cr.propose with
        | some c' =>
          have hs : cr.step acc = some c' := by unfold CoreM.step; rw [h0, Option.none_or, h1, Option.some_or]
          have HM := hid (CoreM.mu_step hfr.out hd hs)
          have HFN := hid (hfr.out.step hs)
          have HSN := hid ((CoreM.settle_some hfr.out hd hs).trans hse.out)
          clear hd hs
          go_wp2_with (first | (go_at_call 71; refine (did_left hl fun ρ1 h1 => turn_any wr h1 hfr.out.ok hfr.out.seen.ok).mono ?_; rintro e w2 ⟨rfl, hm2⟩; have hl2 : Left w w2 ρ i b fid cr := (by rw [h0] at hm2; exact hm2)) | (go_at_call 72; refine (did_left hl2 fun ρ1 h1 => propose_any w2 h1 hfr.out).mono ?_; rintro e w3 ⟨rfl, hm3⟩; have hl3 : Left w w3 ρ i b fid c' := (by rw [h1] at hm3; exact hm3)))
          go_roundg c'.mu
          case measure => rw [hmu.out]; exact HM.out
          case rel => exact ⟨c', hl3, HFN, HSN, hid rfl⟩
        | none =>
          cases h2 : cr.prepare acc with
          | some c' =>
            have hs : cr.step acc = some c' := by unfold CoreM.step; rw [h0, Option.none_or, h1, Option.none_or, h2, Option.some_or]
            have HM := hid (CoreM.mu_step hfr.out hd hs)
            have HFN := hid (hfr.out.step hs)
            have HSN := hid ((CoreM.settle_some hfr.out hd hs).trans hse.out)
            clear hd hs
            go_wp2_with (first | (go_at_call 71; refine (did_left hl fun ρ1 h1 => turn_any wr h1 hfr.out.ok hfr.out.seen.ok).mono ?_; rintro e w2 ⟨rfl, hm2⟩; have hl2 : Left w w2 ρ i b fid cr := (by rw [h0] at hm2; exact hm2)) | (go_at_call 72; refine (did_left hl2 fun ρ1 h1 => propose_any w2 h1 hfr.out).mono ?_; rintro e w3 ⟨rfl, hm3⟩; have hl3 : Left w w3 ρ i b fid cr := (by rw [h1] at hm3; exact hm3)) | (go_at_call 73; refine (did_left hl3 fun ρ1 h1 => prepare_any w3 h1 hfr.out HA.out).mono ?_; rintro e w4 ⟨rfl, hm4⟩; have hl4 : Left w w4 ρ i b fid c' := (by rw [h2] at hm4; exact hm4)))
            go_roundg c'.mu
            case measure => rw [hmu.out]; exact HM.out
            case rel => exact ⟨c', hl4, HFN, HSN, hid rfl⟩
          | none =>
            cases h3 : cr.commit with
            | some c' =>
              have hs : cr.step acc = some c' := by unfold CoreM.step; rw [h0, Option.none_or, h1, Option.none_or, h2, Option.none_or, h3, Option.some_or]
              have HM := hid (CoreM.mu_step hfr.out hd hs)
              have HFN := hid (hfr.out.step hs)
              have HSN := hid ((CoreM.settle_some hfr.out hd hs).trans hse.out)
              clear hd hs
              go_wp2_with (first | (go_at_call 71; refine (did_left hl fun ρ1 h1 => turn_any wr h1 hfr.out.ok hfr.out.seen.ok).mono ?_; rintro e w2 ⟨rfl, hm2⟩; have hl2 : Left w w2 ρ i b fid cr := (by rw [h0] at hm2; exact hm2)) | (go_at_call 72; refine (did_left hl2 fun ρ1 h1 => propose_any w2 h1 hfr.out).mono ?_; rintro e w3 ⟨rfl, hm3⟩; have hl3 : Left w w3 ρ i b fid cr := (by rw [h1] at hm3; exact hm3)) | (go_at_call 73; refine (did_left hl3 fun ρ1 h1 => prepare_any w3 h1 hfr.out HA.out).mono ?_; rintro e w4 ⟨rfl, hm4⟩; have hl4 : Left w w4 ρ i b fid cr := (by rw [h2] at hm4; exact hm4)) | (go_at_call 74; refine (did_left hl4 fun ρ1 h1 => commit_any w4 h1 hfr.out).mono ?_; rintro e w5 ⟨rfl, hm5⟩; have hl5 : Left w w5 ρ i b fid c' := (by rw [h3] at hm5; exact hm5)))
              go_roundg c'.mu
              case measure => rw [hmu.out]; exact HM.out
              case rel => exact ⟨c', hl5, HFN, HSN, hid rfl⟩
            | none =>
              cases h4 : cr.decide_ with
              | some c' =>
                have hs : cr.step acc = some c' := by unfold CoreM.step; rw [h0, Option.none_or, h1, Option.none_or, h2, Option.none_or, h3, Option.none_or, h4]
                have HM := hid (CoreM.mu_step hfr.out hd hs)
                have HFN := hid (hfr.out.step hs)
                have HSN := hid ((CoreM.settle_some hfr.out hd hs).trans hse.out)
                clear hd hs
                go_wp2_with (first | (go_at_call 71; refine (did_left hl fun ρ1 h1 => turn_any wr h1 hfr.out.ok hfr.out.seen.ok).mono ?_; rintro e w2 ⟨rfl, hm2⟩; have hl2 : Left w w2 ρ i b fid cr := (by rw [h0] at hm2; exact hm2)) | (go_at_call 72; refine (did_left hl2 fun ρ1 h1 => propose_any w2 h1 hfr.out).mono ?_; rintro e w3 ⟨rfl, hm3⟩; have hl3 : Left w w3 ρ i b fid cr := (by rw [h1] at hm3; exact hm3)) | (go_at_call 73; refine (did_left hl3 fun ρ1 h1 => prepare_any w3 h1 hfr.out HA.out).mono ?_; rintro e w4 ⟨rfl, hm4⟩; have hl4 : Left w w4 ρ i b fid cr := (by rw [h2] at hm4; exact hm4)) | (go_at_call 74; refine (did_left hl4 fun ρ1 h1 => commit_any w4 h1 hfr.out).mono ?_; rintro e w5 ⟨rfl, hm5⟩; have hl5 : Left w w5 ρ i b fid cr := (by rw [h3] at hm5; exact hm5)) | (go_at_call 75; refine (decide_left hl5 hfr.out).mono ?_; rintro e w6 ⟨rfl, hm6⟩; have hl6 : Left w w6 ρ i b fid c' := (by rw [h4] at hm6; exact hm6)))
                go_roundg c'.mu
                case measure => rw [hmu.out]; exact HM.out
                case rel => exact ⟨c', hl6, HFN, HSN, hid rfl⟩
              | none =>
                have hs : cr.step acc = none := by unfold CoreM.step; rw [h0, Option.none_or, h1, Option.none_or, h2, Option.none_or, h3, Option.none_or, h4]
                have HSE := hid (hse.out.symm.trans (CoreM.settle_none hd hs))
                clear hd hs
                go_wp2_with (first | (go_at_call 71; refine (did_left hl fun ρ1 h1 => turn_any wr h1 hfr.out.ok hfr.out.seen.ok).mono ?_; rintro e w2 ⟨rfl, hm2⟩; have hl2 : Left w w2 ρ i b fid cr := (by rw [h0] at hm2; exact hm2)) | (go_at_call 72; refine (did_left hl2 fun ρ1 h1 => propose_any w2 h1 hfr.out).mono ?_; rintro e w3 ⟨rfl, hm3⟩; have hl3 : Left w w3 ρ i b fid cr := (by rw [h1] at hm3; exact hm3)) | (go_at_call 73; refine (did_left hl3 fun ρ1 h1 => prepare_any w3 h1 hfr.out HA.out).mono ?_; rintro e w4 ⟨rfl, hm4⟩; have hl4 : Left w w4 ρ i b fid cr := (by rw [h2] at hm4; exact hm4)) | (go_at_call 74; refine (did_left hl4 fun ρ1 h1 => commit_any w4 h1 hfr.out).mono ?_; rintro e w5 ⟨rfl, hm5⟩; have hl5 : Left w w5 ρ i b fid cr := (by rw [h3] at hm5; exact hm5)) | (go_at_call 75; refine (decide_left hl5 hfr.out).mono ?_; rintro e w6 ⟨rfl, hm6⟩; have hl6 : Left w w6 ρ i b fid cr.undecided := (by rw [h4] at hm6; exact hm6)))
                go_end0
                exact ⟨rfl, by rw [HSE.out]; exact hl6⟩
end Go.Proofs.Ytkkmkkgjpmlhaaa
namespace Go.Proofs.Ytkkmkkgjpmlhaaa
open Go.RowKit Go.MapKept

theorem act_left {w w1 : World} {ρ : Roles} {i b fid : Nat} {c : CoreM} {acc : List UInt8 → Bool} (hl : Left w w1 ρ i b fid c) (hf : c.Fine) (ha : Accepts fid acc) :
    Calls Try.prog 51 #[.pointer (some ⟨b, 0, none⟩)] w1 (ActPost w ρ i b fid (c.settle acc)) := by
  obtain ⟨ρ1, h1, h2, h3⟩ := hl
  refine (act_any w1 h2 hf ha).mono ?_
  rintro e w' ⟨rfl, ρ2, k1, k2, k3⟩
  exact ⟨rfl, ρ2, h1.trans k1 h3.size, k2, h3.trans k3 (fun b hb e => by rw [← h1 b hb]; exact e)⟩

/-- The view is another one. -/
theorem late_close {w : World} {ρ : Roles} {i b fid : Nat} {c : CoreM} {vw vl vv : Value} {bp b1 b2 b3 bs bd : Nat} (h : Parts w ρ i b fid c vw vl vv bp b1 b2 b3 bs bd) (x : Int) : Left w (w.setCell ⟨b, 4, none⟩ (.int .i64 x)) ρ i b fid { c with view := x } := by
  have e2 := Off.setOne w ⟨b, 4, none⟩ (.int .i64 x)
  exact ⟨ρ, Agr.refl _ _, ⟨_, _, _, _, _, _, _, _, _, h.set e2 (Agr.refl _ _) (heap_setCell_cells h.cells _) (bytes_own h.wish h.role e2 (Agr.refl _ _)) (bytes_own h.locked h.role e2 (Agr.refl _ _)) (bytes_own h.value h.role e2 (Agr.refl _ _)) ⟨rfl, rfl, rfl, rfl, rfl, rfl⟩⟩,
    e2.mono (fun k _ e => by subst e; rw [h.role])⟩

set_option maxRecDepth 100000 in
set_option maxHeartbeats 1000000 in
theorem late_any {ρ : Roles} {i b fid : Nat} {c : CoreM} {acc : List UInt8 → Bool} (w : World) (h : CoreAt w ρ i b fid c) (hf : c.Fine) (ha : Accepts fid acc) :
    Calls Try.prog 19 #[.pointer (some ⟨b, 0, none⟩)] w (ActPost w ρ i b fid (c.late acc)) := by
  obtain ⟨vw, vl, vv, bp, b1, b2, b3, bs, bd, h⟩ := h
  have c4 := h.cell 4
  have c15 := h.cell 15
  simp only [coreCells, List.getElem?_toArray, List.getElem?_cons_zero, List.getElem?_cons_succ] at c4 c15
  have f4 : w.frozen? ⟨b, 4, none⟩ = false := h.frozen 4
  cases hd : c.decided with
  | true =>
    have hr : c.late acc = c := by unfold CoreM.late; simp [hd]
    rw [hd] at c15
    have HR := hid hr
    have H := hid h
    clear hr h hd
    go_enter Try.func19, Try.ntmps19
    go_wp2
    go_end0
    exact ⟨rfl, by rw [HR.out]; exact Left.refl ⟨_, _, _, _, _, _, _, _, _, H.out⟩⟩
  | false =>
    rw [hd] at c15
    by_cases hv : c.view < 1048576
    · have hr : c.late acc = CoreM.settle acc { c with view := c.view + 1 } := by unfold CoreM.late; simp [hd, hv]
      have v0 := hf.ok.view0
      have HR := hid hr
      have H := hid h
      have hfn := hf.nextView hv
      clear hr h hd
      go_enter Try.func19, Try.ntmps19
      go_wp2_with (go_at_call 51; refine (act_left (late_close H.out (c.view + 1)) hfn ha).mono ?_; rintro e w2 ⟨rfl, hl2⟩)
      go_end0
      exact ⟨rfl, by rw [HR.out]; exact hl2⟩
    · have hr : c.late acc = c := by unfold CoreM.late; simp [hd]; intro h; exact absurd h hv
      have HR := hid hr
      have H := hid h
      have hv' : decide (c.view < 1048576) = false := decide_eq_false hv
      clear hr h hd
      go_enter Try.func19, Try.ntmps19
      go_wp2
      go_end0
      exact ⟨rfl, by rw [HR.out]; exact Left.refl ⟨_, _, _, _, _, _, _, _, _, H.out⟩⟩

/-- The wish is laid. -/
theorem wish_close {w w1 : World} {ρ : Roles} {i b fid : Nat} {c : CoreM} {vw vl vv v : Value} {bp b1 b2 b3 bs bd : Nat} {l : List UInt8} (h : Parts w ρ i b fid c vw vl vv bp b1 b2 b3 bs bd) (hb : Below w.heap.size w w1) (hv : Bs w1 (fun k => w.heap.size ≤ k) v l) :
    Left w ((w1.setCell ⟨b, 5, none⟩ v).setCell ⟨b, 6, none⟩ (.bool true)) ρ i b fid { c with wish := l, wishes := true } := by
  have hc1 : Parts w1 (ρ.fresh i w.heap.size w1.heap.size) i b fid c vw vl vv bp b1 b2 b3 bs bd := h.keep (Off.of_below (F := fun _ => False) hb) (agr_fresh _ _ _ _) (fun _ _ f => f.elim)
  have hv1 : Bs w1 (fun k => ρ.fresh i w.heap.size w1.heap.size k = (i, 2, 0)) v l := hv.mono (fun k hk hwk => by unfold Roles.fresh; rw [if_pos ⟨hwk, hk⟩])
  have e2 : Off (fun k => k = b) w1 ((w1.setCell ⟨b, 5, none⟩ v).setCell ⟨b, 6, none⟩ (.bool true)) := Off.setCell (F := fun k => k = b) (Off.setCell (F := fun k => k = b) (Off.refl (fun k => k = b) w1) (fun _ => rfl) _) (fun _ => rfl) _
  exact ⟨_, agr_fresh _ _ _ _, ⟨_, _, _, _, _, _, _, _, _, hc1.set e2 (Agr.refl _ _) (heap_setCell_cells (heap_setCell_cells hc1.cells _) _) (bytes_own hv1 hc1.role e2 (Agr.refl _ _)) (bytes_own hc1.locked hc1.role e2 (Agr.refl _ _)) (bytes_own hc1.value hc1.role e2 (Agr.refl _ _)) ⟨rfl, rfl, rfl, rfl, rfl, rfl⟩⟩,
    (Off.of_below hb).trans e2 (fun k _ e => by subst e; rw [h.role])⟩

set_option maxRecDepth 100000 in
set_option maxHeartbeats 1000000 in
theorem wish_any {ρ : Roles} {i b fid : Nat} {c : CoreM} {acc : List UInt8 → Bool} {O : Nat → Prop} {v : Value} {l : List UInt8} (w : World) (h : CoreAt w ρ i b fid c) (hf : c.Fine) (ha : Accepts fid acc) (hb : Bs w O v l) (hl : l.length ≤ 9223372036854775807) :
    Calls Try.prog 18 #[.pointer (some ⟨b, 0, none⟩), v] w (ActPost w ρ i b fid (c.ask acc l)) := by
  obtain ⟨vw, vl, vv, bp, b1, b2, b3, bs, bd, h⟩ := h
  obtain ⟨A, cap, rfl, _⟩ := id hb
  have c6 := h.cell 6
  simp only [coreCells, List.getElem?_toArray, List.getElem?_cons_zero, List.getElem?_cons_succ] at c6
  have H := hid h
  cases hd : c.wishes with
  | true =>
    have hr : c.ask acc l = c := by unfold CoreM.ask; simp [hd]
    rw [hd] at c6
    have HR := hid hr
    clear hr h hd
    go_enter Try.func18, Try.ntmps18
    go_wp2
    go_end0
    exact ⟨rfl, by rw [HR.out]; exact Left.refl ⟨_, _, _, _, _, _, _, _, _, H.out⟩⟩
  | false =>
    rw [hd] at c6
    by_cases hv : (4096 : Int) < l.length
    · have hr : c.ask acc l = c := by unfold CoreM.ask; simp only [hd, Bool.false_or]; rw [if_pos (decide_eq_true (by omega))]
      have HR := hid hr
      clear hr h hd
      go_enter Try.func18, Try.ntmps18
      go_wp2
      go_end0
      exact ⟨rfl, by rw [HR.out]; exact Left.refl ⟨_, _, _, _, _, _, _, _, _, H.out⟩⟩
    · have hr : c.ask acc l = CoreM.settle acc { c with wish := l, wishes := true } := by unfold CoreM.ask; simp only [hd, Bool.false_or]; rw [if_neg (by rw [decide_eq_true_eq]; omega)]
      have HR := hid hr
      have hfn := hf.wishFor (l := l) (by unfold Short; omega)
      clear hr h hd
      go_enter Try.func18, Try.ntmps18
      go_wp2_with (first | (go_at_call 52; refine (clone_any _ hb (by omega)).mono ?_; rintro e w1 ⟨v', rfl, hv1, hb1⟩; obtain ⟨A1, cap1, rfl, _⟩ := id hv1; have f5 : w1.frozen? ⟨b, 5, none⟩ = false := (H.out.below hb1).frozen 5; have f6 : w1.frozen? ⟨b, 6, none⟩ = false := (H.out.below hb1).frozen 6; have g5 : w1.cell? ⟨b, 5, none⟩ = some vw := (H.out.below hb1).cell 5; have g6 : w1.cell? ⟨b, 6, none⟩ = some (.bool c.wishes) := (H.out.below hb1).cell 6) | (go_at_call 51; refine (act_left (wish_close H.out hb1 hv1) hfn ha).mono ?_; rintro e w2 ⟨rfl, hl2⟩))
      go_end0
      exact ⟨rfl, by rw [HR.out]; exact hl2⟩
end Go.Proofs.Ytkkmkkgjpmlhaaa
