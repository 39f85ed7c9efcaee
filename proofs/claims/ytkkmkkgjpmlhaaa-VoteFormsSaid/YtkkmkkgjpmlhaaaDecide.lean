/- decide: the last two things. -/
import Derived.Test.YtkkmkkgjpmlhaaaAgreed
import Derived.Test.YtkkmkkgjpmlhaaaFit
namespace Go.Proofs.Ytkkmkkgjpmlhaaa
open Go.RowKit Go.MapKept

def DecidePost (w : World) (ρ : Roles) (i b fid : Nat) (c : CoreM) (e : Ending) (w' : World) : Prop :=
  e = .returned (.bool c.decide_.isSome) ∧ Left w w' ρ i b fid (c.decide_.getD c.undecided)

/-- The two cells of a decision are laid. -/
theorem decided_close {w w1 w2 : World} {ρ : Roles} {i b fid : Nat} {c : CoreM} {vw vl vv v : Value} {bp b1 b2 b3 bs bd : Nat} {d : Bool} {l : List UInt8} (h : Parts w ρ i b fid c vw vl vv bp b1 b2 b3 bs bd) (hb : Below w.heap.size w w1)
    (hv : Bs w1 (fun k => ρ k = (i, 2, 0)) v l) (h2 : w2 = (w1.setCell ⟨b, 15, none⟩ (.bool d)).setCell ⟨b, 16, none⟩ v ∨ w2 = (w1.setCell ⟨b, 16, none⟩ v).setCell ⟨b, 15, none⟩ (.bool d)) : Left w w2 ρ i b fid { c with decided := d, value := l } := by
  have hc1 := h.below hb
  have e2 : Off (fun k => k = b) w1 w2 := by
    rcases h2 with rfl | rfl
    · exact Off.setCell (F := fun k => k = b) (Off.setCell (F := fun k => k = b) (Off.refl (fun k => k = b) w1) (fun _ => rfl) _) (fun _ => rfl) _
    · exact Off.setCell (F := fun k => k = b) (Off.setCell (F := fun k => k = b) (Off.refl (fun k => k = b) w1) (fun _ => rfl) _) (fun _ => rfl) _
  have hh : w2.heap[b]? = some (.cells (coreCells { c with decided := d, value := l } fid vw vl v bp b1 b2 b3 bs bd) 100 (0, 0)) := by
    rcases h2 with rfl | rfl
    · exact heap_setCell_cells (heap_setCell_cells hc1.cells _) _
    · exact heap_setCell_cells (heap_setCell_cells hc1.cells _) _
  exact ⟨ρ, Agr.refl _ _, ⟨_, _, _, _, _, _, _, _, _, hc1.set e2 (Agr.refl _ _) hh (bytes_own hc1.wish hc1.role e2 (Agr.refl _ _)) (bytes_own hc1.locked hc1.role e2 (Agr.refl _ _)) (bytes_own hv hc1.role e2 (Agr.refl _ _)) ⟨rfl, rfl, rfl, rfl, rfl, rfl⟩⟩,
    (Off.of_below hb).trans e2 (fun k _ e => by subst e; rw [h.role])⟩

set_option maxRecDepth 100000 in
set_option maxHeartbeats 4000000 in
theorem decide_any {ρ : Roles} {i b fid : Nat} {c : CoreM} (w : World) (h : CoreAt w ρ i b fid c) (hf : c.Fine) :
    Calls Try.prog 75 #[.pointer (some ⟨b, 0, none⟩)] w (DecidePost w ρ i b fid c) := by
  have hA := fun view W (hW : Below w.heap.size w W) => agreed_any view W (h.below hW) hf
  obtain ⟨vw, vl, vv, bp, b1, b2, b3, bs, bd, h⟩ := h
  obtain ⟨hr, z, h1, hz2, h3⟩ := id h.comms
  have c9 := h.cell 9
  simp only [coreCells, List.getElem?_toArray, List.getElem?_cons_zero, List.getElem?_cons_succ] at c9
  have hk0 : KeysOk z := by have := hf.comms.1.ok; rw [hz2] at this; exact this.mv
  have cS := sortedM_any b2 _ w h1 (by simpa [mv] using hk0.1) hk0.to_mv.2
  rw [show SortedPost w (mv (fun x : Nat × List (Int × List UInt8) => Value.map (some x.1)) z) = SortedPost w z from by unfold SortedPost; rw [keys_mv]] at cS
  have hL : (CoreM.keys z).length ≤ 17592186044416 := by rw [length_keys]; exact hk0.1
  have hkk : CoreM.keys c.comms = CoreM.keys z := by rw [hz2, keys_mv]
  have HKK := hid hkk
  have H := hid h
  have HA := hid hA
  obtain ⟨⟨n0, n1⟩, hdk⟩ : (4 ≤ c.n ∧ c.n ≤ 64) ∧ KeysOk c.decs := ⟨⟨hf.ok.n0, hf.ok.n1⟩, hf.decs.1.ok⟩
  clear h h1 h3 hr hA hkk hz2 hk0
  go_enter Try.func75, Try.ntmps75
  go_wp2_with (first | (go_at_call 60; refine (keysM_any _ _).mono ?_; rintro e w' ⟨rfl, rfl⟩) | (go_at_call 59; refine cS.mono ?_; rintro e w1 ⟨v, rfl, hz1, hb1⟩; obtain ⟨A, cap, rfl, hcap, hcells⟩ := id hz1))
  have HC := hid hcells
  clear hcells hz1 cS c9
  go_loopw [14] (fun i wr => ∃ k : Nat, i = .int .i64 k ∧ k ≤ (CoreM.keys z).length ∧ ((CoreM.keys z).take k).findSome? c.agreed = none ∧ Below w1.heap.size w1 wr)
    (fun i _ => (CoreM.keys z).length - (intOf i).toNat)
  case atStart => exact ⟨0, rfl, Nat.zero_le _, rfl, Below.refl _ _⟩
  case round =>
    obtain ⟨k, rfl, hkl, hnone, hbr⟩ := hrel
    have hbw := hb1.trans (hbr.mono hb1.size)
    by_cases hlt2 : k < (CoreM.keys z).length
    · obtain ⟨bz, rfl, hbz, hcell⟩ := HC.out (by omega)
      obtain ⟨view, hwho⟩ : ∃ view, (CoreM.keys z)[k]? = some view := ⟨_, List.getElem?_eq_getElem hlt2⟩
      have g0 : wr.cell? ⟨bz, k, none⟩ = some (.int .i64 view) := by
        have := hcell k view hwho
        exact (hbr.cell (p := ⟨bz, k, none⟩) (World.block_lt_of_cell? w1 _ this)).trans this
      have hgo : ∀ (o : Option (List UInt8)), c.agreed view = o → ((CoreM.keys z).take (k + 1)).findSome? c.agreed = o := fun o ho => by
        rw [List.take_succ_eq_append_getElem hlt2, List.findSome?_append, hnone, Option.none_or]
        have : (CoreM.keys z)[k] = view := by have := hwho; rw [List.getElem?_eq_getElem hlt2] at this; simpa using this
        rw [List.findSome?_cons, this, ho]
        cases o <;> rfl
      have HGO := hid hgo
      have cA := HA.out view _ hbw
      clear hgo hcell hnone hwho
      cases hag : c.agreed view with
      | none =>
        rw [hag] at cA
        have hn := HGO.out none hag
        have HN := hid hn
        clear hag hn
        go_wp2_with (go_at_call 88; refine cA.mono ?_; rintro e w2 ⟨v, rfl, hv2, hb2⟩)
        go_roundw
        case rel => exact ⟨k + 1, by go_num, hlt2, HN.out, hbr.trans (hb2.mono hbr.size)⟩
        case measure => simp [intOf]; omega
      | some l =>
        rw [hag] at cA
        have hd : c.decide_ = some { c with decided := true, value := l } := by
          unfold CoreM.decide_
          rw [HKK.out, ← List.take_append_drop (k + 1) (CoreM.keys z), List.findSome?_append, HGO.out _ hag, Option.some_or]
        have HD := hid hd
        clear hag hd
        go_wp2_with (go_at_call 88; refine cA.mono ?_; rintro e w2 ⟨v, rfl, hv2, hb2⟩; obtain ⟨A2, cap2, rfl, _⟩ := id hv2; have f15 : w2.frozen? ⟨b, 15, none⟩ = false := (H.out.below (hbw.trans (hb2.mono hbw.size))).frozen 15; have f16 : w2.frozen? ⟨b, 16, none⟩ = false := (H.out.below (hbw.trans (hb2.mono hbw.size))).frozen 16; have g15 : w2.cell? ⟨b, 15, none⟩ = some (.bool c.decided) := (H.out.below (hbw.trans (hb2.mono hbw.size))).cell 15; have g16 : w2.cell? ⟨b, 16, none⟩ = some vv := (H.out.below (hbw.trans (hb2.mono hbw.size))).cell 16)
        go_ret
        refine ⟨by rw [HD.out]; rfl, ?_⟩
        rw [HD.out]
        exact decided_close H.out (hbw.trans (hb2.mono hbw.size)) (hv2.below hb2) (.inl rfl)
    · have hnn : (CoreM.keys c.comms).findSome? c.agreed = none := by
        have hk' : k = (CoreM.keys z).length := by omega
        rw [HKK.out, ← List.take_length (l := CoreM.keys z), ← hk']
        exact hnone
      have HNN := hid hnn
      clear hnn hnone
      have h0 := (H.out.below hbw).cell 0
      have h12 := (H.out.below hbw).cell 12
      simp only [coreCells, List.getElem?_toArray, List.getElem?_cons_zero, List.getElem?_cons_succ] at h0 h12
      have hdecs := (H.out.below hbw).decs
      have q1 : IntKind.i64.wrap (c.n - 1) = c.n - 1 := IntWalk.i64_in _ (by omega)
      have q2 : (c.n - 1).tdiv 3 = (c.n - 1) / 3 := Int.tdiv_eq_ediv_of_nonneg (by omega)
      have q3 : IntKind.i64.wrap ((c.n - 1) / 3) = (c.n - 1) / 3 := IntWalk.i64_in _ (by omega)
      have q4 : IntKind.i64.wrap ((c.n - 1) / 3 + 1) = (c.n - 1) / 3 + 1 := IntWalk.i64_in _ (by omega)
      go_wp2_with fail
      go_region_held3 (fun W => W.cell? ⟨b, 0, none⟩ = some (.int .i64 c.n) ∧ W.cell? ⟨b, 12, none⟩ = some (.map (some bd)))
        (first
          | exact ⟨h0, h12⟩
          | exact ⟨g0, g12⟩
          | exact ⟨by rw [World.cell?_setCell_other _ _ _ _ (by simp)]; exact g0, by rw [World.cell?_setCell_other _ _ _ _ (by simp)]; exact g12⟩
          | exact ⟨by rw [World.cell?_setCell_other _ _ _ _ (by simp), World.cell?_setCell_other _ _ _ _ (by simp)]; exact g0, by rw [World.cell?_setCell_other _ _ _ _ (by simp), World.cell?_setCell_other _ _ _ _ (by simp)]; exact g12⟩)
        (first | (go_at_call 89; refine (count_any bd c.decs _ (fun k => ρ k = (i, 2, 0)) _ (hdecs.2.keep (Off.refl (fun _ => False) _).drew (fun f => f) (fun _ _ _ f => f)) hdk).mono ?_; rintro e w2 ⟨v, rfl, hv2, hb2⟩; obtain ⟨A2, cap2, rfl, _⟩ := id hv2; have hbx := hbw.trans ((below_drew_l hb2).mono hbw.size); have f15 : w2.frozen? ⟨b, 15, none⟩ = false := (H.out.below hbx).frozen 15; have f16 : w2.frozen? ⟨b, 16, none⟩ = false := (H.out.below hbx).frozen 16; have g15 : w2.cell? ⟨b, 15, none⟩ = some (.bool c.decided) := (H.out.below hbx).cell 15; have g16 : w2.cell? ⟨b, 16, none⟩ = some vv := (H.out.below hbx).cell 16; have g0 : w2.cell? ⟨b, 0, none⟩ = some (.int .i64 c.n) := (H.out.below hbx).cell 0; have g12 : w2.cell? ⟨b, 12, none⟩ = some (.map (some bd)) := (H.out.below hbx).cell 12))
      all_goals
        go_wp2
        go_ret
        have hcl := decided_close H.out hbx (hv2.below hb2) (.inr (Eq.refl ((w2.setCell ⟨b, 16, none⟩ (Value.slice A2 ((CoreM.count c.decs ((c.n - 1) / 3 + 1)).getD []).length cap2)).setCell ⟨b, 15, none⟩ (Value.bool (CoreM.count c.decs ((c.n - 1) / 3 + 1)).isSome))))
        have hd : c.decide_ = (CoreM.count c.decs ((c.n - 1) / 3 + 1)).map fun v => { c with decided := true, value := v } := by
          unfold CoreM.decide_ CoreM.f
          rw [HNN.out]
          cases CoreM.count c.decs ((c.n - 1) / 3 + 1) <;> rfl
        refine ⟨by rw [hd, Option.isSome_map]; rfl, ?_⟩
        rw [hd]
        cases hcc : CoreM.count c.decs ((c.n - 1) / 3 + 1) with
        | none => rw [hcc] at hcl; exact hcl
        | some l => rw [hcc] at hcl; exact hcl
end Go.Proofs.Ytkkmkkgjpmlhaaa
