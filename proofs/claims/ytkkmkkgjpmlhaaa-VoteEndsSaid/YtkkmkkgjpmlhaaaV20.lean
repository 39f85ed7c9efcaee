/- Says: what it told. -/
import Derived.Test.YtkkmkkgjpmlhaaaV19
import Derived.Deep.DeepCutAuto
namespace Go.Proofs.Ytkkmkkgjpmlhaaa
open Go.RowKit Go.MapKept

theorem own_below {w w1 : World} {base n size : Nat} {e : TypeId} {v : Value} {xs : List Value} (h : w.ownsRow base e size v n xs) (hb : Below w.heap.size w w1) : w1.ownsRow base e size v n xs :=
  h.kept (row := none) ⟨hb.os, hb.tape, hb.output, hb.size, fun k hk _ => hb.block k hk⟩ (by cases h : v.ownBlock <;> simp)

/-- The append of one vote, laid in a block of its own first. -/
theorem Vs.one {w w3 : World} {base : Nat} {v s : Value} {l : List Vote} (x : Vote) (h : Vs w base v l) (hb : Below w.heap.size w w3) (hbase : base ≤ w.heap.size) (hs : Bs w3 (fun k => w.heap.size ≤ k) s x.value) (hl : l.length ≤ 1099511627776) :
    ∃ A' n' c' w4, (Builtin.append_ #[42, 42] 42 #[v, .slice (some ⟨w3.heap.size, 0, none⟩) 1 1]).run Try.prog (w3.alloc (.cells #[.int .i64 x.kind, .int .i64 x.frm, .int .i64 x.slot, .int .i64 x.view, .int .i64 x.valid, s] 31)) = .ok (.slice A' n' c') w4 ∧
      Vs w4 base (.slice A' n' c') (l ++ [x]) ∧ Below base w w4 ∧ Off (fun k => v.ownBlock = some k) w w4 := by
  obtain ⟨i0, hi0, hq0, hq1, hq2⟩ := info_parts info_vote
  obtain ⟨z, hl0, hown, hbs⟩ := id h
  have hsz := hb.size
  obtain ⟨gg, cap4, w4, hrun4, hown4, hgrow4, hat4, hlt4⟩ := run_append_lies (P := Try.prog) (w3.alloc (.cells #[.int .i64 x.kind, .int .i64 x.frm, .int .i64 x.slot, .int .i64 x.view, .int .i64 x.valid, s] 31)) 42 42 base 31 i0 _ 6 64 Try.underlying42 hi0 hq0 hq1 hq2 rfl (by omega) v l.length _ ((own_below hown hb).alloc _) ⟨w3.heap.size, 0, none⟩ 1 1 (voteCells s x) (by rfl)
    (World.news_of_block (t := 31) (fr := (0, 0)) (heap_alloc_new _ _)) (voteCells_one hs) (by omega) (by unfold maxLen; omega) (by omega) (by simp; omega) (w3.heap.size + 1) (by simp)
  refine ⟨_, _, cap4, w4, hrun4, Vs.push (w3 := w3.alloc (.cells #[.int .i64 x.kind, .int .i64 x.frm, .int .i64 x.slot, .int .i64 x.view, .int .i64 x.valid, s] 31)) hl0 hown hbs (hb.alloc hsz _) hbase (hs.below ((Below.refl _ w3).alloc (Nat.le_refl _) _)) hown4 hgrow4 (hat4.imp id (fun e => by simp; omega)), ?_⟩
  exact ⟨((hb.mono hbase).alloc (by omega) _).grown hgrow4 (by simp; omega) (fun k hk => (hown.lt k hk).1), ((Off.of_below (F := fun k => v.ownBlock = some k) hb).alloc _).grown hgrow4 (fun b hb _ => hb)⟩

/-- The append of a slice of votes. -/
theorem Vs.two {w : World} {base n : Nat} {v v2 : Value} {l l2 : List Vote} (h : Vs w base v l) (hbn : base ≤ n) (h2 : Vs w n v2 l2) (hkn : ∀ k, v.ownBlock = some k → k < n) (hbytes : l.length + l2.length ≤ 1099511627776) (hbase : base ≤ w.heap.size) :
    ∃ A' n' c' w4, (Builtin.append_ #[42, 42] 42 #[v, v2]).run Try.prog w = .ok (.slice A' n' c') w4 ∧ Vs w4 base (.slice A' n' c') (l ++ l2) ∧ Below base w w4 := by
  obtain ⟨i0, hi0, hq0, hq1, hq2⟩ := info_parts info_vote
  obtain ⟨A', c', w', h3, h4, h5⟩ := run_append_vs (P := Try.prog) w base n 42 42 i0 Try.underlying42 hi0 hq0 hq1 hq2 v v2 l l2 h hbn h2 hkn hbytes hbase
  exact ⟨A', _, c', w', h3, h4, (Below.refl base w).grown h5 hbase (fun k hk => (h.lt k hk).1)⟩

theorem mine_len {c : CoreM} {kind : Int} {t : TM} (ht : TMFine t) : (c.mine kind t).length ≤ 4294967297 := by
  refine Nat.le_trans (List.length_filterMap_le _ _) ?_
  rw [length_keys]
  have := nodup_length 4294967297 (t.map (·.1)) ht.1.1 (fun x hx => by obtain ⟨p, hp, rfl⟩ := List.mem_map.1 hx; have := ht.1.2 p hp; omega)
  rwa [List.length_map] at this

theorem Vs.form {w : World} {base : Nat} {v : Value} {l : List Vote} (h : Vs w base v l) : ∃ A n c', v = .slice A n c' := by obtain ⟨A, c', h⟩ := h.slice; exact ⟨A, _, c', h⟩

set_option maxRecDepth 100000 in
set_option maxHeartbeats 4000000 in
theorem says_any {ρ : Roles} {i b fid : Nat} {c : CoreM} (w : World) (h : CoreAt w ρ i b fid c) (hf : c.Fine) :
    Calls Try.prog 22 #[.pointer (some ⟨b, 0, none⟩)] w (VsPost w c.says) := by
  have cP := fun W (hW : Below w.heap.size w W) => proposer_any c.view W (h.below hW) hf.ok hf.ok.view0 hf.ok.view1
  have cM2 := fun W (hW : Below w.heap.size w W) (bm : Nat) (hm : Outer W ρ i 10 bm c.preps) => mine_any 2 W (h.below hW) hm hf.preps
  have cM3 := fun W (hW : Below w.heap.size w W) (bm : Nat) (hm : Outer W ρ i 11 bm c.comms) => mine_any 3 W (h.below hW) hm hf.comms
  obtain ⟨vw, vl, vv, bp, b1, b2, b3, bs, bd, h⟩ := h
  have H := hid h
  have HF := hid hf
  have HP := hid cP
  have HM2 := hid cM2
  have HM3 := hid cM3
  have c1 := h.cell 1
  have c2 := h.cell 2
  have c4 := h.cell 4
  have c15 := h.cell 15
  have c16 := h.cell 16
  simp only [coreCells, List.getElem?_toArray, List.getElem?_cons_zero, List.getElem?_cons_succ] at c1 c2 c4 c15 c16
  have hlt := h.lt
  obtain ⟨i0, hi0, hq0, hq1, hq2⟩ := info_parts info_vote
  clear h hf cP cM2 cM3
  go_enter Try.func22, Try.ntmps22
  go_upto_if 11 with fail
  go_cut [3] (fun o wx => Vs wx w.heap.size o [c.word] ∧ Below w.heap.size w wx)
  case first =>
    cases hd : c.decided with
    | true =>
      rw [hd] at c15
      have hn : c.word = ⟨4, c.me, c.slot, 0, -1, c.value⟩ := by unfold CoreM.word; rw [if_pos hd]
      have HN := hid hn
      clear hn hd
      have hS : ∀ W, Below w.heap.size w W → W.cell? ⟨b, 1, none⟩ = some (.int .i64 c.me) ∧ W.cell? ⟨b, 2, none⟩ = some (.int .i64 c.slot) ∧ W.cell? ⟨b, 16, none⟩ = some vv ∧ Below w.heap.size w W := fun W hW => ⟨(hW.cell (p := ⟨b, 1, none⟩) hlt).trans c1, (hW.cell (p := ⟨b, 2, none⟩) hlt).trans c2, (hW.cell (p := ⟨b, 16, none⟩) hlt).trans c16, hW⟩
      have HS := hid hS
      clear hS
      go_wp2_with fail
      go_region_held3 (fun W => W.cell? ⟨b, 1, none⟩ = some (.int .i64 c.me) ∧ W.cell? ⟨b, 2, none⟩ = some (.int .i64 c.slot) ∧ W.cell? ⟨b, 16, none⟩ = some vv ∧ Below w.heap.size w W)
        (first | exact HS.out _ (Below.refl _ _).drew | exact HS.out _ hb3' | exact HS.out _ (hb3'.alloc hb3'.size _) | exact HS.out _ hb4)
        (first | (go_at_call 52; refine (clone_any _ (H.out.value.drew) HF.out.value.lim).mono ?_; rintro e w3 ⟨v', rfl, hv3, hb3⟩; obtain ⟨A3, c3, rfl, _⟩ := id hv3; have hb3' := below_drew_l hb3; obtain ⟨A4, n4, cap4, w4, hrun4, hvs4, hb4, ho4⟩ := Vs.one (⟨4, c.me, c.slot, 0, -1, c.value⟩ : Vote) (Vs.nil w w.heap.size) hb3' (Nat.le_refl _) hv3 (by simp)) | (refine step_append_run (by rfl) _ _ 42 (by rfl) (by rfl) (by rfl) hrun4 ?_))
      all_goals
        go_wp2
        go_meet
        case rel => rw [HN.out]; exact ⟨hvs4, hb4⟩
    | false =>
      rw [hd] at c15
      have hn : c.word = ⟨5, c.me, c.slot, c.view, -1, []⟩ := by unfold CoreM.word; rw [hd]; rfl
      have HN := hid hn
      clear hn hd
      have hS : ∀ W, Below w.heap.size w W → W.cell? ⟨b, 1, none⟩ = some (.int .i64 c.me) ∧ W.cell? ⟨b, 2, none⟩ = some (.int .i64 c.slot) ∧ W.cell? ⟨b, 4, none⟩ = some (.int .i64 c.view) ∧ Below w.heap.size w W := fun W hW => ⟨(hW.cell (p := ⟨b, 1, none⟩) hlt).trans c1, (hW.cell (p := ⟨b, 2, none⟩) hlt).trans c2, (hW.cell (p := ⟨b, 4, none⟩) hlt).trans c4, hW⟩
      have HS := hid hS
      clear hS
      obtain ⟨A4, n4, cap4, w4, hrun4, hvs4, hb4, ho4⟩ := Vs.one (⟨5, c.me, c.slot, c.view, -1, []⟩ : Vote) (Vs.nil w w.heap.size) (Below.refl _ w).drew (Nat.le_refl _) (Bs.nil _ _) (by simp)
      dsimp only at hrun4
      change Sem.run Try.prog _ (World.drew (w.alloc _)) = _ at hrun4
      change Sem.run Try.prog (Builtin.append_ _ _ #[_, .slice (some ⟨w.heap.size, 0, none⟩) 1 1]) _ = _ at hrun4
      go_wp2_with fail
      go_region_held3 (fun W => W.cell? ⟨b, 1, none⟩ = some (.int .i64 c.me) ∧ W.cell? ⟨b, 2, none⟩ = some (.int .i64 c.slot) ∧ W.cell? ⟨b, 4, none⟩ = some (.int .i64 c.view) ∧ Below w.heap.size w W)
        (first | exact HS.out _ (Below.refl _ _).drew | exact HS.out _ ((Below.refl _ w).drew.alloc (Nat.le_refl _) _) | exact HS.out _ hb4)
        (first | (refine step_append_run (by rfl) _ _ 42 (by rfl) (by rfl) (by rfl) hrun4 ?_))
      all_goals
        go_wp2
        go_meet
        case rel => rw [HN.out]; exact ⟨hvs4, hb4⟩
  case rest =>
    obtain ⟨wo, rfl⟩ : ∃ wo : World, wo = wc := ⟨_, rfl⟩
    obtain ⟨hvs, hbw⟩ := hcut
    obtain ⟨Ao, no, co, rfl⟩ := hvs.form
    obtain ⟨A1, n1, m1, x1, hf1, hp1⟩ := (H.out.below hbw).props.find c.view
    have hltc := (H.out.below hbw).lt
    have hS : ∀ W, Below wo.heap.size wo W → W.cell? ⟨b, 4, none⟩ = some (.int .i64 c.view) ∧ W.cell? ⟨b, 7, none⟩ = some (.map (some bp)) ∧ (Instr.lookup 94 (.map (some bp)) (.int .i64 c.view) true).run Try.prog W = .ok (.tuple #[.agg #[.slice A1 n1 m1, .int .i64 x1], .bool (c.props.lookup c.view).isSome]) W ∧ Below wo.heap.size wo W :=
      fun W hW => ⟨((H.out.below hbw).below hW).cell 4, ((H.out.below hbw).below hW).cell 7, hf1 W hW, hW⟩
    have HS := hid hS
    have HP1 := hid hp1
    have HVS := hid hvs
    clear hS hf1 hp1 hvs c1 c2 c4 c15 c16 hlt
    go_upto_region 7 with fail
    go_cut [4, 5] (fun p t wx => p = .pointer (some ⟨wo.heap.size, 0, none⟩) ∧ (∃ tb, t = .bool tb ∧ Hid (tb = (c.props.lookup c.view).isSome)) ∧ wx.cell? ⟨wo.heap.size, 0, none⟩ = some (.slice A1 n1 m1) ∧ wx.cell? ⟨wo.heap.size, 1, none⟩ = some (.int .i64 x1) ∧ Below wo.heap.size wo wx ∧ wo.heap.size < wx.heap.size)
    case first =>
      go_region_held3 (fun W => W.cell? ⟨b, 4, none⟩ = some (.int .i64 c.view) ∧ W.cell? ⟨b, 7, none⟩ = some (.map (some bp)) ∧ (Instr.lookup 94 (.map (some bp)) (.int .i64 c.view) true).run Try.prog W = .ok (.tuple #[.agg #[.slice A1 n1 m1, .int .i64 x1], .bool (c.props.lookup c.view).isSome]) W ∧ Below wo.heap.size wo W)
        (first | exact HS.out _ (Below.refl _ _).drew | exact HS.out _ ((Below.refl _ wo).drew.alloc (Nat.le_refl _) _) | exact HS.out _ (((Below.refl _ wo).drew.alloc (Nat.le_refl _) _).setCell (Nat.le_refl _) _))
        (fail)
      all_goals
        go_wp2
        go_meet
        case rel => exact ⟨rfl, ⟨_, rfl, hid rfl⟩, cell_alloc_new wo _ _ _ _ rfl, cell_alloc_new wo _ _ _ _ rfl, ((Below.refl wo.heap.size wo).alloc (Nat.le_refl _) _).drew, by show _ < (wo.alloc _).heap.size; simp⟩
    case rest =>
      obtain ⟨rfl, ⟨tb, rfl, htb⟩, q0, q1, hbx, hk0⟩ := hcut
      obtain ⟨WX, rfl⟩ : ∃ WX : World, WX = wc := ⟨_, rfl⟩
      have hbX : Below w.heap.size w WX := hbw.trans (hbx.mono hbw.size)
      have hvX := HVS.out.below hbx
      have d1 : WX.cell? ⟨b, 1, none⟩ = some (.int .i64 c.me) := (H.out.below hbX).cell 1
      have d2 : WX.cell? ⟨b, 2, none⟩ = some (.int .i64 c.slot) := (H.out.below hbX).cell 2
      have d4 : WX.cell? ⟨b, 4, none⟩ = some (.int .i64 c.view) := (H.out.below hbX).cell 4
      have d15 : WX.cell? ⟨b, 15, none⟩ = some (.bool c.decided) := (H.out.below hbX).cell 15
      have hltX := (H.out.below hbX).lt
      have HV := hid hvX
      clear hvX
      cases hp : c.props.lookup c.view with
      | none =>
        obtain rfl : tb = false := by rw [htb.out, hp]; rfl
        have hof : c.offer = [] := by unfold CoreM.offer; rw [hp]
        have HOF := hid hof
        clear hof hp
        go_wp2_with fail
        go_quiet (fail)
        have hbW : Below w.heap.size w (WX.drewN nq) := (Off.drewN (Off.of_below (F := fun _ => False) hbX) _).below
        have hvW : Vs (WX.drewN nq) w.heap.size (.slice Ao no co) [c.word] := HV.out.below (Off.drewN (Off.refl (fun _ => False) WX) _).below
        clear d1 d2 d4 d15 q0 q1
        generalize WX.drewN nq = W2 at hbW hvW ⊢
        have hb9 := (H.out.below hbW).cell 9
        have hb8 := (H.out.below hbW).cell 8
        simp only [coreCells, List.getElem?_toArray, List.getElem?_cons_zero, List.getElem?_cons_succ] at hb8 hb9
        have hO2 := hid (H.out.below hbW).preps
        have hl2 := mine_len (c := c) (kind := 2) HF.out.preps
        have hl3 := mine_len (c := c) (kind := 3) HF.out.comms
        go_wp2_with (first | (at_builtin; refine wpList_append_vs _ rfl _ _ 42 rfl w.heap.size w6.heap.size i0 Try.underlying42 hi0 hq0 hq1 hq2 _ v7 _ _ rfl rfl (hvs6.below hb7) hbw6.size hv7 (fun k hk => (hvs6.lt k hk).2) (by simp; omega) (Nat.le_trans hbw6.size hb7.size) ?_; intro A8 n8 c8 w8 hvs8 hb8'; have hbw8 : Below w.heap.size w w8 := (hbw6.trans (hb7.mono hbw6.size)).trans hb8') | (at_builtin; refine wpList_append_vs _ rfl _ _ 42 rfl w.heap.size W2.heap.size i0 Try.underlying42 hi0 hq0 hq1 hq2 _ v5 _ _ rfl rfl (hvW.below hb5) hbW.size hv5 (fun k hk => (hvW.lt k hk).2) (by simp; omega) (Nat.le_trans hbW.size hb5.size) ?_; intro A6 n6 c6 w6 hvs6 hb6; have hbw6 : Below w.heap.size w w6 := (hbW.trans (hb5.mono hbW.size)).trans hb6; have g9 : w6.cell? ⟨b, 9, none⟩ = some (.map (some b2)) := (H.out.below hbw6).cell 9) | (go_at_call 49; refine (HM3.out _ hbw6 b2 (H.out.below hbw6).comms).mono ?_; rintro e w7 ⟨v7, rfl, hv7, hb7⟩) | (go_at_call 49; refine (HM2.out _ hbW b1 hO2.out).mono ?_; rintro e w5 ⟨v5, rfl, hv5, hb5⟩))
        go_ret
        exact ⟨_, rfl, by unfold CoreM.says; rw [HOF.out]; simpa using hvs8, hbw8⟩
      | some p =>
        obtain rfl : tb = true := by rw [htb.out, hp]; rfl
        cases hd : c.decided with
        | true =>
          rw [hd] at d15
          have hof : c.offer = [] := by unfold CoreM.offer; rw [hp, hd]; rfl
          have HOF := hid hof
          clear hof hp hd
          go_wp2_with fail
          go_quiet (fail)
          have hbW : Below w.heap.size w (WX.drewN nq) := (Off.drewN (Off.of_below (F := fun _ => False) hbX) _).below
          have hvW : Vs (WX.drewN nq) w.heap.size (.slice Ao no co) [c.word] := HV.out.below (Off.drewN (Off.refl (fun _ => False) WX) _).below
          clear d1 d2 d4 d15 q0 q1
          generalize WX.drewN nq = W2 at hbW hvW ⊢
          have hb9 := (H.out.below hbW).cell 9
          have hb8 := (H.out.below hbW).cell 8
          simp only [coreCells, List.getElem?_toArray, List.getElem?_cons_zero, List.getElem?_cons_succ] at hb8 hb9
          have hO2 := hid (H.out.below hbW).preps
          have hl2 := mine_len (c := c) (kind := 2) HF.out.preps
          have hl3 := mine_len (c := c) (kind := 3) HF.out.comms
          go_wp2_with (first | (at_builtin; refine wpList_append_vs _ rfl _ _ 42 rfl w.heap.size w6.heap.size i0 Try.underlying42 hi0 hq0 hq1 hq2 _ v7 _ _ rfl rfl (hvs6.below hb7) hbw6.size hv7 (fun k hk => (hvs6.lt k hk).2) (by simp; omega) (Nat.le_trans hbw6.size hb7.size) ?_; intro A8 n8 c8 w8 hvs8 hb8'; have hbw8 : Below w.heap.size w w8 := (hbw6.trans (hb7.mono hbw6.size)).trans hb8') | (at_builtin; refine wpList_append_vs _ rfl _ _ 42 rfl w.heap.size W2.heap.size i0 Try.underlying42 hi0 hq0 hq1 hq2 _ v5 _ _ rfl rfl (hvW.below hb5) hbW.size hv5 (fun k hk => (hvW.lt k hk).2) (by simp; omega) (Nat.le_trans hbW.size hb5.size) ?_; intro A6 n6 c6 w6 hvs6 hb6; have hbw6 : Below w.heap.size w w6 := (hbW.trans (hb5.mono hbW.size)).trans hb6; have g9 : w6.cell? ⟨b, 9, none⟩ = some (.map (some b2)) := (H.out.below hbw6).cell 9) | (go_at_call 49; refine (HM3.out _ hbw6 b2 (H.out.below hbw6).comms).mono ?_; rintro e w7 ⟨v7, rfl, hv7, hb7⟩) | (go_at_call 49; refine (HM2.out _ hbW b1 hO2.out).mono ?_; rintro e w5 ⟨v5, rfl, hv5, hb5⟩))
          go_ret
          exact ⟨_, rfl, by unfold CoreM.says; rw [HOF.out]; simpa using hvs8, hbw8⟩
        | false =>
          rw [hd] at d15
          cases hq : c.proposer c.view == c.me with
          | false =>
            have hof : c.offer = [] := by unfold CoreM.offer; rw [hp, hd, hq]; rfl
            have HOF := hid hof
            clear hof hp hd
            go_wp2_with fail
            go_quiet ((go_at_call 53; exact Calls.quiet_of (HP.out _ (Off.drewN (Off.of_below (F := fun _ => False) hbX) _).below)))
            have hbW : Below w.heap.size w (WX.drewN nq) := (Off.drewN (Off.of_below (F := fun _ => False) hbX) _).below
            have hvW : Vs (WX.drewN nq) w.heap.size (.slice Ao no co) [c.word] := HV.out.below (Off.drewN (Off.refl (fun _ => False) WX) _).below
            clear d1 d2 d4 d15 q0 q1 hq
            generalize WX.drewN nq = W2 at hbW hvW ⊢
            have hb9 := (H.out.below hbW).cell 9
            have hb8 := (H.out.below hbW).cell 8
            simp only [coreCells, List.getElem?_toArray, List.getElem?_cons_zero, List.getElem?_cons_succ] at hb8 hb9
            have hO2 := hid (H.out.below hbW).preps
            have hl2 := mine_len (c := c) (kind := 2) HF.out.preps
            have hl3 := mine_len (c := c) (kind := 3) HF.out.comms
            go_wp2_with (first | (at_builtin; refine wpList_append_vs _ rfl _ _ 42 rfl w.heap.size w6.heap.size i0 Try.underlying42 hi0 hq0 hq1 hq2 _ v7 _ _ rfl rfl (hvs6.below hb7) hbw6.size hv7 (fun k hk => (hvs6.lt k hk).2) (by simp; omega) (Nat.le_trans hbw6.size hb7.size) ?_; intro A8 n8 c8 w8 hvs8 hb8'; have hbw8 : Below w.heap.size w w8 := (hbw6.trans (hb7.mono hbw6.size)).trans hb8') | (at_builtin; refine wpList_append_vs _ rfl _ _ 42 rfl w.heap.size W2.heap.size i0 Try.underlying42 hi0 hq0 hq1 hq2 _ v5 _ _ rfl rfl (hvW.below hb5) hbW.size hv5 (fun k hk => (hvW.lt k hk).2) (by simp; omega) (Nat.le_trans hbW.size hb5.size) ?_; intro A6 n6 c6 w6 hvs6 hb6; have hbw6 : Below w.heap.size w w6 := (hbW.trans (hb5.mono hbW.size)).trans hb6; have g9 : w6.cell? ⟨b, 9, none⟩ = some (.map (some b2)) := (H.out.below hbw6).cell 9) | (go_at_call 49; refine (HM3.out _ hbw6 b2 (H.out.below hbw6).comms).mono ?_; rintro e w7 ⟨v7, rfl, hv7, hb7⟩) | (go_at_call 49; refine (HM2.out _ hbW b1 hO2.out).mono ?_; rintro e w5 ⟨v5, rfl, hv5, hb5⟩))
            go_ret
            exact ⟨_, rfl, by unfold CoreM.says; rw [HOF.out]; simpa using hvs8, hbw8⟩
          | true =>
            have hof : c.offer = [⟨1, c.me, c.slot, c.view, p.2, p.1⟩] := by unfold CoreM.offer; rw [hp, hd, hq]; rfl
            obtain ⟨hpb, rfl⟩ := HP1.out p hp
            have hsp : Short p.1 := (HF.out.propsV _ (lookup_mem hp)).1
            have HOF := hid hof
            clear hof hp hd
            go_wp2_with fail
            go_quiet ((go_at_call 53; exact Calls.quiet_of (HP.out _ (Off.drewN (Off.of_below (F := fun _ => False) hbX) _).below)))
            have hb0 : Below WX.heap.size WX (WX.drewN nq) := (Off.drewN (Off.refl (fun _ => False) WX) _).below
            have hS9 : ∀ W, Off (fun k => (Value.slice Ao no co).ownBlock = some k) WX W → W.cell? ⟨b, 1, none⟩ = some (.int .i64 c.me) ∧ W.cell? ⟨b, 2, none⟩ = some (.int .i64 c.slot) ∧ W.cell? ⟨b, 4, none⟩ = some (.int .i64 c.view) ∧ W.cell? ⟨wo.heap.size, 0, none⟩ = some (.slice A1 n1 m1) ∧ W.cell? ⟨wo.heap.size, 1, none⟩ = some (.int .i64 p.2) ∧ Off (fun k => (Value.slice Ao no co).ownBlock = some k) WX W := fun W hW => have hnb : ¬ (Value.slice Ao no co).ownBlock = some b := fun e => by { have h1 := (HVS.out.lt b e).1; have h2 := H.out.lt; omega }; have hn0 : ¬ (Value.slice Ao no co).ownBlock = some wo.heap.size := fun e => by { have h1 := (HVS.out.lt _ e).2; omega }; ⟨hW.cell_some d1 hnb, hW.cell_some d2 hnb, hW.cell_some d4 hnb, hW.cell_some q0 hn0, hW.cell_some q1 hn0, hW⟩
            have HS9 := hid hS9
            have hpb3 := (hpb.below hbx).below hb0
            have hv0 := HV.out.below hb0
            clear hS9 d1 d2 d4 d15 q0 q1 hq hpb
            generalize WX.drewN nq = W2 at hb0 hpb3 hv0 ⊢
            go_wp2_with fail
            go_region_held3 (fun W => W.cell? ⟨b, 1, none⟩ = some (.int .i64 c.me) ∧ W.cell? ⟨b, 2, none⟩ = some (.int .i64 c.slot) ∧ W.cell? ⟨b, 4, none⟩ = some (.int .i64 c.view) ∧ W.cell? ⟨wo.heap.size, 0, none⟩ = some (.slice A1 n1 m1) ∧ W.cell? ⟨wo.heap.size, 1, none⟩ = some (.int .i64 p.2) ∧ Off (fun k => (Value.slice Ao no co).ownBlock = some k) WX W)
              (first | exact HS9.out _ (Off.of_below hb0).drew | exact HS9.out _ (Off.of_below (hb0.trans (hb3'.mono hb0.size))) | exact HS9.out _ ((Off.of_below (hb0.trans (hb3'.mono hb0.size))).alloc _) | exact HS9.out _ ((Off.of_below hb0).trans ho4 (fun _ _ h => h)))
              (first | (go_at_call 52; refine (clone_any _ hpb3.drew hsp.lim).mono ?_; rintro e w3 ⟨v', rfl, hv3, hb3⟩; obtain ⟨A3, c3, rfl, _⟩ := id hv3; have hb3' := below_drew_l hb3; obtain ⟨A4, n4, cap4, w4, hrun4, hvs4, hb4, ho4⟩ := Vs.one (⟨1, c.me, c.slot, c.view, p.2, p.1⟩ : Vote) hv0 hb3' (Nat.le_trans hbX.size hb0.size) hv3 (by simp)) | (refine step_append_run (by rfl) _ _ 42 (by rfl) (by rfl) (by rfl) hrun4 ?_))
            all_goals
              have hbW : Below w.heap.size w w4 := ((hbX.trans (hb0.mono hbX.size))).trans hb4
              have hvW := hvs4
              clear hrun4
              have hb9 := (H.out.below hbW).cell 9
              have hb8 := (H.out.below hbW).cell 8
              simp only [coreCells, List.getElem?_toArray, List.getElem?_cons_zero, List.getElem?_cons_succ] at hb8 hb9
              have hO2 := hid (H.out.below hbW).preps
              have hl2 := mine_len (c := c) (kind := 2) HF.out.preps
              have hl3 := mine_len (c := c) (kind := 3) HF.out.comms
              go_wp2_with (first | (at_builtin; refine wpList_append_vs _ rfl _ _ 42 rfl w.heap.size w6.heap.size i0 Try.underlying42 hi0 hq0 hq1 hq2 _ v7 _ _ rfl rfl (hvs6.below hb7) hbw6.size hv7 (fun k hk => (hvs6.lt k hk).2) (by simp; omega) (Nat.le_trans hbw6.size hb7.size) ?_; intro A8 n8 c8 w8 hvs8 hb8'; have hbw8 : Below w.heap.size w w8 := (hbw6.trans (hb7.mono hbw6.size)).trans hb8') | (at_builtin; refine wpList_append_vs _ rfl _ _ 42 rfl w.heap.size w4.heap.size i0 Try.underlying42 hi0 hq0 hq1 hq2 _ v5 _ _ rfl rfl (hvW.below hb5) hbW.size hv5 (fun k hk => (hvW.lt k hk).2) (by simp; omega) (Nat.le_trans hbW.size hb5.size) ?_; intro A6 n6 c6 w6 hvs6 hb6; have hbw6 : Below w.heap.size w w6 := (hbW.trans (hb5.mono hbW.size)).trans hb6; have g9 : w6.cell? ⟨b, 9, none⟩ = some (.map (some b2)) := (H.out.below hbw6).cell 9) | (go_at_call 49; refine (HM3.out _ hbw6 b2 (H.out.below hbw6).comms).mono ?_; rintro e w7 ⟨v7, rfl, hv7, hb7⟩) | (go_at_call 49; refine (HM2.out _ hbW b1 hO2.out).mono ?_; rintro e w5 ⟨v5, rfl, hv5, hb5⟩))
              go_ret
              exact ⟨_, rfl, by unfold CoreM.says; rw [HOF.out]; simpa using hvs8, hbw8⟩
end Go.Proofs.Ytkkmkkgjpmlhaaa
