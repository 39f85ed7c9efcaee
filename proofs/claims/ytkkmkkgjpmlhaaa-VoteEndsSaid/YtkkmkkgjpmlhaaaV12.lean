/- agreed: the value that a quorum told as a Commit of a view, or as Decided. -/
import Derived.Test.YtkkmkkgjpmlhaaaV02
import Derived.Test.YtkkmkkgjpmlhaaaV06
import Derived.Deep.LoopGhost
import Derived.LoopTactic
namespace Go.Proofs.Ytkkmkkgjpmlhaaa
open Go.RowKit Go.MapKept

/-- Does a peer back the value? -/
def backs (ti td : List (Int × List UInt8)) (v : List UInt8) (q : Int) : Bool := ti.lookup q == some v || td.lookup q == some v
def backK (ti td : List (Int × List UInt8)) (v : List UInt8) (k : Nat) : Nat := ((List.range k).filter fun (p : Nat) => backs ti td v (Int.ofNat p + 1)).length
theorem backK_succ (ti td : List (Int × List UInt8)) (v : List UInt8) (k : Nat) : backK ti td v (k + 1) = backK ti td v k + if backs ti td v ((k : Int) + 1) then 1 else 0 := by
  unfold backK
  rw [List.range_succ, List.filter_append, List.length_append]
  congr 1
  simp only [List.filter_cons, List.filter_nil]
  split <;> rename_i h <;> split <;> rename_i h' <;> first | rfl | exact absurd h h' | exact absurd h' h
theorem backK_le (ti td : List (Int × List UInt8)) (v : List UInt8) (k : Nat) : backK ti td v k ≤ k := by
  unfold backK; exact Nat.le_trans (List.length_filter_le _ _) (by simp)

set_option maxRecDepth 100000 in
set_option maxHeartbeats 1000000 in
/-- Nothing was committed there. -/
theorem agreed_nothing {ρ : Roles} {i b fid : Nat} {c : CoreM} (view : Int) (w : World) (h : CoreAt w ρ i b fid c) (hv : c.comms.lookup view = none) :
    Calls Try.prog 88 #[.pointer (some ⟨b, 0, none⟩), .int .i64 view] w (OptPost w (fun k => ρ k = (i, 2, 0)) (c.agreed view)) := by
  obtain ⟨vw, vl, vv, bp, b1, b2, b3, bs, bd, h⟩ := h
  obtain ⟨hr, z, h1, hz2, h3⟩ := id h.comms
  have c9 := h.cell 9
  simp only [coreCells, List.getElem?_toArray, List.getElem?_cons_zero, List.getElem?_cons_succ] at c9
  have e1 : (Instr.lookup 95 (.map (some b2)) (.int .i64 view) false).run Try.prog w = .ok (.map none) w := by
    have := h1.lookup (P := Try.prog) Try.underlying95 Try.underlying3 (zero_told w) view false
    rw [lookup_mv, show z.lookup view = none from by rw [hz2, lookup_mv] at hv; simpa using hv] at this
    simpa using this
  have hr : c.agreed view = none := by unfold CoreM.agreed inner; rw [hv]; rfl
  have HR := hid hr
  clear hr h h1 h3
  go_enter Try.func88, Try.ntmps88
  go_wp2_with (first | (go_at_call 97; refine (keysT_any _ _).mono ?_; rintro e w' ⟨rfl, rfl⟩) | (go_at_call 59; refine (sortedT_nil _).mono ?_; rintro e w1 ⟨rfl, hb1⟩))
  go_loopw [24] (fun i wr => i = .int .i64 0 ∧ wr = w1) (fun _ _ => 0)
  case atStart => exact ⟨rfl, rfl⟩
  case round =>
    obtain ⟨rfl, rfl⟩ := hrel
    go_wp2
    go_ret2
    exact ⟨_, by rw [HR.out]; rfl, by rw [HR.out]; exact Bs.nil _ _, hb1⟩

set_option maxRecDepth 100000 in
set_option maxHeartbeats 4000000 in
theorem agreed_some_told {ρ : Roles} {i b fid : Nat} {c : CoreM} (view : Int) (w : World) (h : CoreAt w ρ i b fid c) (hf : c.Fine) (hv : (c.comms.lookup view).isSome = true) :
    Calls Try.prog 88 #[.pointer (some ⟨b, 0, none⟩), .int .i64 view] w (OptPost w (fun k => ρ k = (i, 2, 0)) (c.agreed view)) := by
  obtain ⟨vw, vl, vv, bp, b1, b2, b3, bs, bd, h⟩ := h
  obtain ⟨hr, z, h1, hz2, h3⟩ := id h.comms
  have hl1 : ∃ bi ti, z.lookup view = some (bi, ti) := by
    cases hz : z.lookup view with
    | none => rw [hz2, lookup_mv, hz] at hv; cases hv
    | some x => exact ⟨x.1, x.2, rfl⟩
  obtain ⟨bi, ti, hz⟩ := hl1
  obtain ⟨hri, zi, hi1, hi2, hi3⟩ := h3 _ (lookup_mem hz)
  dsimp only at hri hi1 hi2
  have hin : inner c.comms view = ti := by unfold inner; rw [hz2, lookup_mv, hz]; rfl
  obtain ⟨hrd, zd, hd1, hd2, hd3⟩ := id h.decs
  have c0 := h.cell 0
  have c9 := h.cell 9
  have c12 := h.cell 12
  simp only [coreCells, List.getElem?_toArray, List.getElem?_cons_zero, List.getElem?_cons_succ] at c0 c9 c12
  have hE1 : ∀ W, Below w.heap.size w W → (Instr.lookup 95 (.map (some b2)) (.int .i64 view) false).run Try.prog W = .ok (.map (some bi)) W := fun W hW => by
    have := (h1.below hW).lookup (P := Try.prog) Try.underlying95 Try.underlying3 (zero_told W) view false
    rw [lookup_mv, hz] at this
    simpa using this
  have hk0 : KeysOk zi := by have := (hf.comms.inner view).1.ok; rw [hin, hi2] at this; exact this.mv
  have cS := sortedT_any bi _ w hi1 (by simpa [mv] using hk0.1) hk0.to_mv.2
  rw [show SortedPost w (mv (·.1) zi) = SortedPost w zi from by unfold SortedPost; rw [keys_mv]] at cS
  have e1 := hE1 w (Below.refl _ _)
  have HE1 := hid hE1
  have H := hid h
  have hag : c.agreed view = (CoreM.keys zi).findSome? (c.backed view) := by unfold CoreM.agreed; rw [hin, hi2, keys_mv]
  have HAG := hid hag
  have hbk : ∀ who y, zi.lookup who = some y → c.backed view who = if ((backK ti c.decs y.2 c.n.toNat : Nat) : Int) ≥ c.n - (c.n - 1) / 3 then some y.2 else none := fun who y hy => by
    unfold CoreM.backed
    rw [hin, hi2, lookup_mv, hy]
    dsimp only [Option.map_some]
    unfold CoreM.backers backK backs CoreM.quorum
    rw [hin, hi2]
  have HBK := hid hbk
  have HI1 := hid hi1
  have HI2 := hid hi2
  have HI3 := hid hi3
  have HD1 := hid hd1
  have HD2 := hid hd2
  have HD3 := hid hd3
  obtain ⟨N, hN⟩ : ∃ N : Nat, c.n = N := ⟨c.n.toNat, by have := hf.ok.n0; omega⟩
  have HN := hid hN
  have n0 := hf.ok.n0
  have n1 := hf.ok.n1
  have hL : (CoreM.keys zi).length ≤ 17592186044416 := by rw [length_keys]; exact hk0.1
  clear h h1 hz2 h3 hz hi1 hi2 hi3 hd1 hd2 hd3 hE1 hag hbk hin hN hv hr hrd hri hk0
  go_enter Try.func88, Try.ntmps88
  go_wp2_with (first | (go_at_call 97; refine (keysT_any _ _).mono ?_; rintro e w' ⟨rfl, rfl⟩) | (go_at_call 59; refine cS.mono ?_; rintro e w1 ⟨v, rfl, hz1, hb1⟩; obtain ⟨A, cap, rfl, hcap, hcells⟩ := id hz1))
  have HC := hid hcells
  have hlt := H.out.lt
  have d0 := (hb1.cell (p := ⟨b, 0, none⟩) hlt).trans c0
  have d9 := (hb1.cell (p := ⟨b, 9, none⟩) hlt).trans c9
  have d12 := (hb1.cell (p := ⟨b, 12, none⟩) hlt).trans c12
  have e1' := HE1.out _ hb1
  clear hcells hz1 cS e1 c0 c9 c12
  go_loopw [24] (fun i wr => ∃ k : Nat, i = .int .i64 k ∧ k ≤ (CoreM.keys zi).length ∧ ((CoreM.keys zi).take k).findSome? (c.backed view) = none ∧ wr = w1)
    (fun i _ => (CoreM.keys zi).length - (intOf i).toNat)
  case atStart => exact ⟨0, rfl, Nat.zero_le _, rfl, rfl⟩
  case round =>
    obtain ⟨k, rfl, hkl, hnone, rfl⟩ := hrel
    by_cases hlt2 : k < (CoreM.keys zi).length
    · obtain ⟨bz, rfl, hbz, hcell⟩ := HC.out (by omega)
      obtain ⟨who, hwho⟩ : ∃ who, (CoreM.keys zi)[k]? = some who := ⟨_, List.getElem?_eq_getElem hlt2⟩
      have g0 := hcell k who hwho
      obtain ⟨y, hy⟩ := mem_keys.1 (List.mem_of_getElem? hwho)
      have hnd : (zi.map (·.1)).Nodup := by have := HI1.out.nodup; rwa [mv_keys] at this
      have hlk : zi.lookup who = some y := lookup_of_mem hnd hy
      have e2 : (Instr.lookup 98 (.map (some bi)) (.int .i64 who) false).run Try.prog wr = .ok y.1 wr := by
        have := (HI1.out.below hb1).lookup (P := Try.prog) Try.underlying98 Try.underlying3 (zero_bytes _) who false
        rw [lookup_mv, hlk] at this
        simpa using this
      have hby := HI3.out _ hy
      have ey := (hby.below hb1).convert
      have HBY := hid hby
      have HB := hid (HBK.out who y hlk)
      have HW := hid hwho
      have HNO := hid hnone
      clear hy hlk hwho hnone hcell hby
      go_wp2_with fail
      try go_frame
      obtain ⟨wo, rfl⟩ : ∃ wo : World, wo = wr := ⟨_, rfl⟩
      go_loopw [9, 10] (fun cn p wi => ∃ (k2 m : Nat) (q : Int), cn = .int .i64 m ∧ p = .int .i64 q ∧ Hid (m = backK ti c.decs y.2 k2) ∧ Hid (q = (k2 : Int) + 1) ∧ k2 ≤ N ∧ wi = wo)
        (fun _ p _ => (c.n + 1 - intOf p).toNat)
      case atStart => exact ⟨0, 0, 1, rfl, rfl, hid rfl, hid rfl, Nat.zero_le _, rfl⟩
      case round =>
        obtain ⟨k2, m, q, rfl, rfl, hm, hq, hk2, rfl⟩ := hrel
        have hm64 : m ≤ 64 := by rw [hm.out]; have := backK_le ti c.decs y.2 k2; have := HN.out; omega
        have hq1 : 1 ≤ q := by rw [hq.out]; omega
        have hq2 : q ≤ 65 := by have := hq.out; have := HN.out; omega
        by_cases hqn : q ≤ c.n
        · have hsucc := backK_succ ti c.decs y.2 k2
          rw [← hq.out, ← hm.out] at hsucc
          have e3 : ∃ A n cp bu, (Instr.lookup 98 (.map (some bi)) (.int .i64 q) true).run Try.prog wr = .ok (.tuple #[.slice A n cp, .bool bu]) wr ∧ ((bu = false ∧ ti.lookup q = none) ∨ (bu = true ∧ ∃ l, ti.lookup q = some l ∧ (convert 29 9 (.slice A n cp)).run Try.prog wr = .ok (.string ⟨l.toArray⟩) wr)) := by
            have := (HI1.out.below hb1).lookup (P := Try.prog) Try.underlying98 Try.underlying3 (zero_bytes _) q true
            rw [lookup_mv] at this
            rw [HI2.out, lookup_mv]
            cases hz : zi.lookup q with
            | none => rw [hz] at this; exact ⟨none, 0, 0, false, by simpa using this, .inl ⟨rfl, rfl⟩⟩
            | some x =>
              rw [hz] at this
              have hbx := HI3.out _ (lookup_mem hz)
              obtain ⟨A, cp, hx, _⟩ := id hbx
              have hcv := (hbx.below hb1).convert
              dsimp only at hx
              rw [hx] at hcv
              simp only [Option.map_some, Option.getD_some, Option.isSome_some, if_true, hx] at this
              exact ⟨A, _, cp, true, this, .inr ⟨rfl, _, rfl, hcv⟩⟩
          have e4 : ∃ A n cp bu, (Instr.lookup 98 (.map (some bd)) (.int .i64 q) true).run Try.prog wr = .ok (.tuple #[.slice A n cp, .bool bu]) wr ∧ ((bu = false ∧ c.decs.lookup q = none) ∨ (bu = true ∧ ∃ l, c.decs.lookup q = some l ∧ (convert 29 9 (.slice A n cp)).run Try.prog wr = .ok (.string ⟨l.toArray⟩) wr)) := by
            have := (HD1.out.below hb1).lookup (P := Try.prog) Try.underlying98 Try.underlying3 (zero_bytes _) q true
            rw [lookup_mv] at this
            rw [HD2.out, lookup_mv]
            cases hz : zd.lookup q with
            | none => rw [hz] at this; exact ⟨none, 0, 0, false, by simpa using this, .inl ⟨rfl, rfl⟩⟩
            | some x =>
              rw [hz] at this
              have hbx := HD3.out _ (lookup_mem hz)
              obtain ⟨A, cp, hx, _⟩ := id hbx
              have hcv := (hbx.below hb1).convert
              dsimp only at hx
              rw [hx] at hcv
              simp only [Option.map_some, Option.getD_some, Option.isSome_some, if_true, hx] at this
              exact ⟨A, _, cp, true, this, .inr ⟨rfl, _, rfl, hcv⟩⟩
          obtain ⟨A3, n3, m3, b3', e3, h3⟩ := e3
          obtain ⟨A4, n4, m4, b4', e4, h4⟩ := e4
          have hfin : ∀ bb : Bool, backs ti c.decs y.2 q = bb → Hid (m + (if bb then 1 else 0) = backK ti c.decs y.2 (k2 + 1)) ∧ Hid (q + 1 = ((k2 + 1 : Nat) : Int) + 1) ∧ k2 + 1 ≤ N := fun bb hbb => by
            rw [hbb] at hsucc
            refine ⟨hid hsucc.symm, hid ?_, ?_⟩
            · have := hq.out; omega
            · have := hq.out; have := HN.out; omega
          have HF := hid hfin
          clear hsucc hfin
          rcases h3 with ⟨rfl, h3⟩ | ⟨rfl, l3, h3, f3⟩ <;> rcases h4 with ⟨rfl, h4⟩ | ⟨rfl, l4, h4, f4⟩
          · have hb := HF.out false (by unfold backs; rw [h3, h4]; rfl)
            clear h3 h4
            go_wp2
            go_roundw
            case rel => exact ⟨k2 + 1, m, q + 1, rfl, rfl, hb.1, hb.2.1, hb.2.2, trivial⟩
            case measure => simp [intOf]; omega
          · cases hc4 : l4 == y.2
            · have hb := HF.out false (by unfold backs; rw [h3, h4]; simpa using hc4)
              clear h3 h4
              go_wp2
              go_roundw
              case rel => exact ⟨k2 + 1, m, q + 1, rfl, rfl, hb.1, hb.2.1, hb.2.2, trivial⟩
              case measure => simp [intOf]; omega
            · have hb := HF.out true (by unfold backs; rw [h3, h4]; simpa using hc4)
              clear h3 h4
              go_wp2
              go_roundw
              case rel => exact ⟨k2 + 1, m + 1, q + 1, by go_num, rfl, hb.1, hb.2.1, hb.2.2, trivial⟩
              case measure => simp [intOf]; omega
          · cases hc3 : l3 == y.2
            · have hb := HF.out false (by unfold backs; rw [h3, h4]; simpa using hc3)
              clear h3 h4
              go_wp2
              go_roundw
              case rel => exact ⟨k2 + 1, m, q + 1, rfl, rfl, hb.1, hb.2.1, hb.2.2, trivial⟩
              case measure => simp [intOf]; omega
            · have hb := HF.out true (by unfold backs; rw [h3, h4]; simpa using hc3)
              clear h3 h4
              go_wp2
              go_roundw
              case rel => exact ⟨k2 + 1, m + 1, q + 1, by go_num, rfl, hb.1, hb.2.1, hb.2.2, trivial⟩
              case measure => simp [intOf]; omega
          · cases hc3 : l3 == y.2
            · cases hc4 : l4 == y.2
              · have hb := HF.out false (by unfold backs; rw [h3, h4]; simp at hc3 hc4; simp [hc3, hc4])
                clear h3 h4
                go_wp2
                go_roundw
                case rel => exact ⟨k2 + 1, m, q + 1, rfl, rfl, hb.1, hb.2.1, hb.2.2, trivial⟩
                case measure => simp [intOf]; omega
              · have hb := HF.out true (by unfold backs; rw [h3, h4]; simp at hc3 hc4; simp [hc3, hc4])
                clear h3 h4
                go_wp2
                go_roundw
                case rel => exact ⟨k2 + 1, m + 1, q + 1, by go_num, rfl, hb.1, hb.2.1, hb.2.2, trivial⟩
                case measure => simp [intOf]; omega
            · have hb := HF.out true (by unfold backs; rw [h3, h4]; simp at hc3; simp [hc3])
              clear h3 h4
              go_wp2
              go_roundw
              case rel => exact ⟨k2 + 1, m + 1, q + 1, by go_num, rfl, hb.1, hb.2.1, hb.2.2, trivial⟩
              case measure => simp [intOf]; omega
        · have hkN : k2 = c.n.toNat := by have := hq.out; have := HN.out; omega
          have hB := HB.out
          rw [← hkN, ← hm.out] at hB
          have hgo : ∀ (o : Option (List UInt8)), c.backed view who = o → ((CoreM.keys zi).take (k + 1)).findSome? (c.backed view) = o := fun o ho => by
            rw [List.take_succ_eq_append_getElem hlt2, List.findSome?_append, HNO.out, Option.none_or]
            have : (CoreM.keys zi)[k] = who := by have := HW.out; rw [List.getElem?_eq_getElem hlt2] at this; simpa using this
            rw [List.findSome?_cons, this, ho]
            cases o <;> rfl
          have HGO := hid hgo
          have HBB := hid hB
          clear hkN hB hgo
          by_cases hge : c.n - (c.n - 1) / 3 ≤ (m : Int)
          · have hcount : c.agreed view = some y.2 := by
              rw [HAG.out, ← List.take_append_drop (k + 1) (CoreM.keys zi), List.findSome?_append, HGO.out (some y.2) (by rw [HBB.out, if_pos hge]), Option.some_or]
            have HCT := hid hcount
            clear hcount
            go_wp2_with (go_at_call 96; refine (quorum_any _ _ ⟨n0, n1⟩).mono ?_; rintro e w' ⟨rfl, rfl⟩)
            go_ret2
            exact ⟨y.1, by rw [HCT.out]; rfl, by rw [HCT.out]; exact HBY.out, hb1⟩
          · go_wp2_with (go_at_call 96; refine (quorum_any _ _ ⟨n0, n1⟩).mono ?_; rintro e w' ⟨rfl, rfl⟩)
            go_roundw
            case rel => exact ⟨k + 1, by go_num, hlt2, HGO.out none (by rw [HBB.out, if_neg (by omega)]), trivial⟩
            case measure => simp [intOf]; omega
    · have hk' : k = (CoreM.keys zi).length := by omega
      have hcount : c.agreed view = none := by
        rw [HAG.out, ← List.take_length (l := CoreM.keys zi), ← hk']
        exact hnone
      have HCT := hid hcount
      clear hcount hk' hnone
      go_wp2
      go_ret2
      exact ⟨_, by rw [HCT.out]; rfl, by rw [HCT.out]; exact Bs.nil _ _, hb1⟩

theorem agreed_any {ρ : Roles} {i b fid : Nat} {c : CoreM} (view : Int) (w : World) (h : CoreAt w ρ i b fid c) (hf : c.Fine) :
    Calls Try.prog 88 #[.pointer (some ⟨b, 0, none⟩), .int .i64 view] w (OptPost w (fun k => ρ k = (i, 2, 0)) (c.agreed view)) := by
  cases hv : c.comms.lookup view with
  | none => exact agreed_nothing view w h hv
  | some x => exact agreed_some_told view w h hf (by rw [hv]; rfl)
end Go.Proofs.Ytkkmkkgjpmlhaaa
