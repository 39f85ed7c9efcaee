/- told.count: the first value, by peers, that at least so many told. -/
import Derived.Test.YtkkmkkgjpmlhaaaKeys
import Derived.Test.YtkkmkkgjpmlhaaaRange
import Derived.Deep.LoopGhost
import Derived.LoopTactic
namespace Go.Proofs.Ytkkmkkgjpmlhaaa
open Go.RowKit Go.MapKept

def CountPost (w : World) (O : Nat → Prop) (t : List (Int × List UInt8)) (least : Int) (e : Ending) (w' : World) : Prop :=
  ∃ v, e = .returned (.tuple #[v, .bool (CoreM.count t least).isSome]) ∧ Bs w O v ((CoreM.count t least).getD []) ∧ Below w.heap.size w w'

/-- Keys that are ints of Go's. -/
def KeysOk {α : Type} (m : List (Int × α)) : Prop := m.length ≤ 17592186044416 ∧ ∀ p ∈ m, (Lit.int .i64 p.1).wf = true
theorem KeysOk.mv {α β : Type} {f : α → β} {m : List (Int × α)} (h : KeysOk (Ytkkmkkgjpmlhaaa.mv f m)) : KeysOk m := ⟨by simpa [Ytkkmkkgjpmlhaaa.mv] using h.1, fun p hp => h.2 (p.1, f p.2) (List.mem_map.2 ⟨p, hp, rfl⟩)⟩
theorem KeysOk.to_mv {α β : Type} {f : α → β} {m : List (Int × α)} (h : KeysOk m) : KeysOk (Ytkkmkkgjpmlhaaa.mv f m) := ⟨by simpa [Ytkkmkkgjpmlhaaa.mv] using h.1, fun p hp => by obtain ⟨q, hq, rfl⟩ := mem_mv hp; exact h.2 q hq⟩

theorem keys_mv {α β : Type} (f : α → β) (m : List (Int × α)) : CoreM.keys (mv f m) = CoreM.keys m := by unfold CoreM.keys; rw [mv_keys]
theorem mem_keys {α : Type} {m : List (Int × α)} {k : Int} : k ∈ CoreM.keys m ↔ ∃ v, (k, v) ∈ m := by
  unfold CoreM.keys
  rw [(sortZ_perm _).mem_iff, List.mem_map]
  constructor
  · rintro ⟨p, hp, rfl⟩; exact ⟨p.2, hp⟩
  · rintro ⟨v, hv⟩; exact ⟨_, hv, rfl⟩
theorem length_keys {α : Type} (m : List (Int × α)) : (CoreM.keys m).length = m.length := by unfold CoreM.keys; rw [(sortZ_perm _).length_eq, List.length_map]

def zvotes (zl : List (Int × (Value × List UInt8))) (l : List UInt8) : Nat := (zl.filter fun p => p.2.2 == l).length
theorem zvotes_votes (z : List (Int × (Value × List UInt8))) (l : List UInt8) : CoreM.votes (mv (·.2) z) l = zvotes z l := by
  unfold CoreM.votes zvotes mv
  rw [List.filter_map, List.length_map]
  rfl
theorem zvotes_perm {zl zl' : List (Int × (Value × List UInt8))} {p : Int × (Value × List UInt8)} (h : zl.Perm (p :: zl')) (l : List UInt8) : zvotes zl l = (if p.2.2 == l then 1 else 0) + zvotes zl' l := by
  unfold zvotes
  rw [(h.filter _).length_eq, List.filter_cons]
  split <;> simp; omega
theorem zvotes_le (z : List (Int × (Value × List UInt8))) (l : List UInt8) : zvotes z l ≤ z.length := List.length_filter_le _ _

set_option maxRecDepth 100000 in
set_option maxHeartbeats 1000000 in
theorem count_any (b : Nat) (t : List (Int × List UInt8)) (least : Int) (O : Nat → Prop) (w : World) (h : Told w O b t) (hk : KeysOk t) :
    Calls Try.prog 89 #[.map (some b), .int .i64 least] w (CountPost w O t least) := by
  obtain ⟨z, h1, rfl, h3⟩ := id h
  have hk0 := hk.mv
  have cS := sortedT_any b _ w h1 (by simpa [mv] using hk0.1) hk0.to_mv.2
  rw [show SortedPost w (mv (·.1) z) = SortedPost w z from by unfold SortedPost; rw [keys_mv]] at cS
  have HS := hid h1
  have H3 := hid h3
  clear h h1 h3
  go_enter Try.func89, Try.ntmps89
  go_wp2_with (first | (go_at_call 97; refine (keysT_any _ _).mono ?_; rintro e w' ⟨rfl, rfl⟩) | (go_at_call 59; refine cS.mono ?_; rintro e w1 ⟨v, rfl, hz1, hb1⟩; obtain ⟨A, cap, rfl, hcap, hcells⟩ := id hz1))
  have hL : (CoreM.keys z).length ≤ 17592186044416 := by rw [length_keys]; exact hk0.1
  have HC := hid hcells
  have HZ := hid hz1
  clear hcells hz1 cS
  have hb1s := hb1.size
  go_loopw [15] (fun i wr => ∃ k : Nat, i = .int .i64 k ∧ k ≤ (CoreM.keys z).length ∧ ((CoreM.keys z).take k).findSome? (CoreM.cand (mv (·.2) z) least) = none ∧ Below w1.heap.size w1 wr)
    (fun i _ => (CoreM.keys z).length - (intOf i).toNat)
  case atStart => exact ⟨0, rfl, Nat.zero_le _, rfl, Below.refl _ _⟩
  case round =>
    obtain ⟨k, rfl, hkl, hnone, hbr⟩ := hrel
    have hbrs := hbr.size
    by_cases hlt : k < (CoreM.keys z).length
    · obtain ⟨bs, rfl, hbs, hcell⟩ := HC.out (by omega)
      obtain ⟨who, hwho⟩ : ∃ who, (CoreM.keys z)[k]? = some who := ⟨_, List.getElem?_eq_getElem hlt⟩
      have g0 : wr.cell? ⟨bs, k, none⟩ = some (.int .i64 who) := by
        have := hcell k who hwho
        exact (hbr.cell (p := ⟨bs, k, none⟩) (World.block_lt_of_cell? w1 _ this)).trans this
      obtain ⟨y, hy⟩ := mem_keys.1 (List.mem_of_getElem? hwho)
      have him := (HS.out.below hb1).below hbr
      have hnd : (z.map (·.1)).Nodup := by have := HS.out.nodup; rwa [mv_keys] at this
      have hlk : z.lookup who = some y := lookup_of_mem hnd hy
      have e1 : ∀ W, Below wr.heap.size wr W → (Instr.lookup 98 (.map (some b)) (.int .i64 who) false).run Try.prog W = .ok y.1 W := fun W hW => by
        have := (him.below hW).lookup (P := Try.prog) Try.underlying98 Try.underlying3 (zero_bytes W) who false
        rw [lookup_mv, hlk] at this
        simpa using this
      have HE := hid e1
      have HY := hid hy
      have HL := hid hlk
      have HW := hid hwho
      have HN := hid hnone
      clear e1 hy hlk hwho hnone hcell
      go_wp2_with (at_range; refine wpList_range_z rfl _ 98 rfl 3 29 Try.underlying98 rfl (·.1) z him ?_; intro w2 hr2 hb2 hs2)
      go_frame
      obtain ⟨wo, rfl⟩ : ∃ wo : World, wo = wr := ⟨_, rfl⟩
      go_loopw [8] (fun c wi => ∃ (n : Nat) (zl : List (Int × (Value × List UInt8))), c = .int .i64 n ∧ RangingZ (·.1) wi b wo.heap.size z zl ∧ (∀ p ∈ zl, p ∈ z) ∧ n + zvotes zl y.2 = zvotes z y.2 ∧ Below wo.heap.size wo wi ∧ wo.heap.size < wi.heap.size)
        (fun _ wi => wi.rangeLeft b wo.heap.size)
      case atStart => exact ⟨0, z, rfl, hr2, fun p hp => hp, by omega, hb2, by omega⟩
      case round =>
        obtain ⟨n, zl, rfl, hrg, hzl, hcnt, hbi, hsi⟩ := hrel
        have hnb : n ≤ 17592186044416 := by have := zvotes_le z y.2; have := hk0.1; omega
        go_wp2_with (at_next; refine wpList_next_z rfl _ rfl rfl hrg ?_ ?_)
        · intro hz0
          have hcn : n = zvotes z y.2 := by subst hz0; simpa [zvotes] using hcnt
          have hit : CoreM.cand (mv (·.2) z) least who = if (n : Int) ≥ least then some y.2 else none := by
            unfold CoreM.cand; rw [lookup_mv, HL.out]; simp only [Option.map_some]; rw [zvotes_votes, hcn]
          have hby : Bs w O y.1 y.2 := H3.out _ HY.out
          have e1 := HE.out wr hbi
          have HI := hid hit
          clear hit hcnt
          have hbw := (hb1.trans (hbr.mono (by omega))).trans (hbi.mono (by omega))
          by_cases hge : least ≤ (n : Int)
          · have hcount : CoreM.count (mv (·.2) z) least = some y.2 := by
              unfold CoreM.count
              rw [keys_mv]
              rw [← List.take_append_drop k (CoreM.keys z), List.findSome?_append, HN.out, Option.none_or, List.drop_eq_getElem_cons hlt]
              have : (CoreM.keys z)[k] = who := by have := HW.out; rw [List.getElem?_eq_getElem hlt] at this; simpa using this
              rw [List.findSome?_cons, this, HI.out, if_pos hge]
            have HCT := hid hcount
            clear hcount hcn
            go_wp2
            go_ret2
            exact ⟨y.1, by rw [HCT.out]; rfl, by rw [HCT.out]; exact hby, hbw⟩
          · clear hcn
            go_wp2
            go_roundw
            case rel =>
              refine ⟨k + 1, by go_num, hlt, ?_, hbr.trans (hbi.mono hbrs)⟩
              rw [List.take_succ_eq_append_getElem hlt, List.findSome?_append, HN.out, Option.none_or]
              have : (CoreM.keys z)[k] = who := by have := HW.out; rw [List.getElem?_eq_getElem hlt] at this; simpa using this
              rw [List.findSome?_cons, this, HI.out, if_neg hge]
              rfl
            case measure => simp [intOf]; omega
        · intro x yv yl zl' w3 hperm hrg3 ho3 hs3 hen
          have hb3 : Below wo.heap.size wo w3 := below_off_new hbi ho3 (Nat.le_refl _) (Nat.le_refl _)
          have hyy : (x, (yv, yl)) ∈ z := hzl _ (hperm.mem_iff.2 List.mem_cons_self)
          have hbs1 : Bs w3 O yv yl := (((H3.out _ hyy).below hb1).below hbr).below hb3
          have hbs2 : Bs w3 O y.1 y.2 := (((H3.out _ HY.out).below hb1).below hbr).below hb3
          have e1 := HE.out w3 hb3
          have hzl' : ∀ p ∈ zl', p ∈ z := fun p hp => hzl p (hperm.mem_iff.2 (List.mem_cons_of_mem _ hp))
          have hzv := zvotes_perm hperm y.2
          have hml := hrg3.len
          have hml0 := hrg.len
          have hlen := hperm.length_eq
          simp only [List.length_cons] at hlen
          have HV := hid hzv
          have HM := hid hml
          have HM0 := hid hml0
          clear hzv hml hml0 hyy
          cases hq : yl == y.2
          all_goals
            go_wp2_with (go_at_call 61; refine (equal_any _ hbs1 hbs2).mono ?_; rintro e w' ⟨rfl, rfl⟩)
            go_roundw
            case rel =>
              have := HV.out
              simp only [hq, if_true, Bool.false_eq_true, if_false] at this
              first
                | exact ⟨n + 1, zl', by go_num, hrg3, hzl', by omega, hb3, by omega⟩
                | exact ⟨n, zl', rfl, hrg3, hzl', by omega, hb3, by omega⟩
            case measure => rw [HM.out, HM0.out]; omega
    · have hk' : k = (CoreM.keys z).length := by omega
      have hcount : CoreM.count (mv (·.2) z) least = none := by
        unfold CoreM.count
        rw [keys_mv, ← List.take_length (l := CoreM.keys z), ← hk']
        exact hnone
      have HCT := hid hcount
      clear hcount hk' hnone
      go_wp2
      go_ret2
      exact ⟨_, by rw [HCT.out]; rfl, by rw [HCT.out]; exact Bs.nil _ _, hb1.trans (hbr.mono (by omega))⟩

set_option maxRecDepth 100000 in
/-- .. of nobody. -/
theorem count_nil (least : Int) (O : Nat → Prop) (w : World) : Calls Try.prog 89 #[.map none, .int .i64 least] w (CountPost w O [] least) := by
  have cS := sortedT_nil w
  go_enter Try.func89, Try.ntmps89
  go_wp2_with (first | (go_at_call 97; refine (keysT_any _ _).mono ?_; rintro e w' ⟨rfl, rfl⟩) | (go_at_call 59; refine cS.mono ?_; rintro e w1 ⟨rfl, hb1⟩))
  refine wp_loop_rounds 1 ?_
  rw [rounds_succ]
  go_wp2
  go_ret2
  have e0 : CoreM.count [] least = none := rfl
  exact ⟨.slice none 0 0, by rw [e0]; rfl, by rw [e0]; exact Bs.nil _ _, hb1⟩

/-- A told value: the nil map, or a map. -/
def ToldV (w : World) (O : Nat → Prop) (v : Value) (t : List (Int × List UInt8)) : Prop := (v = .map none ∧ t = []) ∨ ∃ b, v = .map (some b) ∧ Told w O b t
theorem count_v (v : Value) (t : List (Int × List UInt8)) (least : Int) (O : Nat → Prop) (w : World) (h : ToldV w O v t) (hk : KeysOk t) : Calls Try.prog 89 #[v, .int .i64 least] w (CountPost w O t least) := by
  rcases h with ⟨rfl, rfl⟩ | ⟨b, rfl, h⟩
  · exact count_nil least O w
  · exact count_any b t least O w h hk
end Go.Proofs.Ytkkmkkgjpmlhaaa
