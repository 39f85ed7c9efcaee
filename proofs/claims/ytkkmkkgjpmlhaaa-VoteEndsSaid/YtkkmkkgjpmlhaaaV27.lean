/- lives: four peers who tell one another all. -/
import Derived.Test.YtkkmkkgjpmlhaaaV26
import Derived.Test.YtkkmkkgjpmlhaaaV03
import Derived.Test.YtkkmkkgjpmlhaaaV09
import Derived.Laws.OwnMore
import Derived.Lib.SlBytesConst
namespace Go.Proofs.Ytkkmkkgjpmlhaaa
open Go.RowKit Go.MapKept

theorem info_pcore : (Try.prog.info? 26).map (fun i => (i.zero, i.size, i.bytes)) = some (some (.pointer none), 1, 8) := by kernel_rfl
/-- The pointers to cores. -/
def ptrs (B : Nat → Nat) (k : Nat) : List Value := (List.range k).map fun j => .pointer (some ⟨B j, 0, none⟩)
theorem ptrs_succ (B : Nat → Nat) (k b : Nat) : ptrs (updB B k b) (k + 1) = ptrs B k ++ [.pointer (some ⟨b, 0, none⟩)] := by
  unfold ptrs
  rw [List.range_succ, List.map_append]
  congr 1
  · apply List.map_congr_left
    intro j hj
    rw [updB_other _ _ (by have := List.mem_range.1 hj; omega)]
  · simp [updB_same]
theorem ptrs_get {B : Nat → Nat} {k j : Nat} (h : j < k) : (ptrs B k)[j]? = some (.pointer (some ⟨B j, 0, none⟩)) := by
  unfold ptrs
  simp [h]
/-- A slice of pointers to cores. -/
def Ptrs (w : World) (Z : Nat → Prop) (v : Value) (n : Nat) (B : Nat → Nat) : Prop := ∃ g cap, v = .slice (some ⟨g, 0, none⟩) n cap ∧ Z g ∧ ∀ j, j < n → w.cell? ⟨g, j, none⟩ = some (.pointer (some ⟨B j, 0, none⟩))
theorem ptrs_own {w : World} {base n : Nat} {v : Value} {B : Nat → Nat} {Z : Nat → Prop} (h : w.ownsRow base 26 1 v n (ptrs B n)) (hn : 0 < n) (hz : ∀ k, v.ownBlock = some k → Z k) : Ptrs w Z v n B := by
  obtain ⟨g, cap, rfl, _, hlt⟩ := h.form hn
  refine ⟨g, cap, rfl, hz g rfl, fun j hj => ?_⟩
  rw [h.cellAt j (by omega)]
  exact ptrs_get hj
theorem one_new (w : World) (p : Value) (t : TypeId) (j : Nat) (u : Value) (h : [p][j]? = some u) : (w.alloc (.cells #[p] t)).cell? ((⟨w.heap.size, 0, none⟩ : Addr).add j) = some u := by
  cases j with
  | zero => cases h; exact cell_alloc_new w #[p] t _ 0 rfl
  | succ j => simp at h
theorem one_cell {b : Nat} : ∀ u ∈ [Value.pointer (some ⟨b, 0, none⟩)], u.oneCell' = true := fun u hu => by rw [List.mem_singleton.1 hu]; rfl
/-- The zone of a slice that grows. -/
def zrow (n : Nat) (v : Value) : Nat → Prop := fun x => x < n ∨ v.ownBlock = some x

theorem live_upd {k : Nat} {P : Nat → CoreM} (h : ∀ j, j < k → P j = live0 j) : ∀ j, j < k + 1 → upd P k { n := 4, me := (k : Int) + 1, slot := 0 } j = live0 j := fun j hj => by
  unfold upd
  split
  · rename_i e; subst e; rfl
  · exact h j (by omega)
/-- What the append of a pointer to a new core leaves. -/
theorem lot_push {n0 fid k g b cap c' : Nat} {A : Option Addr} {B : Nat → Nat} {P : Nat → CoreM} {c : CoreM} {p : Value} {t : TypeId} {w1 w2 : World} (hl : Lot w1 (zrow n0 (.slice A k cap)) fid (k + 1) (updB B k b) (upd P k c))
    (hg : (w1.alloc (.cells #[p] t)).grownBy w2 (Value.slice A k cap).ownBlock) (hat : (Value.slice A k cap).ownBlock = some g ∨ g = (w1.alloc (.cells #[p] t)).heap.size) (hlt : g < w2.heap.size) :
    Lot w2 (zrow n0 (.slice (some ⟨g, 0, none⟩) (k + 1) c')) fid (k + 1) (updB B k b) (upd P k c) := by
  have h1 := hl.below ((Below.refl _ w1).alloc (Nat.le_refl _) (.cells #[p] t))
  have ho : Off (fun x => (Value.slice A k cap).ownBlock = some x) (w1.alloc (.cells #[p] t)) w2 := (Off.refl _ _).grown hg (fun b e _ => e)
  have h2 := h1.zone ho (fun x _ e => .inl (.inr e))
  refine h2.mono (fun x hx => ?_)
  rcases hx with hx | hx
  · exact .inl (.inl (.inl hx))
  · have hxg : g = x := by simpa [Value.ownBlock] using hx
    subst hxg
    rcases hat with e | e
    · exact .inl (.inl (.inr e))
    · exact .inr ⟨by omega, hlt⟩
theorem below_push {n0 k cap : Nat} {A : Option Addr} {p : Value} {t : TypeId} {xs : List Value} {e : TypeId} {w w1 w2 : World} (hb : Below n0 w w1) (hn : n0 ≤ w1.heap.size) (hg : (w1.alloc (.cells #[p] t)).grownBy w2 (Value.slice A k cap).ownBlock) (hown : w1.ownsRow n0 e 1 (.slice A k cap) k xs) : Below n0 w w2 :=
  (hb.alloc hn _).grown hg (by simp; omega) (fun x hx => (hown.lt x hx).1)

/-- The bytes of a constant. -/
theorem const_bs (w : World) (x : UInt8) (m : Nat × Nat) : Bs (w.alloc (.cells #[.int .u8 x.toNat] 5 m)) (fun k => k = w.heap.size) (.slice (some ⟨w.heap.size, 0, none⟩) 1 1) [x] :=
  ⟨_, _, rfl, by simp, (fun h => by cases h), fun _ => ⟨_, 0, rfl, rfl, fun j u hu => by
    cases j with
    | zero => cases hu; unfold World.cell?; rw [heap_alloc_new]; rfl
    | succ j => simp at hu⟩⟩
theorem below_zone {n0 : Nat} {Z : Nat → Prop} {w w1 w2 : World} (hb : Below n0 w w1) (ho : Off (fun k => ¬ Z k) w1 w2) (hz : ∀ k, k < n0 → Z k) (hn : n0 ≤ w1.heap.size) : Below n0 w w2 :=
  hb.trans ((ho.mono (G := fun k => n0 ≤ k) (fun k _ e => Nat.not_lt.1 fun hk => e (hz k hk))).low hn)
/-- A vote of a slice, in a later world. -/
theorem Vs.later {Z : Nat → Prop} {w wr : World} {base : Nat} {v : Value} {l : List Vote} (h : Vs w base v l) (ho : Off (fun k => ¬ Z k) w wr) (hz : ∀ k, base ≤ k → k < w.heap.size → Z k) {j : Nat} {x : Vote} (hx : l[j]? = some x) :
    ∃ g cap A c, v = .slice (some ⟨g, 0, none⟩) l.length cap ∧ Bs wr Z (.slice A x.value.length c) x.value ∧
      wr.cell? ⟨g, j * 6, none⟩ = some (.int .i64 x.kind) ∧ wr.cell? ⟨g, j * 6 + 1, none⟩ = some (.int .i64 x.frm) ∧ wr.cell? ⟨g, j * 6 + 2, none⟩ = some (.int .i64 x.slot) ∧ wr.cell? ⟨g, j * 6 + 3, none⟩ = some (.int .i64 x.view) ∧
      wr.cell? ⟨g, j * 6 + 4, none⟩ = some (.int .i64 x.valid) ∧ wr.cell? ⟨g, j * 6 + 5, none⟩ = some (.slice A x.value.length c) := by
  obtain ⟨g, cap, A, c, hv, hg, hb, x0, x1, x2, x3, x4, x5⟩ := h.get hx
  have hzg : ¬ ¬ Z g := fun e => e (hz g hg (World.block_lt_of_cell? _ _ x0))
  exact ⟨g, cap, A, c, hv, (hb.mono (O' := fun k => Z k) (fun k hk hb => hz k hb hk)).keep ho (fun k _ h e => e h), ho.cell_some x0 hzg, ho.cell_some x1 hzg, ho.cell_some x2 hzg, ho.cell_some x3 hzg, ho.cell_some x4 hzg, ho.cell_some x5 hzg⟩
/-- A box with a vote. -/
theorem vote_box {Z : Nat → Prop} {wr W wi : World} {s : Value} {x : Vote} (hW : W = wr.alloc (.cells #[.int .i64 x.kind, .int .i64 x.frm, .int .i64 x.slot, .int .i64 x.view, .int .i64 x.valid, s] 31)) (hz : Z wr.heap.size) (ho : Off (fun k => ¬ Z k) W wi) :
    wi.cell? ⟨wr.heap.size, 0, none⟩ = some (.int .i64 x.kind) ∧ wi.cell? ⟨wr.heap.size, 1, none⟩ = some (.int .i64 x.frm) ∧ wi.cell? ⟨wr.heap.size, 2, none⟩ = some (.int .i64 x.slot) ∧ wi.cell? ⟨wr.heap.size, 3, none⟩ = some (.int .i64 x.view) ∧ wi.cell? ⟨wr.heap.size, 4, none⟩ = some (.int .i64 x.valid) ∧ wi.cell? ⟨wr.heap.size, 5, none⟩ = some s := by
  subst hW
  have f : ∀ (j : Nat) (u : Value), (#[Value.int .i64 x.kind, .int .i64 x.frm, .int .i64 x.slot, .int .i64 x.view, .int .i64 x.valid, s] : Array Value)[j]? = some u → wi.cell? ⟨wr.heap.size, j, none⟩ = some u := fun j u hu =>
    ho.cell_some ((cell_alloc_new wr _ _ _ j rfl).trans hu) (fun e => e hz)
  exact ⟨f 0 _ rfl, f 1 _ rfl, f 2 _ rfl, f 3 _ rfl, f 4 _ rfl, f 5 _ rfl⟩
theorem in64_says {x : Vote} (h : (1 ≤ x.kind ∧ x.kind ≤ 5) ∧ (1 ≤ x.frm ∧ x.frm ≤ 64) ∧ (0 ≤ x.slot ∧ x.slot ≤ 256) ∧ (0 ≤ x.view ∧ x.view ≤ 4294967296) ∧ (-1 ≤ x.valid ∧ x.valid ≤ 4294967296) ∧ x.value.length ≤ 268435456) :
    In64 x.kind ∧ In64 x.frm ∧ In64 x.slot ∧ In64 x.view ∧ In64 x.valid ∧ x.value.length ≤ 9223372036854775807 := by
  unfold In64
  omega

set_option maxRecDepth 100000 in
set_option maxHeartbeats 4000000 in
theorem lives_any (w : World) : Calls Try.prog 11 #[] w fun e w' => e = .returned (.bool true) ∧ Below w.heap.size w w' := by
  obtain ⟨i0, hi0, hq0, hq1, hq2⟩ := info_parts info_pcore
  go_enter Try.func11, Try.ntmps11
  go_wp2_with fail
  go_loopw [1, 12] (fun v i wr => ∃ (k : Nat) (B : Nat → Nat) (P : Nat → CoreM), i = .int .i64 k ∧ k ≤ 4 ∧ Lot wr (zrow w.heap.size v) 25 k B P ∧ (∀ j, j < k → P j = live0 j) ∧ wr.ownsRow w.heap.size 26 1 v k (ptrs B k) ∧ Below w.heap.size w wr)
    (fun _ i _ => 4 - (intOf i).toNat)
  case atStart => exact ⟨0, fun _ => 0, live0, rfl, by decide, (Lot.empty w _ _ _).mono (fun k hk => by unfold zrow at hk; rcases hk with hk | hk; { exact hk }; { simp [Value.ownBlock] at hk }), fun _ h => absurd h (by omega), World.ownsRow_nil .., Below.refl _ _⟩
  case round =>
    obtain ⟨k, B, P, rfl, hk, hlot, hP, hown, hb⟩ := hrel
    obtain ⟨A, cap, rfl⟩ := ownsRow_slice hown
    by_cases hk4 : k < 4
    · have hnew := hlot.new (m := 4) (me := (k : Int) + 1) (slot := 0) ⟨by decide, by decide, by omega, by omega, by decide, by decide⟩
      have hown0 := hid hown
      have hlot0 := hid hlot
      have hP0 := hid hP
      clear hown hlot hP
      go_wp2_with (first | (go_at_call 13; refine hnew.mono ?_; rintro e w1 ⟨b, rfl, hlot1, hb1⟩; have hown1 := own_below hown0.out hb1) | (at_builtin; refine wpList_append_lies _ rfl _ _ 61 rfl w.heap.size 26 i0 (.pointer none) 1 8 Try.underlying61 hi0 hq0 hq1 hq2 rfl (by decide) (.slice A k cap) k _ (by rfl) (hown1.alloc _) ⟨w1.heap.size, 0, none⟩ 1 1 [.pointer (some ⟨b, 0, none⟩)] (by rfl) (by rfl) (one_new w1 _ _) one_cell (by decide) (by unfold maxLen; omega) (by omega) (Nat.le_trans (hb.trans (hb1.mono hb.size)).size (by simp)) _ rfl ?_; intro g cap' w2 hown2 hgrow hat hlt2))
      go_roundw
      case rel => exact ⟨k + 1, _, _, by go_num, by omega, lot_push hlot1 hgrow hat hlt2, live_upd hP0.out, by rw [ptrs_succ]; exact hown2, below_push (hb.trans (hb1.mono hb.size)) (hb.trans (hb1.mono hb.size)).size hgrow hown1⟩
      case measure => simp [intOf]; omega
    · have hk4' : k = 4 := by omega
      subst hk4'
      have hpt := ptrs_own (Z := zrow w.heap.size (.slice A 4 cap)) hown (by decide) (fun x hx => .inr hx)
      obtain ⟨g, cap', he, hzg, hcells⟩ := hpt
      injection he with he1 _ he2
      subst he1 he2
      have hl0 : Lot wr (zrow w.heap.size (.slice (some ⟨g, 0, none⟩) 4 cap)) 25 4 B live0 := hlot.congr (fun _ _ => rfl) (fun j hj => (hP j hj).symm)
      clear hlot hP hown
      have g0 := hcells 0 (by decide)
      have HC := hid hcells
      clear hcells
      have kc := Lib.run_convert_bytes_const (P := Try.prog) wr 29 5 #[.int .u8 119] 1 1 Try.underlying29 Try.underlying5
      have hbox := const_bs wr 119 (1, 2)
      have hl1 := (hl0.below ((Below.refl _ wr).alloc (Nat.le_refl _) (.cells #[.int .u8 119] 5 (1, 2)))).mono (Z' := zrow w.heap.size (.slice (some ⟨g, 0, none⟩) 4 cap)) (fun _ h => .inl h)
      have hglt := hl0.old hzg
      obtain ⟨Z0, hZ0⟩ : ∃ Z, Z = zrow w.heap.size (.slice (some ⟨g, 0, none⟩) 4 cap) := ⟨_, rfl⟩
      have hz0 : ∀ k, k < w.heap.size → Z0 k := fun k hk => by rw [hZ0]; exact .inl hk
      rw [← hZ0] at hzg hl1
      have hwish := hl1.wish (acc := fun _ => true) (by decide) (live0_fine 0 (by decide)) any_accepts hbox (by decide)
      have hbA := hb.alloc hb.size (.cells #[.int .u8 119] 5 (1, 2))
      clear hl0 hl1 hbox hZ0
      go_wp2_with (go_at_call 18; refine hwish.mono ?_; rintro e w3 ⟨rfl, hlot3, hoff3⟩)
      have hb3 : Below w.heap.size w w3 := below_zone hbA hoff3 hz0 hbA.size
      have hc3 : ∀ j, j < 4 → w3.cell? ⟨g, j, none⟩ = some (.pointer (some ⟨B j, 0, none⟩)) := fun j hj => hoff3.cell_some ((cell_alloc_old wr _ g j hglt).trans (HC.out j hj)) (fun h => h hzg)
      have HL3 : Hid (Lot w3 Z0 25 4 B live1) := hid hlot3
      have HC3 := hid hc3
      have HB3 := hid hb3
      have HZ0 := hid hz0
      clear hc3 hlot3 kc hoff3 hwish hz0
      go_loopw [31] (fun i wr => ∃ k : Nat, i = .int .i64 k ∧ k ≤ 4 ∧ Lot wr Z0 25 4 B (rounds (fun _ => true) 4 live1 k) ∧ Off (fun k => ¬ Z0 k) w3 wr)
        (fun i _ => 4 - (intOf i).toNat)
      case atStart => exact ⟨0, rfl, by decide, HL3.out, Off.refl _ _⟩
      case round =>
        obtain ⟨k, rfl, hk, hlot, hoff⟩ := hrel
        by_cases hk4 : k < 4
        · have hfq := rounds_fine (acc := fun _ => true) live1_fine k
          have hsucc : rounds (fun _ => true) 4 live1 (k + 1) = talks (fun _ => true) 4 (rounds (fun _ => true) 4 live1 k) 4 := rfl
          have HS := hid hsucc
          clear hsucc
          generalize rounds (fun _ => true) 4 live1 k = Q at hfq hlot HS
          have HLOT := hid hlot
          have HOFF := hid hoff
          have HFQ := hid hfq
          clear hlot hoff hfq
          go_wp2_with fail
          go_loopw [35] (fun i wr => ∃ a : Nat, i = .int .i64 a ∧ a ≤ 4 ∧ Lot wr Z0 25 4 B (talks (fun _ => true) 4 Q a) ∧ Off (fun k => ¬ Z0 k) w3 wr)
            (fun i _ => 4 - (intOf i).toNat)
          case atStart => exact ⟨0, rfl, by decide, HLOT.out, HOFF.out⟩
          case round =>
            obtain ⟨a, rfl, ha, hlot, hoff⟩ := hrel
            by_cases ha4 : a < 4
            · have hfr := talks_fine (acc := fun _ => true) HFQ.out a
              have hsucc : talks (fun _ => true) 4 Q (a + 1) = hearAll (fun _ => true) 4 (talks (fun _ => true) 4 Q a) (talks (fun _ => true) 4 Q a a).says := rfl
              have HS2 := hid hsucc
              clear hsucc
              generalize talks (fun _ => true) 4 Q a = R at hfr hlot HS2
              have ga := hoff.cell_some (HC3.out a ha4) (fun h => h hzg)
              obtain ⟨ρa, ia, hca⟩ := hlot.core ha4
              have cS := says_any wr hca (hfr a ha4)
              have HNUM := hid (fun x hx => says_nums (hfr a ha4) (x := x) hx)
              generalize (R a).says = L at cS HS2 HNUM
              have HLOT2 := hid hlot
              have HOFF2 := hid hoff
              have HFR := hid hfr
              clear hlot hoff hfr hca
              go_wp2_with (go_at_call 22; refine cS.mono ?_; rintro e w6 ⟨vs, rfl, hvs, hb6⟩; obtain ⟨As, cs, rfl⟩ := hvs.slice)
              obtain ⟨Z1, hZ1⟩ : ∃ Z : Nat → Prop, Z = (fun k => Z0 k ∨ (wr.heap.size ≤ k ∧ k < w6.heap.size)) := ⟨_, rfl⟩
              have hz10 : ∀ k, Z0 k → Z1 k := fun k hk => by rw [hZ1]; exact .inl hk
              have hz16 : ∀ k, wr.heap.size ≤ k → k < w6.heap.size → Z1 k := fun k h1 h2 => by rw [hZ1]; exact .inr ⟨h1, h2⟩
              have hl6 : Lot w6 Z1 25 4 B R := by rw [hZ1]; exact HLOT2.out.below hb6
              have hc6 : ∀ j, j < 4 → w6.cell? ⟨g, j, none⟩ = some (.pointer (some ⟨B j, 0, none⟩)) := fun j hj => by
                have := HOFF2.out.cell_some (HC3.out j hj) (fun h => h hzg)
                exact (hb6.cell (p := ⟨g, j, none⟩) (World.block_lt_of_cell? _ _ this)).trans this
              have hzg1 := hz10 _ hzg
              have hlenL : L.length ≤ 9223372036854775807 := by
                obtain ⟨z, h1, h2, _⟩ := id hvs
                have := h2.1
                have h3 : L.length ≤ maxLen ∨ L.length = 0 := by
                  rcases h2.2 with ⟨_, h0⟩ | ⟨_, cap0, _, hv0, _, _, h4, h5, _⟩
                  · exact .inr h0
                  · exact .inl (Nat.le_trans h4 h5)
                unfold maxLen at h3
                omega
              have HL6 := hid hl6
              have HC6 := hid hc6
              have HVS := hid hvs
              have HZ16 := hid hz16
              have HZ10 := hid hz10
              clear hl6 hc6 hvs hz16 hz10 hZ1 cS ga
              go_loopw [42] (fun i wi => ∃ m : Nat, i = .int .i64 m ∧ m ≤ L.length ∧ Lot wi Z1 25 4 B (hearAll (fun _ => true) 4 R (L.take m)) ∧ Off (fun k => ¬ Z1 k) w6 wi)
                (fun i _ => L.length - (intOf i).toNat)
              case atStart => exact ⟨0, rfl, Nat.zero_le _, by rw [List.take_zero, hearAll_nil]; exact HL6.out, Off.refl _ _⟩
              case round =>
                obtain ⟨wo, rfl⟩ : ∃ wo : World, wo = wr := ⟨_, rfl⟩
                obtain ⟨m, rfl, hm, hlot, hoff⟩ := hrel
                by_cases hm4 : m < L.length
                · obtain ⟨x, hx⟩ : ∃ x, L[m]? = some x := ⟨_, List.getElem?_eq_getElem hm4⟩
                  have hfs := hearAll_fine (acc := fun _ => true) HFR.out (L.take m)
                  have hsucc : hearAll (fun _ => true) 4 R (L.take (m + 1)) = hearAll (fun _ => true) 4 (hearAll (fun _ => true) 4 R (L.take m)) [x] := by
                    rw [List.take_add_one, hx]; exact hearAll_snoc _ _
                  have HS3 := hid hsucc
                  clear hsucc
                  generalize hearAll (fun _ => true) 4 R (L.take m) = T at hfs hlot HS3
                  obtain ⟨gv, cap2, A2, c2, he, hbx, x0, x1, x2, x3, x4, x5⟩ := HVS.out.later hoff (fun k h1 h2 => HZ16.out k h1 h2) hx
                  injection he with he1 _ he3
                  subst he1
                  subst he3
                  have hnum := in64_says (HNUM.out x (List.mem_of_getElem? hx))
                  have HNX := hid hnum
                  have HLOT3 := hid hlot
                  have HOFF3 := hid hoff
                  have HFS := hid hfs
                  have HBX := hid hbx
                  clear hlot hoff hfs hbx hnum hx
                  go_wp2_with fail
                  obtain ⟨W0, hW0⟩ : ∃ W0 : World, W0 = wo.alloc (.cells #[.int .i64 x.kind, .int .i64 x.frm, .int .i64 x.slot, .int .i64 x.view, .int .i64 x.valid, .slice A2 x.value.length c2] 31) := ⟨_, rfl⟩
                  rw [← hW0]
                  have hbx0 : Below wo.heap.size wo W0 := by rw [hW0]; exact (Below.refl _ wo).alloc (Nat.le_refl _) _
                  have hszW : W0.heap.size = wo.heap.size + 1 := by rw [hW0]; simp
                  obtain ⟨Z2, hZ2⟩ : ∃ Z : Nat → Prop, Z = (fun k => Z1 k ∨ (wo.heap.size ≤ k ∧ k < W0.heap.size)) := ⟨_, rfl⟩
                  have hz21 : ∀ k, Z1 k → Z2 k := fun k hk => by rw [hZ2]; exact .inl hk
                  have hz2b : Z2 wo.heap.size := by rw [hZ2]; exact .inr ⟨Nat.le_refl _, by omega⟩
                  have hl0 : Lot W0 Z2 25 4 B T := by rw [hZ2]; exact HLOT3.out.below hbx0
                  have hc0 : ∀ j, j < 4 → W0.cell? ⟨g, j, none⟩ = some (.pointer (some ⟨B j, 0, none⟩)) := fun j hj => by
                    have := HOFF3.out.cell_some (HC6.out j hj) (fun h => h hzg1)
                    exact (hbx0.cell (p := ⟨g, j, none⟩) (World.block_lt_of_cell? _ _ this)).trans this
                  have hbs0 : Bs W0 Z1 (.slice A2 x.value.length c2) x.value := HBX.out.below hbx0
                  have HBX0 := hid hbx0
                  have HL0 := hid hl0
                  have HC0 := hid hc0
                  have HBS0 := hid hbs0
                  have HZ21 := hid hz21
                  have HW0 := hid hW0
                  have hzg2 := hz21 _ hzg1
                  clear hbx0 hl0 hc0 hbs0 hz21 hW0 hZ2 x0 x1 x2 x3 x4 x5
                  go_loopw [48] (fun i wi => ∃ b : Nat, i = .int .i64 b ∧ b ≤ 4 ∧ Lot wi Z2 25 4 B (hearTo (fun _ => true) T x b) ∧ Off (fun k => ¬ Z2 k) W0 wi)
                    (fun i _ => 4 - (intOf i).toNat)
                  case atStart => exact ⟨0, rfl, by decide, by rw [hearTo_zero]; exact HL0.out, Off.refl _ _⟩
                  case round =>
                    obtain ⟨b, rfl, hb4, hlot, hoff⟩ := hrel
                    by_cases hbb : b < 4
                    · have hff := hearTo_fine (acc := fun _ => true) HFS.out x b
                      have HS4 := hid (hearTo_succ (acc := fun _ => true) (P := T) x b)
                      generalize hearTo (fun _ => true) T x b = U at hff hlot HS4
                      have gb := hoff.cell_some (HC0.out b hbb) (fun h => h hzg2)
                      obtain ⟨y0, y1, y2, y3, y4, y5⟩ := vote_box HW0.out hz2b hoff
                      have hbi : Bs wr Z1 (.slice A2 x.value.length c2) x.value := HBS0.out.keep hoff (fun k _ h e => e (HZ21.out k h))
                      have cT := hlot.take (acc := fun _ => true) (v := x) hbb (hff b hbb) any_accepts ⟨_, rfl, hbi, HNX.out⟩
                      have HOFF4 := hid hoff
                      clear hoff hlot hbi hff
                      go_wp2_with (go_at_call 17; refine cT.mono ?_; rintro e w9 ⟨rfl, hlot9, hoff9⟩)
                      go_roundw
                      case rel => exact ⟨b + 1, by go_num, hbb, by rw [HS4.out]; exact hlot9, HOFF4.out.trans hoff9 (fun _ _ h => h)⟩
                      case measure => simp [intOf]; omega
                    · have hb5 : b = 4 := by omega
                      subst hb5
                      have hfin : Lot wr Z1 25 4 B (hearAll (fun _ => true) 4 R (L.take (m + 1))) := by
                        rw [HS3.out, ← hearTo_all]
                        exact hlot.mono (fun k hk => HZ21.out k hk)
                      have hoffn : Off (fun k => ¬ Z1 k) _ wr := (HOFF3.out.then_below HBX0.out).trans (hoff.mono (G := fun k => ¬ Z1 k) (fun k _ e h => e (HZ21.out k h))) (fun _ _ h => h)
                      have HFIN := hid hfin
                      have HOFN := hid hoffn
                      clear hfin hoffn hlot hoff
                      go_wp2
                      go_roundw
                      case rel => exact ⟨m + 1, by go_num, hm4, HFIN.out, HOFN.out⟩
                      case measure => simp [intOf]; omega
                · have hme : m = L.length := by omega
                  subst hme
                  rw [List.take_length] at hlot
                  have hfin : Lot wo Z0 25 4 B (talks (fun _ => true) 4 Q (a + 1)) := by
                    rw [HS2.out]
                    exact hlot.mono (fun k hk => HZ10.out k hk)
                  have hoffn : Off (fun k => ¬ Z0 k) w3 wo := (HOFF2.out.then_below hb6).trans (hoff.mono (G := fun k => ¬ Z0 k) (fun k _ e h => e (HZ10.out k h))) (fun _ _ h => h)
                  have HFIN := hid hfin
                  have HOFN := hid hoffn
                  clear hfin hoffn hlot hoff
                  go_wp2
                  go_roundw
                  case rel => exact ⟨a + 1, by go_num, ha4, HFIN.out, HOFN.out⟩
                  case measure => simp [intOf]; omega
            · have hae : a = 4 := by omega
              subst hae
              have hfin : Lot wr Z0 25 4 B (rounds (fun _ => true) 4 live1 (k + 1)) := by rw [HS.out]; exact hlot
              have HFIN := hid hfin
              have HOFN := hid hoff
              clear hfin hlot hoff
              go_wp2
              go_roundw
              case rel => exact ⟨k + 1, by go_num, hk4, HFIN.out, HOFN.out⟩
              case measure => simp [intOf]; omega
        · have hke : k = 4 := by omega
          subst hke
          have g3 := hoff.cell_some (HC3.out 3 (by decide)) (fun h => h hzg)
          have hb8 := below_zone HB3.out hoff HZ0.out HB3.out.size
          obtain ⟨ρa, ia, hca⟩ := hlot.core (show 3 < 4 by decide)
          obtain ⟨le1, le2⟩ := live_end
          have cD := decided_any wr hca (by rw [le2]; decide)
          unfold DecidedPost at cD
          rw [le1, le2] at cD
          simp only [if_true] at cD
          clear hlot hoff hca le1 le2
          go_wp2_with (go_at_call 20; refine cD.mono ?_; rintro e w9 ⟨v9, rfl, hb9, hbw9⟩; obtain ⟨A9, c9, rfl, -⟩ := id hb9; have hcv := hb9.convert; simp only [List.length_cons, List.length_nil, Nat.zero_add] at hcv)
          go_ret
          exact ⟨rfl, hb8.trans (hbw9.mono hb8.size)⟩
end Go.Proofs.Ytkkmkkgjpmlhaaa
