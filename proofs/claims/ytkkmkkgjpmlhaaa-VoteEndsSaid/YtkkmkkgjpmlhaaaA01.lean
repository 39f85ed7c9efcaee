/- step: what happens among peers. -/
import Derived.Test.YtkkmkkgjpmlhaaaA00
import Derived.Deep.DeepCutAuto
import Derived.Deep.CutBlock
import Derived.Deep.RegionHeld3
namespace Go.Proofs.Ytkkmkkgjpmlhaaa
open Go.RowKit Go.MapKept

/-- A step as a value. -/
def stepV (s : StepM) (v1 v2 : Value) : Value := .agg #[.int .i64 s.kind, .int .i64 s.frm, .int .i64 s.dst, .int .i64 s.num, .int .i64 s.vote.kind, .int .i64 s.vote.frm, .int .i64 s.vote.slot, .int .i64 s.vote.view, .int .i64 s.vote.valid, v1, v2]

/-- What a step leaves. -/
def StepPost (w : World) (Z : Nat → Prop) (pb n lb lc wb : Nat) (wg : Nat → Bool) (P : Nat → CoreM) (e : Ending) (w' : World) : Prop :=
  e = .returned (.bool true) ∧ ∃ B, PeersAt w' Z pb n lb lc wb B wg ∧ Lot w' Z 14 n B P ∧ Off (fun k => ¬ Z k ∨ k = lb) w w'

theorem vs_len {w : World} {base : Nat} {v : Value} {l : List Vote} (h : Vs w base v l) : l.length ≤ 9223372036854775807 := by
  obtain ⟨z, h1, h2, _⟩ := id h
  have := h2.1
  have h3 : l.length ≤ maxLen ∨ l.length = 0 := by
    rcases h2.2 with ⟨_, h0⟩ | ⟨_, cap0, _, hv0, _, _, h4, h5, _⟩
    · exact .inr h0
    · exact .inl (Nat.le_trans h4 h5)
  unfold maxLen at h3
  omega
theorem PeersAt.after {w W1 W : World} {Z Z1 : Nat → Prop} {pb n lb lc wb : Nat} {B : Nat → Nat} {wg : Nat → Bool} (hP : PeersAt w Z pb n lb lc wb B wg) (hb : Below w.heap.size w W1) (hz : ∀ k, Z k → Z1 k) (ho : Off (fun k => ¬ Z1 k) W1 W) : Off (fun k => ¬ Z k) w W :=
  (Off.of_below (F := fun k => ¬ Z k) hb).trans ho (fun k _ e h => e (hz k h))
theorem step_close {w W1 W : World} {Z Z1 : Nat → Prop} {pb n lb lc wb : Nat} {B : Nat → Nat} {wg : Nat → Bool} {P : Nat → CoreM} (hP : PeersAt w Z pb n lb lc wb B wg) (h0 : 0 < n) (hb : Below w.heap.size w W1) (hz : ∀ k, Z k → Z1 k) (hl : Lot W Z1 14 n B P) (ho : Off (fun k => ¬ Z1 k) W1 W) : StepPost w Z pb n lb lc wb wg P (.returned (.bool true)) W :=
  have h1 := hP.after hb hz ho
  ⟨rfl, B, hP.keep h0 h1 (fun e => e hP.zp) (fun e => e hP.zl) (fun e => e hP.zw), hl.mono hz, h1.mono (fun _ _ e => .inl e)⟩

theorem step_anew {w W1 W : World} {Z Z1 : Nat → Prop} {pb n lb lc wb d b : Nat} {B : Nat → Nat} {wg : Nat → Bool} {P : Nat → CoreM} (hP : PeersAt w Z pb n lb lc wb B wg) (h0 : 0 < n) (hd : d < n) (hb : Below w.heap.size w W1) (hz : ∀ k, Z k → Z1 k) (hl : Lot W Z1 14 n (updB B d b) P) (ho : Off (fun k => ¬ Z1 k) W1 W) : StepPost w Z pb n lb lc wb wg P (.returned (.bool true)) (W.setCell ⟨lb, d, none⟩ (.pointer (some ⟨b, 0, none⟩))) := by
  have h1 := hP.after hb hz ho
  have hk := hP.keep h0 h1 (fun e => e hP.zp) (fun e => e hP.zl) (fun e => e hP.zw)
  have hst : Off (fun k => k = lb) W (W.setCell ⟨lb, d, none⟩ (.pointer (some ⟨b, 0, none⟩))) := Off.setOne W ⟨lb, d, none⟩ _
  refine ⟨rfl, updB B d b, ⟨hst.cell_some hk.c0 hk.pl, hst.cell_some hk.c1 hk.pl, hst.cell_some hk.c2 hk.pl, fun j hj => ?_, fun j hj => hst.cell_some (hk.cw j hj) hk.wl, fun j => (World.frozen?_setCell ..).trans (hk.fl j), hP.zp, hP.zl, hP.zw, hP.pl, hP.wl⟩, (hl.zone hst (fun k _ e => by rw [e]; exact hz _ hP.zl)).mono (fun k hk => .inl (hz k hk)), ?_⟩
  · by_cases e : j = d
    · subst e
      rw [updB_same]
      exact World.cell?_setCell_same' _ _ _ (by rw [hk.cl j hj]; rfl)
    · rw [updB_other _ _ e, World.cell?_setCell_other _ _ _ _ (fun e2 => by injection e2 with _ e3; exact e e3.symm)]
      exact hk.cl j hj
  · exact (h1.mono (G := fun k => ¬ Z k ∨ k = lb) (fun _ _ e => .inl e)).setCell (p := ⟨lb, d, none⟩) (fun _ => .inr rfl) _

set_option maxRecDepth 100000 in
set_option maxHeartbeats 8000000 in
theorem step_any {w : World} {Z O : Nat → Prop} {pb n lb lc wb : Nat} {B : Nat → Nat} {wg : Nat → Bool} {P : Nat → CoreM} {slot : Int} {s : StepM} {A1 A2 : Option Addr} {c1 c2 : Nat} (h : PeersAt w Z pb n lb lc wb B wg) (hl : Lot w Z 14 n B P) (hc : Crew n slot wg P) (hn : n ≤ 64) (hs : 0 ≤ slot ∧ slot ≤ 256)
    (h1 : s.value.length ≤ 50) (h2 : s.vote.value.length ≤ 50) (hb1 : Bs w O (.slice A1 s.vote.value.length c1) s.vote.value) (hb2 : Bs w O (.slice A2 s.value.length c2) s.value)
    (hv : In64 s.vote.kind ∧ In64 s.vote.frm ∧ In64 s.vote.slot ∧ In64 s.vote.view ∧ In64 s.vote.valid ∧ s.vote.value.length ≤ 9223372036854775807) :
    Calls Try.prog 28 #[.pointer (some ⟨pb, 0, none⟩), stepV s (.slice A1 s.vote.value.length c1) (.slice A2 s.value.length c2), .int .i64 slot] w (StepPost w Z pb n lb lc wb wg (stepP n slot wg P s)) := by
  have n4 := hc.peers.n4
  have p0 := h.c0
  have HP := hid h
  have HL := hid hl
  have HC := hid hc
  obtain ⟨f, hf⟩ : ∃ f, f = idx s.frm n := ⟨_, rfl⟩
  obtain ⟨d, hd⟩ : ∃ d, d = idx s.dst n := ⟨_, rfl⟩
  have hfn : f < n := by rw [hf]; exact idx_lt _ (by omega)
  have hdn : d < n := by rw [hd]; exact idx_lt _ (by omega)
  have e1 : (IntKind.u64.wrap s.frm).tmod n = f := by rw [hf]; exact idx_eq _ (by omega)
  have e2 : (IntKind.u64.wrap s.dst).tmod n = d := by rw [hd]; exact idx_eq _ (by omega)
  have e3 : IntKind.u64.wrap (n : Int) = n := IntWalk.u64_in _ (by omega)
  have e4 : ((n : Int) == 0) = false := by simp; omega
  have HF := hid (show _ ∧ _ from ⟨hf, hd⟩)
  clear h hl hc hf hd
  unfold stepV
  go_enter Try.func28, Try.ntmps28
  go_upto_region 1 with fail
  obtain ⟨W0, hW0⟩ : ∃ W0 : World, W0 = w.alloc (.cells #[.int .i64 s.kind, .int .i64 s.frm, .int .i64 s.dst, .int .i64 s.num, .int .i64 s.vote.kind, .int .i64 s.vote.frm, .int .i64 s.vote.slot, .int .i64 s.vote.view, .int .i64 s.vote.valid, .slice A1 s.vote.value.length c1, .slice A2 s.value.length c2] 57) := ⟨_, rfl⟩
  rw [← hW0]
  have hy : ∀ (j : Nat) (u : Value), (#[Value.int .i64 s.kind, .int .i64 s.frm, .int .i64 s.dst, .int .i64 s.num, .int .i64 s.vote.kind, .int .i64 s.vote.frm, .int .i64 s.vote.slot, .int .i64 s.vote.view, .int .i64 s.vote.valid, .slice A1 s.vote.value.length c1, .slice A2 s.value.length c2] : Array Value)[j]? = some u → W0.cell? ⟨w.heap.size, j, none⟩ = some u := fun j u hu => by rw [hW0]; exact (cell_alloc_new w _ _ _ j rfl).trans hu
  have hb0 : Below w.heap.size w W0 := by rw [hW0]; exact (Below.refl _ w).alloc (Nat.le_refl _) _
  have hp0 := (hb0.cell (p := ⟨pb, 0, none⟩) (World.block_lt_of_cell? _ _ p0)).trans p0
  have y1 := hy 1 _ rfl
  have y2 := hy 2 _ rfl
  have HY := hid hy
  have HB0 := hid hb0
  clear hW0 hy hb0 p0
  go_cut [7, 8] (fun a b wx => a = .int .i64 f ∧ b = .int .i64 d ∧ Off (fun _ => False) W0 wx)
  case first =>
    go_quiet (fail)
    go_wp2
    go_meet
    case rel => exact ⟨rfl, rfl, (Off.refl _ _).drewN _⟩
  case rest =>
    obtain ⟨rfl, rfl, ho1⟩ := hcut
    obtain ⟨W1, rfl⟩ : ∃ W1 : World, W1 = wc := ⟨_, rfl⟩
    have hb1' : Below w.heap.size w W1 := HB0.out.trans (ho1.below.mono HB0.out.size)
    obtain ⟨Z1, hZ1⟩ : ∃ Z1 : Nat → Prop, Z1 = (fun k => Z k ∨ (w.heap.size ≤ k ∧ k < W1.heap.size)) := ⟨_, rfl⟩
    have hz1 : ∀ k, Z k → Z1 k := fun k hk => by rw [hZ1]; exact .inl hk
    have hl1 : Lot W1 Z1 14 n B P := by rw [hZ1]; exact HL.out.below hb1'
    have hy : ∀ (j : Nat) (u : Value), (#[Value.int .i64 s.kind, .int .i64 s.frm, .int .i64 s.dst, .int .i64 s.num, .int .i64 s.vote.kind, .int .i64 s.vote.frm, .int .i64 s.vote.slot, .int .i64 s.vote.view, .int .i64 s.vote.valid, .slice A1 s.vote.value.length c1, .slice A2 s.value.length c2] : Array Value)[j]? = some u → W1.cell? ⟨w.heap.size, j, none⟩ = some u := fun j u hu => ho1.cell_some (HY.out j u hu) id
    have hzb : Z1 w.heap.size := by rw [hZ1]; exact .inr ⟨Nat.le_refl _, World.block_lt_of_cell? _ _ (hy 0 _ rfl)⟩
    have hf : ∀ (W : World), Off (fun k => ¬ Z1 k) W1 W → Off (fun k => ¬ Z k) w W := fun W hW => HP.out.after hb1' hz1 hW
    have k0' := hy 0 _ rfl
    have q1 : ∀ W, Off (fun k => ¬ Z1 k) W1 W → W.cell? ⟨pb, 1, none⟩ = some (.slice (some ⟨lb, 0, none⟩) n lc) ∧ W.cell? ⟨lb, d, none⟩ = some (.pointer (some ⟨B d, 0, none⟩)) := fun W hW => ⟨(hf W hW).cell_some HP.out.c1 (fun e => e HP.out.zp), (hf W hW).cell_some (HP.out.cl d hdn) (fun e => e HP.out.zl)⟩
    have q2 : W1.cell? ⟨pb, 2, none⟩ = some (.slice (some ⟨wb, 0, none⟩) n n) := (hf W1 (Off.refl _ _)).cell_some HP.out.c2 (fun e => e HP.out.zp)
    have q3 : W1.cell? ⟨wb, f, none⟩ = some (.bool (wg f)) := (hf W1 (Off.refl _ _)).cell_some (HP.out.cw f hfn) (fun e => e HP.out.zw)
    obtain ⟨r1, r2⟩ := q1 W1 (Off.refl _ _)
    have hclose : ∀ (W : World) (c : CoreM), c = stepC n slot wg P s → Lot W Z1 14 n B (upd P d c) → Off (fun k => ¬ Z1 k) W1 W → StepPost w Z pb n lb lc wb wg (stepP n slot wg P s) (.returned (.bool true)) W := fun W c e h1 h2 => step_close HP.out (by omega) hb1' hz1 (by unfold stepP; rw [← e, ← HF.out.2]; exact h1) h2
    have hclose0 : ∀ (W : World), P d = stepC n slot wg P s → Lot W Z1 14 n B P → Off (fun k => ¬ Z1 k) W1 W → StepPost w Z pb n lb lc wb wg (stepP n slot wg P s) (.returned (.bool true)) W := fun W e h1 h2 => hclose W (P d) e (by rw [upd_self]; exact h1) h2
    have hfd := HC.out.fine hdn
    have hff := HC.out.fine hfn
    have HL1 := hid hl1
    have HY1 := hid hy
    have HQ1 := hid q1
    have HF1 := hid hf
    have HC1 := hid hclose
    have HC0 := hid hclose0
    have HB1' := hid hb1'
    have HZ1 := hid hz1
    have HBS := hid (show _ ∧ _ from ⟨hb1, hb2⟩)
    have hu1 : stepC n slot wg P s = if s.kind = 0 then (if wg f = true then P d else hear notB (P d) (P f).says)
      else if s.kind = 1 then (P d).late notB
      else if s.kind = 2 then (P d).anew
      else if s.kind = 3 then (if wg f = true then ((P d).take notB (forged s f slot)).2 else P d)
      else if s.kind = 4 then (P d).ask notB s.value
      else if s.kind = 5 then (if wg f = true then P d else match (P f).says[idx s.num (P f).says.length]? with
        | some v => ((P d).take notB v).2
        | none => P d)
      else P d := by rw [HF.out.1, HF.out.2]; rfl
    have HU := hid hu1
    have HST := hid (show stepP n slot wg P s = upd P d (stepC n slot wg P s) from by rw [HF.out.2]; rfl)
    clear hl1 hy q1 hf hclose hclose0 hb1' hz1 hb1 hb2 hu1 hZ1 y1 y2 hp0 e1 e2 e3 e4 HF
    by_cases k0 : s.kind = 0
    · have K0 := hid k0
      have j0 : (s.kind == 0) = true := by simp [k0]
      clear k0
      cases hw : wg f with
      | true =>
        rw [hw] at q3
        have HW := hid hw
        clear hw
        go_wp2
        go_ret
        exact HC0.out _ (by rw [HU.out, if_pos K0.out, if_pos HW.out]) HL1.out (Off.refl _ _)
      | false =>
        rw [hw] at q3
        have HW := hid hw
        have q4 : W1.cell? ⟨lb, f, none⟩ = some (.pointer (some ⟨B f, 0, none⟩)) := (HF1.out W1 (Off.refl _ _)).cell_some (HP.out.cl f hfn) (fun e => e HP.out.zl)
        obtain ⟨ρ, ci, hcore⟩ := HL1.out.core hfn
        have cS := says_any W1 hcore hff
        have hfin : hear notB (P d) (P f).says = stepC n slot wg P s := by rw [HU.out, if_pos K0.out, if_neg (by rw [HW.out]; decide)]
        have HNUM := hid (fun x hx => says_nums hff (x := x) hx)
        generalize (P f).says = L at cS hfin HNUM
        have HFIN := hid hfin
        clear hw hcore hfin
        go_wp2_with (go_at_call 22; refine cS.mono ?_; rintro e w6 ⟨vs, rfl, hvs, hb6⟩; obtain ⟨As, cs, rfl⟩ := hvs.slice)
        have hlenL : L.length ≤ 9223372036854775807 := vs_len hvs
        obtain ⟨Z2, hZ2⟩ : ∃ Z : Nat → Prop, Z = (fun k => Z1 k ∨ (W1.heap.size ≤ k ∧ k < w6.heap.size)) := ⟨_, rfl⟩
        have hz21 : ∀ k, Z1 k → Z2 k := fun k hk => by rw [hZ2]; exact .inl hk
        have hz16 : ∀ k, W1.heap.size ≤ k → k < w6.heap.size → Z2 k := fun k h1 h2 => by rw [hZ2]; exact .inr ⟨h1, h2⟩
        have hl6 : Lot w6 Z2 14 n B P := by rw [hZ2]; exact HL1.out.below hb6
        have HL6 := hid hl6
        have HVS := hid hvs
        have HZ16 := hid hz16
        have HZ21 := hid hz21
        have HB6 := hid hb6
        clear hl6 hvs hz16 hz21 hZ2 cS hb6
        go_loopw [56] (fun i wi => ∃ m : Nat, i = .int .i64 m ∧ m ≤ L.length ∧ Lot wi Z2 14 n B (upd P d (hear notB (P d) (L.take m))) ∧ Off (fun k => ¬ Z2 k) w6 wi)
          (fun i _ => L.length - (intOf i).toNat)
        case atStart => exact ⟨0, rfl, Nat.zero_le _, by rw [List.take_zero]; unfold hear; rw [List.foldl_nil, upd_self]; exact HL6.out, Off.refl _ _⟩
        case round =>
          obtain ⟨m, rfl, hm, hlot, hoff⟩ := hrel
          have hoff1 : Off (fun k => ¬ Z1 k) W1 wr := (Off.of_below (F := fun k => ¬ Z1 k) HB6.out).trans hoff (fun k _ e h => e (HZ21.out k h))
          by_cases hm4 : m < L.length
          · obtain ⟨x, hx⟩ : ∃ x, L[m]? = some x := ⟨_, List.getElem?_eq_getElem hm4⟩
            have hfT : (hear notB (P d) (L.take m)).Fine := hear_fine hfd _
            have hsucc : hear notB (P d) (L.take (m + 1)) = ((hear notB (P d) (L.take m)).take notB x).2 := by
              rw [List.take_add_one, hx]; unfold hear; simp
            have HS3 := hid hsucc
            clear hsucc
            generalize hear notB (P d) (L.take m) = T at hfT hlot HS3
            obtain ⟨gv, cap2, A3, c3, he, hbx, x0, x1, x2, x3, x4, x5⟩ := HVS.out.later hoff (fun k h1 h2 => HZ16.out k h1 h2) hx
            injection he with he1 _ he3
            subst he1
            subst he3
            have hnum := in64_says (HNUM.out x (List.mem_of_getElem? hx))
            have HOFF := hid hoff
            have HO1 := hid hoff1
            have HLOT := hid hlot
            have HBX := hid hbx
            have HNX := hid hnum
            have HFT := hid hfT
            clear hoff hoff1 hlot hbx hnum hfT hx
            go_wp2_with fail
            obtain ⟨Wb, hWb⟩ : ∃ Wb : World, Wb = wr.alloc (.cells #[.int .i64 x.kind, .int .i64 x.frm, .int .i64 x.slot, .int .i64 x.view, .int .i64 x.valid, .slice A3 x.value.length c3] 31) := ⟨_, rfl⟩
            rw [← hWb]
            have hbx : Below wr.heap.size wr Wb := by rw [hWb]; exact (Below.refl _ wr).alloc (Nat.le_refl _) _
            obtain ⟨Z3, hZ3⟩ : ∃ Z : Nat → Prop, Z = (fun k => Z2 k ∨ (wr.heap.size ≤ k ∧ k < Wb.heap.size)) := ⟨_, rfl⟩
            have hz32 : ∀ k, Z2 k → Z3 k := fun k hk => by rw [hZ3]; exact .inl hk
            have hz3b : Z3 wr.heap.size := by rw [hZ3]; exact .inr ⟨Nat.le_refl _, by rw [hWb]; simp⟩
            have hbxd : Below wr.heap.size wr Wb.drew := hbx.trans ((Off.refl (fun _ => False) Wb).drew.below.mono hbx.size)
            have hl3 : Lot Wb.drew Z3 14 n B (upd P d T) := by rw [hZ3]; exact HLOT.out.below hbxd
            have hdr : Off (fun k => ¬ Z3 k) Wb Wb.drew := (Off.refl _ _).drew
            have hS : ∀ W, Off (fun k => ¬ Z3 k) Wb W → (W.cell? ⟨pb, 1, none⟩ = some (.slice (some ⟨lb, 0, none⟩) n lc) ∧ W.cell? ⟨lb, d, none⟩ = some (.pointer (some ⟨B d, 0, none⟩)) ∧ W.cell? ⟨wr.heap.size, 0, none⟩ = some (.int .i64 x.kind) ∧ W.cell? ⟨wr.heap.size, 1, none⟩ = some (.int .i64 x.frm) ∧ W.cell? ⟨wr.heap.size, 2, none⟩ = some (.int .i64 x.slot) ∧ W.cell? ⟨wr.heap.size, 3, none⟩ = some (.int .i64 x.view) ∧ W.cell? ⟨wr.heap.size, 4, none⟩ = some (.int .i64 x.valid) ∧ W.cell? ⟨wr.heap.size, 5, none⟩ = some (.slice A3 x.value.length c3)) ∧ Off (fun k => ¬ Z2 k) w6 W := fun W hW => by
              have h0 : Off (fun k => ¬ Z2 k) wr W := (Off.of_below (F := fun k => ¬ Z2 k) hbx).trans hW (fun k _ e h => e (hz32 k h))
              have h1 : Off (fun k => ¬ Z1 k) W1 W := HO1.out.trans h0 (fun k _ e h => e (HZ21.out k h))
              have h2 := HQ1.out W h1
              exact ⟨⟨h2.1, h2.2, vote_box (x := x) hWb hz3b hW⟩, HOFF.out.trans h0 (fun _ _ h => h)⟩
            have cT := hl3.take (acc := notB) (v := x) (O := Z2) (val := .agg #[.int .i64 x.kind, .int .i64 x.frm, .int .i64 x.slot, .int .i64 x.view, .int .i64 x.valid, .slice A3 x.value.length c3]) hdn (by rw [upd_same]; exact HFT.out) not_accepts ⟨_, rfl, HBX.out.below hbxd, HNX.out⟩
            rw [upd_same, upd_upd] at cT
            have HS := hid hS
            have HZ32 := hid hz32
            clear hWb hbx hz32 hbxd hl3 hS hZ3 x0 x1 x2 x3 x4 x5
            obtain ⟨bx, hbxe⟩ : ∃ bx, bx = wr.heap.size := ⟨_, rfl⟩
            rw [← hbxe] at HS hz3b ⊢
            clear hbxe
            go_region_held3 (fun W => W.cell? ⟨pb, 1, none⟩ = some (.slice (some ⟨lb, 0, none⟩) n lc) ∧ W.cell? ⟨lb, d, none⟩ = some (.pointer (some ⟨B d, 0, none⟩)) ∧ W.cell? ⟨bx, 0, none⟩ = some (.int .i64 x.kind) ∧ W.cell? ⟨bx, 1, none⟩ = some (.int .i64 x.frm) ∧ W.cell? ⟨bx, 2, none⟩ = some (.int .i64 x.slot) ∧ W.cell? ⟨bx, 3, none⟩ = some (.int .i64 x.view) ∧ W.cell? ⟨bx, 4, none⟩ = some (.int .i64 x.valid) ∧ W.cell? ⟨bx, 5, none⟩ = some (.slice A3 x.value.length c3))
              (first | exact (HS.out _ ho9').1 | exact (HS.out _ hdr).1)
              (first | (go_at_call 17; refine cT.mono ?_; rintro e w9 ⟨rfl, hl9, ho9⟩; have ho9' := hdr.trans ho9 (fun _ _ h => h)))
            all_goals
              go_wp2
              go_roundw
              case rel => exact ⟨m + 1, by go_num, hm4, by rw [HS3.out]; exact hl9.mono HZ32.out, (HS.out _ ho9').2⟩
              case measure => simp [intOf]; omega
          · have hme : m = L.length := by omega
            subst hme
            rw [List.take_length] at hlot
            have HLOT := hid hlot
            have HO1 := hid hoff1
            clear hlot hoff hoff1
            go_wp2
            go_ret
            exact HC1.out _ _ HFIN.out (HLOT.out.mono HZ21.out) HO1.out
    by_cases k1 : s.kind = 1
    · have K0 := hid k0
      have K1 := hid k1
      have j0 : (s.kind == 0) = false := by simp [k0]
      have j1 : (s.kind == 1) = true := by simp [k1]
      have cL := HL1.out.late (acc := notB) (j := d) hdn hfd not_accepts
      clear k0 k1
      go_wp2_with (go_at_call 19; refine cL.mono ?_; rintro e w6 ⟨rfl, hl6, ho6⟩)
      go_ret
      exact HC1.out _ _ (by rw [HU.out, if_neg K0.out, if_pos K1.out]) hl6 ho6
    by_cases k2 : s.kind = 2
    · have K0 := hid k0
      have K1 := hid k1
      have K2 := hid k2
      have j0 : (s.kind == 0) = false := by simp [k0]
      have j1 : (s.kind == 1) = false := by simp [k1]
      have j2 : (s.kind == 2) = true := by simp [k2]
      clear k0 k1 k2
      go_upto_region 13 with fail
      have hdr : Off (fun k => ¬ Z1 k) W1 W1.drew := (Off.refl _ _).drew
      have hids := HC.out.peers.ids d hdn
      obtain ⟨ρ, ci, hcore⟩ := HL1.out.core hdn
      have hlenB : (P d).bytes.length ≤ 268435456 := (HC.out.lim d hdn).bytes hfd (by decide)
      have cB := fun (W : World) (hW : Below W1.heap.size W1 W) => bytes_any W (hcore.below hW) hfd (Nat.le_trans hlenB (by decide))
      have hof : ofM n ((d : Int) + 1) slot (P d).bytes = some (P d).anew := by
        have := (HC.out.anew hdn).2
        rw [hids.1, hids.2.1, hids.2.2] at this
        exact this
      have cO : ∀ (W : World) (O' : Nat → Prop) (v : Value), Below W1.heap.size W1 W → Bs W O' v (P d).bytes → Calls Try.prog 24 #[.int .i64 n, .int .i64 ((d : Int) + 1), .int .i64 slot, .func (.func 14) #[] #[], v] W fun e w' => ∃ b, e = .returned (.tuple #[.pointer (some ⟨b, 0, none⟩), .int .i64 0]) ∧ Lot w' Z1 14 n (updB B d b) (upd P d (P d).anew) ∧ Below W.heap.size W w' := fun W O' v hW hb => by
        have h1 := ((HL1.out.below hW).mono (Z' := Z1) (fun _ h => .inl h)).of (j := d) (by omega) (m := n) (me := (d : Int) + 1) (slot := slot) ⟨by omega, by omega, by omega, by omega, by omega, by omega⟩ hb hlenB
        rw [hof] at h1
        refine h1.mono ?_
        intro e w' h2
        obtain ⟨hbw, b, rfl, hlb⟩ := h2
        rw [show max n (d + 1) = n from by omega] at hlb
        exact ⟨b, rfl, hlb, hbw⟩
      have q0 : ∀ W, Off (fun k => ¬ Z1 k) W1 W → W.cell? ⟨pb, 0, none⟩ = some (.int .i64 n) := fun W hW => (HF1.out W hW).cell_some HP.out.c0 (fun e => e HP.out.zp)
      have ek : IntKind.i64.wrap ((d : Int) + 1) = d + 1 := IntWalk.i64_in _ (by omega)
      have hfl : ∀ W, Off (fun k => ¬ Z1 k) W1 W → W.frozen? ⟨lb, d, none⟩ = false := fun W hW => ((HF1.out W hW).frozen (a := ⟨lb, d, none⟩) (World.block_lt_of_cell? _ _ (HP.out.cl d hdn)) (fun e => e HP.out.zl)).trans (HP.out.fl d)
      have HS := hid (show ∀ W, Off (fun k => ¬ Z1 k) W1 W → W.cell? ⟨pb, 0, none⟩ = some (.int .i64 n) ∧ W.cell? ⟨pb, 1, none⟩ = some (.slice (some ⟨lb, 0, none⟩) n lc) ∧ W.cell? ⟨lb, d, none⟩ = some (.pointer (some ⟨B d, 0, none⟩)) from fun W hW => ⟨q0 W hW, HQ1.out W hW⟩)
      have HFL := hid hfl
      clear q0 hfl hof hlenB hcore hids
      go_region_held3 (fun W => W.cell? ⟨pb, 0, none⟩ = some (.int .i64 n) ∧ W.cell? ⟨pb, 1, none⟩ = some (.slice (some ⟨lb, 0, none⟩) n lc) ∧ W.cell? ⟨lb, d, none⟩ = some (.pointer (some ⟨B d, 0, none⟩)))
        (first | exact HS.out _ ho6 | exact HS.out _ ho5 | exact HS.out _ hdr)
        (first
          | (go_at_call 15; refine (cB _ (Off.refl (fun _ => False) W1).drew.below).mono ?_; rintro e w5 ⟨v5, rfl, hown5, hb5⟩; obtain ⟨A5, n5, c5, rfl⟩ := hown5.form; have hb5' : Below W1.heap.size W1 w5 := below_drew_l hb5; have ho5 : Off (fun k => ¬ Z1 k) W1 w5 := Off.of_below hb5')
          | (go_at_call 24; refine (cO _ _ _ hb5' hown5.bs).mono ?_; rintro e w6 ⟨b6, rfl, hl6, hb6⟩; have ho6 : Off (fun k => ¬ Z1 k) W1 w6 := Off.of_below (hb5'.trans (hb6.mono hb5'.size)); have hfz := HFL.out _ ho6; obtain ⟨t0, t1, t2⟩ := HS.out _ ho6))
      all_goals
        go_wp2
        go_ret
        rw [HST.out, HU.out, if_neg K0.out, if_neg K1.out, if_pos K2.out]
        exact step_anew HP.out (by omega) hdn HB1'.out HZ1.out hl6 ho6
    by_cases k3 : s.kind = 3
    · have K0 := hid k0
      have K1 := hid k1
      have K2 := hid k2
      have K3 := hid k3
      have j0 : (s.kind == 0) = false := by simp [k0]
      have j1 : (s.kind == 1) = false := by simp [k1]
      have j2 : (s.kind == 2) = false := by simp [k2]
      have j3 : (s.kind == 3) = true := by simp [k3]
      clear k0 k1 k2 k3
      cases hw : wg f with
      | false =>
        rw [hw] at q3
        have HW := hid hw
        clear hw
        go_wp2
        go_ret
        exact HC0.out _ (by rw [HU.out, if_neg K0.out, if_neg K1.out, if_neg K2.out, if_pos K3.out, if_neg (by rw [HW.out]; decide)]) HL1.out (Off.refl _ _)
      | true =>
        rw [hw] at q3
        have HW := hid hw
        have ek : IntKind.i64.wrap ((f : Int) + 1) = f + 1 := IntWalk.i64_in _ (by omega)
        have v4 := HY1.out 4 _ rfl
        have v5 := HY1.out 5 _ rfl
        have v6 := HY1.out 6 _ rfl
        have v7 := HY1.out 7 _ rfl
        have v8 := HY1.out 8 _ rfl
        have v9 := HY1.out 9 _ rfl
        clear hw
        go_upto_region 21 with fail
        obtain ⟨Wb, hWb⟩ : ∃ Wb : World, Wb = W1.alloc (.cells #[.int .i64 s.vote.kind, .int .i64 ((f : Int) + 1), .int .i64 slot, .int .i64 s.vote.view, .int .i64 s.vote.valid, .slice A1 s.vote.value.length c1] 31) := ⟨_, rfl⟩
        rw [← hWb]
        have hbx : Below W1.heap.size W1 Wb := by rw [hWb]; exact (Below.refl _ W1).alloc (Nat.le_refl _) _
        obtain ⟨Z2, hZ2⟩ : ∃ Z : Nat → Prop, Z = (fun k => Z1 k ∨ (W1.heap.size ≤ k ∧ k < Wb.heap.size)) := ⟨_, rfl⟩
        have hz21 : ∀ k, Z1 k → Z2 k := fun k hk => by rw [hZ2]; exact .inl hk
        have hz2b : Z2 W1.heap.size := by rw [hZ2]; exact .inr ⟨Nat.le_refl _, by rw [hWb]; simp⟩
        have hbxd : Below W1.heap.size W1 Wb.drew := hbx.trans ((Off.refl (fun _ => False) Wb).drew.below.mono hbx.size)
        have hl2 : Lot Wb.drew Z2 14 n B P := by rw [hZ2]; exact HL1.out.below hbxd
        have hdr : Off (fun k => ¬ Z2 k) Wb Wb.drew := (Off.refl _ _).drew
        have hS : ∀ W, Off (fun k => ¬ Z2 k) Wb W → (W.cell? ⟨pb, 1, none⟩ = some (.slice (some ⟨lb, 0, none⟩) n lc) ∧ W.cell? ⟨lb, d, none⟩ = some (.pointer (some ⟨B d, 0, none⟩)) ∧ W.cell? ⟨W1.heap.size, 0, none⟩ = some (.int .i64 s.vote.kind) ∧ W.cell? ⟨W1.heap.size, 1, none⟩ = some (.int .i64 ((f : Int) + 1)) ∧ W.cell? ⟨W1.heap.size, 2, none⟩ = some (.int .i64 slot) ∧ W.cell? ⟨W1.heap.size, 3, none⟩ = some (.int .i64 s.vote.view) ∧ W.cell? ⟨W1.heap.size, 4, none⟩ = some (.int .i64 s.vote.valid) ∧ W.cell? ⟨W1.heap.size, 5, none⟩ = some (.slice A1 s.vote.value.length c1)) ∧ Off (fun k => ¬ Z1 k) W1 W := fun W hW => by
          have h1 : Off (fun k => ¬ Z1 k) W1 W := (Off.of_below (F := fun k => ¬ Z1 k) hbx).trans hW (fun k _ e h => e (hz21 k h))
          have h2 := HQ1.out W h1
          have h3 := vote_box (x := forged s f slot) (s := .slice A1 s.vote.value.length c1) hWb hz2b hW
          exact ⟨⟨h2.1, h2.2, h3⟩, h1⟩
        have cT := hl2.take (acc := notB) (v := forged s f slot) (O := O) (val := .agg #[.int .i64 s.vote.kind, .int .i64 ((f : Int) + 1), .int .i64 slot, .int .i64 s.vote.view, .int .i64 s.vote.valid, .slice A1 s.vote.value.length c1]) hdn hfd not_accepts ⟨_, rfl, HBS.out.1.below (HB1'.out.trans (hbxd.mono HB1'.out.size)), by unfold forged In64; unfold In64 at hv; dsimp only; omega⟩
        have HS := hid hS
        have HZ21 := hid hz21
        clear hWb hbx hz21 hbxd hl2 hS hZ2
        obtain ⟨bx, hbxe⟩ : ∃ bx, bx = W1.heap.size := ⟨_, rfl⟩
        rw [← hbxe] at HS hz2b ⊢
        clear hbxe
        go_region_held3 (fun W => W.cell? ⟨pb, 1, none⟩ = some (.slice (some ⟨lb, 0, none⟩) n lc) ∧ W.cell? ⟨lb, d, none⟩ = some (.pointer (some ⟨B d, 0, none⟩)) ∧ W.cell? ⟨bx, 0, none⟩ = some (.int .i64 s.vote.kind) ∧ W.cell? ⟨bx, 1, none⟩ = some (.int .i64 ((f : Int) + 1)) ∧ W.cell? ⟨bx, 2, none⟩ = some (.int .i64 slot) ∧ W.cell? ⟨bx, 3, none⟩ = some (.int .i64 s.vote.view) ∧ W.cell? ⟨bx, 4, none⟩ = some (.int .i64 s.vote.valid) ∧ W.cell? ⟨bx, 5, none⟩ = some (.slice A1 s.vote.value.length c1))
          (first | exact (HS.out _ ho6').1 | exact (HS.out _ hdr).1)
          (first | (go_at_call 17; refine cT.mono ?_; rintro e w6 ⟨rfl, hl6, ho6⟩; have ho6' := hdr.trans ho6 (fun _ _ h => h)))
        all_goals
          go_wp2
          go_ret
          exact HC1.out _ _ (by rw [HU.out, if_neg K0.out, if_neg K1.out, if_neg K2.out, if_pos K3.out, if_pos HW.out]) (hl6.mono HZ21.out) (HS.out _ ho6').2
    by_cases k4 : s.kind = 4
    · have K0 := hid k0
      have K1 := hid k1
      have K2 := hid k2
      have K3 := hid k3
      have K4 := hid k4
      have j0 : (s.kind == 0) = false := by simp [k0]
      have j1 : (s.kind == 1) = false := by simp [k1]
      have j2 : (s.kind == 2) = false := by simp [k2]
      have j3 : (s.kind == 3) = false := by simp [k3]
      have j4 : (s.kind == 4) = true := by simp [k4]
      have v10 := HY1.out 10 _ rfl
      clear k0 k1 k2 k3 k4
      go_upto_region 23 with fail
      have hdr : Off (fun k => ¬ Z1 k) W1 W1.drew := (Off.refl _ _).drew
      have hl1d : Lot W1.drew Z1 14 n B P := (HL1.out.below (Off.refl (fun _ => False) W1).drew.below).mono (fun _ h => .inl h)
      have cW := hl1d.wish (acc := notB) (j := d) hdn hfd not_accepts (O := O) (val := .slice A2 s.value.length c2) (l := s.value) (HBS.out.2.below (HB1'.out.trans (Below.refl _ _).drew)) (by omega)
      have HS := hid (show ∀ W, Off (fun k => ¬ Z1 k) W1 W → W.cell? ⟨pb, 1, none⟩ = some (.slice (some ⟨lb, 0, none⟩) n lc) ∧ W.cell? ⟨lb, d, none⟩ = some (.pointer (some ⟨B d, 0, none⟩)) ∧ W.cell? ⟨w.heap.size, 10, none⟩ = some (.slice A2 s.value.length c2) from fun W hW => ⟨(HQ1.out W hW).1, (HQ1.out W hW).2, hW.cell_some v10 (fun e => e hzb)⟩)
      clear hl1d
      go_region_held3 (fun W => W.cell? ⟨pb, 1, none⟩ = some (.slice (some ⟨lb, 0, none⟩) n lc) ∧ W.cell? ⟨lb, d, none⟩ = some (.pointer (some ⟨B d, 0, none⟩)) ∧ W.cell? ⟨w.heap.size, 10, none⟩ = some (.slice A2 s.value.length c2))
        (first | exact HS.out _ (hdr.trans ho6 (fun _ _ h => h)) | exact HS.out _ hdr)
        (first | (go_at_call 18; refine cW.mono ?_; rintro e w6 ⟨rfl, hl6, ho6⟩))
      all_goals
        go_wp2
        go_ret
        exact HC1.out _ _ (by rw [HU.out, if_neg K0.out, if_neg K1.out, if_neg K2.out, if_neg K3.out, if_pos K4.out]) hl6 (hdr.trans ho6 (fun _ _ h => h))
    by_cases k5 : s.kind = 5
    · have K0 := hid k0
      have K1 := hid k1
      have K2 := hid k2
      have K3 := hid k3
      have K4 := hid k4
      have K5 := hid k5
      have j0 : (s.kind == 0) = false := by simp [k0]
      have j1 : (s.kind == 1) = false := by simp [k1]
      have j2 : (s.kind == 2) = false := by simp [k2]
      have j3 : (s.kind == 3) = false := by simp [k3]
      have j4 : (s.kind == 4) = false := by simp [k4]
      have j5 : (s.kind == 5) = true := by simp [k5]
      have q4 : W1.cell? ⟨lb, f, none⟩ = some (.pointer (some ⟨B f, 0, none⟩)) := (HF1.out W1 (Off.refl _ _)).cell_some (HP.out.cl f hfn) (fun e => e HP.out.zl)
      obtain ⟨ρ, ci, hcore⟩ := HL1.out.core hfn
      have cS := says_any W1 hcore hff
      have hu5 : stepC n slot wg P s = if wg f = true then P d else match (P f).says[idx s.num (P f).says.length]? with
        | some v => ((P d).take notB v).2
        | none => P d := by rw [HU.out, if_neg K0.out, if_neg K1.out, if_neg K2.out, if_neg K3.out, if_neg K4.out, if_pos K5.out]
      have hL0 : 0 < (P f).says.length := by unfold CoreM.says; simp
      have HNUM := hid (fun x hx => says_nums hff (x := x) hx)
      generalize (P f).says = L at cS hu5 HNUM hL0
      have HU5 := hid hu5
      have v3 := HY1.out 3 _ rfl
      clear k0 k1 k2 k3 k4 k5 hcore hu5
      cases hw : wg f with
      | true =>
        rw [hw] at q3
        have HW := hid hw
        clear hw
        go_wp2_with (go_at_call 22; refine cS.mono ?_; rintro e w6 ⟨vs, rfl, hvs, hb6⟩; obtain ⟨As, cs, rfl⟩ := hvs.slice; have q2 := (hb6.cell (p := ⟨pb, 2, none⟩) (World.block_lt_of_cell? _ _ q2)).trans q2; have q3 := (hb6.cell (p := ⟨wb, f, none⟩) (World.block_lt_of_cell? _ _ q3)).trans q3)
        go_ret
        exact HC0.out _ (by rw [HU5.out, if_pos HW.out]) ((HL1.out.below hb6).mono (fun _ h => .inl h)) (Off.of_below hb6)
      | false =>
        rw [hw] at q3
        have HW := hid hw
        have hl0 : decide ((0 : Int) < (L.length : Int)) = true := decide_eq_true (by omega)
        clear hw
        go_upto_region 27 with (go_at_call 22; refine cS.mono ?_; rintro e w6 ⟨vs, rfl, hvs, hb6⟩; obtain ⟨As, cs, rfl⟩ := hvs.slice; have q2 := (hb6.cell (p := ⟨pb, 2, none⟩) (World.block_lt_of_cell? _ _ q2)).trans q2; have q3 := (hb6.cell (p := ⟨wb, f, none⟩) (World.block_lt_of_cell? _ _ q3)).trans q3)
        have hlenL : L.length ≤ 9223372036854775807 := vs_len hvs
        obtain ⟨m, hme⟩ : ∃ m, m = idx s.num L.length := ⟨_, rfl⟩
        have hm4 : m < L.length := by rw [hme]; exact idx_lt _ hL0
        have e5 : (IntKind.u64.wrap s.num).tmod L.length = m := by rw [hme]; exact idx_eq _ hL0
        have e6 : IntKind.u64.wrap (L.length : Int) = L.length := IntWalk.u64_in _ (by omega)
        have e7 : ((L.length : Int) == 0) = false := beq_eq_false_iff_ne.2 (by omega)
        obtain ⟨x, hx⟩ : ∃ x, L[m]? = some x := ⟨_, List.getElem?_eq_getElem hm4⟩
        have hfin : ((P d).take notB x).2 = stepC n slot wg P s := by rw [HU5.out, if_neg (by rw [HW.out]; decide), ← hme, hx]
        have hb6d : Below W1.heap.size W1 w6.drew := hb6.trans ((Off.refl (fun _ => False) w6).drew.below.mono hb6.size)
        obtain ⟨Z2, hZ2⟩ : ∃ Z : Nat → Prop, Z = (fun k => Z1 k ∨ (W1.heap.size ≤ k ∧ k < w6.drew.heap.size)) := ⟨_, rfl⟩
        have hz21 : ∀ k, Z1 k → Z2 k := fun k hk => by rw [hZ2]; exact .inl hk
        have hz16 : ∀ k, W1.heap.size ≤ k → k < w6.heap.size → Z2 k := fun k h1 h2 => by rw [hZ2]; exact .inr ⟨h1, h2⟩
        have hl6 : Lot w6.drew Z2 14 n B P := by rw [hZ2]; exact HL1.out.below hb6d
        have hdr : Off (fun k => ¬ Z2 k) w6 w6.drew := (Off.refl _ _).drew
        obtain ⟨gv, cap2, A3, c3, he, -, x0, x1, x2, x3, x4, x5⟩ := hvs.later (Off.refl (fun k => ¬ Z2 k) w6) (fun k h1 h2 => hz16 k h1 h2) hx
        obtain ⟨gv', cap2', A3', c3', he', hbx, x0', x1', x2', x3', x4', x5'⟩ := hvs.later hdr (fun k h1 h2 => hz16 k h1 h2) hx
        injection he with he1 _ he3
        subst he1
        subst he3
        injection he' with he1 _ he3
        injection he1 with he1
        injection he1 with he1
        subst he1
        subst he3
        have e9 : A3 = A3' ∧ c3 = c3' := by
          have h1 : w6.cell? ⟨gv, m * 6 + 5, none⟩ = some (.slice A3' x.value.length c3') := x5'
          rw [x5] at h1
          injection h1 with h1
          injection h1 with h1 _ h2
          exact ⟨h1, h2⟩
        obtain ⟨rfl, rfl⟩ := e9
        have hzg : Z2 gv := hz16 _ (by obtain ⟨g', c', A', cc', h1, h2, _⟩ := hvs.get hx; injection h1 with h1 _ _; injection h1 with h1; injection h1 with h1; rw [h1]; exact h2) (World.block_lt_of_cell? _ _ x0)
        have hzbx := hz21 _ hzb
        have v3' := (hb6.cell (p := ⟨w.heap.size, 3, none⟩) (World.block_lt_of_cell? _ _ v3)).trans v3
        have hS : ∀ W, Off (fun k => ¬ Z2 k) w6 W → (W.cell? ⟨pb, 1, none⟩ = some (.slice (some ⟨lb, 0, none⟩) n lc) ∧ W.cell? ⟨lb, d, none⟩ = some (.pointer (some ⟨B d, 0, none⟩)) ∧ W.cell? ⟨w.heap.size, 3, none⟩ = some (.int .i64 s.num) ∧ W.cell? ⟨gv, m * 6, none⟩ = some (.int .i64 x.kind) ∧ W.cell? ⟨gv, m * 6 + 1, none⟩ = some (.int .i64 x.frm) ∧ W.cell? ⟨gv, m * 6 + 2, none⟩ = some (.int .i64 x.slot) ∧ W.cell? ⟨gv, m * 6 + 3, none⟩ = some (.int .i64 x.view) ∧ W.cell? ⟨gv, m * 6 + 4, none⟩ = some (.int .i64 x.valid) ∧ W.cell? ⟨gv, m * 6 + 5, none⟩ = some (.slice A3 x.value.length c3)) ∧ Off (fun k => ¬ Z1 k) W1 W := fun W hW => by
          have h1 : Off (fun k => ¬ Z1 k) W1 W := (Off.of_below (F := fun k => ¬ Z1 k) hb6).trans hW (fun k _ e h => e (hz21 k h))
          have h2 := HQ1.out W h1
          have g : ∀ (j : Nat) (u : Value), w6.cell? ⟨gv, j, none⟩ = some u → W.cell? ⟨gv, j, none⟩ = some u := fun j u hu => hW.cell_some hu (fun e => e hzg)
          exact ⟨⟨h2.1, h2.2, hW.cell_some v3' (fun e => e hzbx), g _ _ x0, g _ _ x1, g _ _ x2, g _ _ x3, g _ _ x4, g _ _ x5⟩, h1⟩
        have cT := hl6.take (acc := notB) (v := x) (O := Z2) (val := .agg #[.int .i64 x.kind, .int .i64 x.frm, .int .i64 x.slot, .int .i64 x.view, .int .i64 x.valid, .slice A3 x.value.length c3]) hdn hfd not_accepts ⟨_, rfl, hbx, in64_says (HNUM.out x (List.mem_of_getElem? hx))⟩
        have HS := hid hS
        have HZ21 := hid hz21
        have HFIN := hid hfin
        clear hb6 hb6d hz21 hz16 hl6 hS hZ2 hfin hx hbx x0 x1 x2 x3 x4 x5 x0' x1' x2' x3' x4' x5' cS v3 v3' hvs hme q2 q3 q4 r1 r2
        obtain ⟨N, hN⟩ : ∃ N, N = L.length := ⟨_, rfl⟩
        rw [← hN] at hm4 e5 e6 e7 hlenL ⊢
        have hN0 : ¬ N = 0 := by omega
        have hmI : (m : Int) < N := by omega
        have e8 : IntKind.i64.wrap (m : Int) = m := IntWalk.i64_in _ (by omega)
        have hm0 : (0 : Int) ≤ m := by omega
        clear hN hl0 hL0
        go_region_held3 (fun W => W.cell? ⟨pb, 1, none⟩ = some (.slice (some ⟨lb, 0, none⟩) n lc) ∧ W.cell? ⟨lb, d, none⟩ = some (.pointer (some ⟨B d, 0, none⟩)) ∧ W.cell? ⟨w.heap.size, 3, none⟩ = some (.int .i64 s.num) ∧ W.cell? ⟨gv, m * 6, none⟩ = some (.int .i64 x.kind) ∧ W.cell? ⟨gv, m * 6 + 1, none⟩ = some (.int .i64 x.frm) ∧ W.cell? ⟨gv, m * 6 + 2, none⟩ = some (.int .i64 x.slot) ∧ W.cell? ⟨gv, m * 6 + 3, none⟩ = some (.int .i64 x.view) ∧ W.cell? ⟨gv, m * 6 + 4, none⟩ = some (.int .i64 x.valid) ∧ W.cell? ⟨gv, m * 6 + 5, none⟩ = some (.slice A3 x.value.length c3))
          (first | exact (HS.out _ ho9').1 | exact (HS.out _ hdr).1)
          (first | (go_at_call 17; refine cT.mono ?_; rintro e w9 ⟨rfl, hl9, ho9⟩; have ho9' := hdr.trans ho9 (fun _ _ h => h)))
        all_goals
          go_wp2
          go_ret
          exact HC1.out _ _ HFIN.out (hl9.mono HZ21.out) (HS.out _ ho9').2
    · have K0 := hid k0
      have K1 := hid k1
      have K2 := hid k2
      have K3 := hid k3
      have K4 := hid k4
      have K5 := hid k5
      have j0 : (s.kind == 0) = false := by simp [k0]
      have j1 : (s.kind == 1) = false := by simp [k1]
      have j2 : (s.kind == 2) = false := by simp [k2]
      have j3 : (s.kind == 3) = false := by simp [k3]
      have j4 : (s.kind == 4) = false := by simp [k4]
      have j5 : (s.kind == 5) = false := by simp [k5]
      clear k0 k1 k2 k3 k4 k5
      go_wp2
      go_ret
      exact HC0.out _ (by rw [HU.out, if_neg K0.out, if_neg K1.out, if_neg K2.out, if_neg K3.out, if_neg K4.out, if_neg K5.out]) HL1.out (Off.refl _ _)
end Go.Proofs.Ytkkmkkgjpmlhaaa
