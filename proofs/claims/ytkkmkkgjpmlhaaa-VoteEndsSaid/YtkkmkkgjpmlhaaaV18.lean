/- A slice of votes; mine: its own votes of a kind. -/
import Derived.Test.YtkkmkkgjpmlhaaaV17
namespace Go.Proofs.Ytkkmkkgjpmlhaaa
open Go.RowKit Go.MapKept

theorem info_vote : (Try.prog.info? 31).map (fun i => (i.zero, i.size, i.bytes)) = some (some (.agg #[.int .i64 0, .int .i64 0, .int .i64 0, .int .i64 0, .int .i64 0, .slice none 0 0]), 6, 64) := by kernel_rfl

def voteCells (s : Value) (x : Vote) : List Value := [.int .i64 x.kind, .int .i64 x.frm, .int .i64 x.slot, .int .i64 x.view, .int .i64 x.valid, s]

/-- A slice of votes of the call's own, in blocks from 'base' on, that reads as a list. -/
def Vs (w : World) (base : Nat) (v : Value) (l : List Vote) : Prop :=
  ∃ z : List (Value × Vote), l = z.map (·.2) ∧ w.ownsRow base 31 6 v l.length (z.flatMap fun p => voteCells p.1 p.2) ∧ ∀ p ∈ z, Bs w (fun k => base ≤ k ∧ v.ownBlock ≠ some k) p.1 p.2.value

theorem Vs.nil (w : World) (base : Nat) : Vs w base (.slice none 0 0) [] := ⟨[], rfl, World.ownsRow_nil _ _ _ _, by simp⟩

theorem Vs.below {w w1 : World} {base : Nat} {v : Value} {l : List Vote} (h : Vs w base v l) (hb : Below w.heap.size w w1) : Vs w1 base v l := by
  obtain ⟨z, h1, h2, h3⟩ := h
  exact ⟨z, h1, h2.kept (row := none) ⟨hb.os, hb.tape, hb.output, hb.size, fun k hk _ => hb.block k hk⟩ (by cases h : v.ownBlock <;> simp), fun p hp => (h3 p hp).below hb⟩
theorem Vs.mono {w : World} {base base' : Nat} {v : Value} {l : List Vote} (h : Vs w base v l) (hb : base' ≤ base) : Vs w base' v l := by
  obtain ⟨z, h1, ⟨g1, g2⟩, h3⟩ := h
  refine ⟨z, h1, ⟨g1, ?_⟩, fun p hp => (h3 p hp).mono (fun k _ hk => ⟨Nat.le_trans hb hk.1, hk.2⟩)⟩
  rcases g2 with g | ⟨g, cap, cur, e, hg, r⟩
  · exact .inl g
  · exact .inr ⟨g, cap, cur, e, Nat.le_trans hb hg, r⟩

/-- What the append of a vote leaves. -/
theorem Vs.push {w w3 w4 : World} {base gg cap : Nat} {v s : Value} {l : List Vote} {z : List (Value × Vote)} {x : Vote} (hl : l = z.map (·.2)) (h2 : w.ownsRow base 31 6 v l.length (z.flatMap fun p => voteCells p.1 p.2)) (h3 : ∀ p ∈ z, Bs w (fun k => base ≤ k ∧ v.ownBlock ≠ some k) p.1 p.2.value)
    (hb : Below w.heap.size w w3) (hbase : base ≤ w.heap.size) (hs : Bs w3 (fun k => w.heap.size ≤ k) s x.value)
    (hown : w4.ownsRow base 31 6 (.slice (some ⟨gg, 0, none⟩) (l.length + 1) cap) (l.length + 1) ((z.flatMap fun p => voteCells p.1 p.2) ++ voteCells s x)) (hg : w3.grownBy w4 v.ownBlock) (hat : v.ownBlock = some gg ∨ w3.heap.size ≤ gg) :
    Vs w4 base (.slice (some ⟨gg, 0, none⟩) (l.length + 1) cap) (l ++ [x]) := by
  have hlt : ∀ k, v.ownBlock = some k → base ≤ k ∧ k < w.heap.size := h2.lt
  have hoff : Off (fun k => v.ownBlock = some k) w3 w4 := (Off.refl _ w3).grown hg (fun b hb _ => hb)
  refine ⟨z ++ [(s, x)], by simp [hl], by simpa [List.flatMap_append] using hown, fun p hp => ?_⟩
  have hfin : ∀ (v' : Value) (l' : List UInt8), Bs w3 (fun k => base ≤ k ∧ v.ownBlock ≠ some k) v' l' → Bs w4 (fun k => base ≤ k ∧ (Value.slice (some ⟨gg, 0, none⟩) (l.length + 1) cap).ownBlock ≠ some k) v' l' := fun v' l' h => by
    have h' : Bs w3 (fun k => base ≤ k ∧ v.ownBlock ≠ some k ∧ k < w3.heap.size) v' l' := h.mono (fun k hk ho => ⟨ho.1, ho.2, hk⟩)
    refine (h'.keep hoff (fun k _ ho f => ho.2.1 f)).mono (fun k _ ho => ⟨ho.1, fun e => ?_⟩)
    have e' : gg = k := by simpa [Value.ownBlock] using e
    subst e'
    rcases hat with e2 | e2
    · exact ho.2.1 e2
    · omega
  rcases List.mem_append.1 hp with hp | hp
  · exact hfin _ _ ((h3 p hp).below hb)
  · rw [List.mem_singleton.1 hp]
    refine hfin _ _ (hs.mono (fun k _ hk => ⟨Nat.le_trans hbase hk, fun e => ?_⟩))
    have := (hlt k e).2
    omega

def VsPost (w : World) (l : List Vote) (e : Ending) (w' : World) : Prop := ∃ v, e = .returned v ∧ Vs w' w.heap.size v l ∧ Below w.heap.size w w'

set_option maxRecDepth 100000 in
set_option maxHeartbeats 4000000 in
theorem mine_any {ρ : Roles} {i b fid kk bm : Nat} {c : CoreM} {t : TM} (kind : Int) (w : World) (h : CoreAt w ρ i b fid c) (hm : Outer w ρ i kk bm t) (ht : TMFine t) :
    Calls Try.prog 49 #[.pointer (some ⟨b, 0, none⟩), .int .i64 kind, .map (some bm)] w (VsPost w (c.mine kind t)) := by
  obtain ⟨vw, vl, vv, bp, b1, b2, b3, bs, bd, h⟩ := h
  have hfind := fun view => hm.find2 view c.me
  obtain ⟨hr, z, h1, hz2, h3⟩ := id hm
  have hk0 : KeysOk z := by have := ht.1.ok; rw [hz2] at this; exact this.mv
  have cS := sortedM_any bm _ w h1 (by simpa [mv] using hk0.1) hk0.to_mv.2
  rw [show SortedPost w (mv (fun x : Nat × List (Int × List UInt8) => Value.map (some x.1)) z) = SortedPost w z from by unfold SortedPost; rw [keys_mv]] at cS
  have hkk : CoreM.keys t = CoreM.keys z := by rw [hz2, keys_mv]
  have hL : (CoreM.keys z).length ≤ 4294967297 := by
    rw [length_keys]
    have := nodup_length 4294967297 (t.map (·.1)) ht.1.1 (fun x hx => by obtain ⟨p, hp, rfl⟩ := List.mem_map.1 hx; have := ht.1.2 p hp; omega)
    rw [List.length_map, hz2] at this
    simpa [mv] using this
  have HF := hid hfind
  have HKK := hid hkk
  have H := hid h
  have HT := hid ht
  obtain ⟨i0, hi0, hq0, hq1, hq2⟩ := info_parts info_vote
  clear h h1 h3 hr hfind hkk hz2 hk0 hm ht
  go_enter Try.func49, Try.ntmps49
  go_wp2_with (first | (go_at_call 60; refine (keysM_any _ _).mono ?_; rintro e w' ⟨rfl, rfl⟩) | (go_at_call 59; refine cS.mono ?_; rintro e w1 ⟨v, rfl, hz1, hb1⟩; obtain ⟨A, cap, rfl, hcap, hcells⟩ := id hz1))
  have HC := hid hcells
  clear hcells hz1 cS
  go_loopw [16, 7] (fun i o wr => ∃ (k : Nat), i = .int .i64 k ∧ k ≤ (CoreM.keys z).length ∧ Vs wr w1.heap.size o (((CoreM.keys z).take k).filterMap (c.mineAt kind t)) ∧ Below w1.heap.size w1 wr)
    (fun i _ _ => (CoreM.keys z).length - (intOf i).toNat)
  case atStart => exact ⟨0, rfl, Nat.zero_le _, Vs.nil _ _, Below.refl _ _⟩
  case round =>
    obtain ⟨k, rfl, hkl, hvs, hbr⟩ := hrel
    have hbw := hb1.trans (hbr.mono hb1.size)
    obtain ⟨L, hLd⟩ : ∃ L, L = ((CoreM.keys z).take k).filterMap (c.mineAt kind t) := ⟨_, rfl⟩
    rw [← hLd] at hvs
    have hvs0 := hvs
    obtain ⟨zl, hzl, hown, hbs⟩ := hvs
    obtain ⟨Ao, co, rfl⟩ := ownsRow_slice hown
    by_cases hlt2 : k < (CoreM.keys z).length
    · obtain ⟨bz, rfl, hbz, hcell⟩ := HC.out (by omega)
      obtain ⟨view, hwho⟩ : ∃ view, (CoreM.keys z)[k]? = some view := ⟨_, List.getElem?_eq_getElem hlt2⟩
      have g0 : wr.cell? ⟨bz, k, none⟩ = some (.int .i64 view) := by
        have := hcell k view hwho
        exact (hbr.cell (p := ⟨bz, k, none⟩) (World.block_lt_of_cell? w1 _ this)).trans this
      obtain ⟨tv, A2, n2, m2, hf1, hf2, hf3⟩ := HF.out view
      have hgo : ((CoreM.keys z).take (k + 1)).filterMap (c.mineAt kind t) = ((CoreM.keys z).take k).filterMap (c.mineAt kind t) ++ (c.mineAt kind t view).toList := by
        rw [List.take_succ_eq_append_getElem hlt2, List.filterMap_append]
        have : (CoreM.keys z)[k] = view := by have := hwho; rw [List.getElem?_eq_getElem hlt2] at this; simpa using this
        rw [this]
        cases hh : c.mineAt kind t view <;> simp [hh]
      rw [← hLd] at hgo
      have HGO := hid hgo
      have HLD := hid hLd
      have hS : ∀ W, Below wr.heap.size wr W → W.cell? ⟨b, 1, none⟩ = some (.int .i64 c.me) ∧ (Instr.lookup 95 (.map (some bm)) (.int .i64 view) false).run Try.prog W = .ok tv W ∧ (Instr.lookup 98 tv (.int .i64 c.me) true).run Try.prog W = .ok (.tuple #[.slice A2 n2 m2, .bool (hasT t view c.me)]) W ∧ Below wr.heap.size wr W :=
        fun W hW => ⟨((H.out.below hbw).below hW).cell 1, hf1 W (hbw.trans (hW.mono hbw.size)), hf2 W (hbw.trans (hW.mono hbw.size)), hW⟩
      have HZL := hid hzl
      have HOWN := hid hown
      have HBS := hid hbs
      have HV0 := hid hvs0
      clear hgo hcell hwho hf1 hf2 hzl hown hbs hvs0 hLd
      cases hh : hasT t view c.me with
      | false =>
        rw [hh] at hS
        have hn : c.mineAt kind t view = none := by
          unfold CoreM.mineAt
          unfold hasT at hh
          cases hx : (inner t view).lookup c.me with
          | none => rfl
          | some x => rw [hx] at hh; cases hh
        have HN := hid hn
        have HS := hid hS
        clear hn hh hS hf3
        go_wp2_with fail
        go_region_held3 (fun W => W.cell? ⟨b, 1, none⟩ = some (.int .i64 c.me) ∧ (Instr.lookup 95 (.map (some bm)) (.int .i64 view) false).run Try.prog W = .ok tv W ∧ (Instr.lookup 98 tv (.int .i64 c.me) true).run Try.prog W = .ok (.tuple #[.slice A2 n2 m2, .bool false]) W ∧ Below wr.heap.size wr W)
          (first | exact HS.out _ (Below.refl _ _).drew)
          (fail)
        all_goals
          go_wp2
          go_roundw
          case rel => exact ⟨k + 1, by go_num, hlt2, by rw [HGO.out, HN.out]; simpa using HV0.out.below (Below.refl _ _).drew, hbr.drew⟩
          case measure => simp [intOf]; omega
      | true =>
        rw [hh] at hS
        obtain ⟨l, hl⟩ : ∃ l, (inner t view).lookup c.me = some l := by
          unfold hasT at hh
          cases hx : (inner t view).lookup c.me with
          | none => rw [hx] at hh; cases hh
          | some x => exact ⟨x, rfl⟩
        have hn : c.mineAt kind t view = some ⟨kind, c.me, c.slot, view, -1, l⟩ := by unfold CoreM.mineAt; rw [hl]; rfl
        have hsl : Short l := (HT.out.inner view).lookup hl
        have hbl := hf3 l hl
        have HN := hid hn
        have HS := hid hS
        have hlen : zl.length ≤ k := by
          have h9 := congrArg List.length HZL.out
          rw [List.length_map] at h9
          rw [← h9, HLD.out]
          exact Nat.le_trans (List.length_filterMap_le _ _) (by simp; omega)
        clear hn hh hS hf3 hl
        go_wp2_with fail
        go_region_held3 (fun W => W.cell? ⟨b, 1, none⟩ = some (.int .i64 c.me) ∧ (Instr.lookup 95 (.map (some bm)) (.int .i64 view) false).run Try.prog W = .ok tv W ∧ (Instr.lookup 98 tv (.int .i64 c.me) true).run Try.prog W = .ok (.tuple #[.slice A2 n2 m2, .bool true]) W ∧ Below wr.heap.size wr W)
          (first | exact HS.out _ (Below.refl _ _).drew)
          (fail)
        all_goals
          have hbd : Below wr.heap.size wr wr.drew := (Below.refl _ _).drew
          have hsz : wr.drew.heap.size = wr.heap.size := rfl
          generalize wr.drew = W2 at hbd hsz ⊢
          have d1 : W2.cell? ⟨b, 1, none⟩ = some (.int .i64 c.me) := ((H.out.below hbw).below hbd).cell 1
          have d2 : W2.cell? ⟨b, 2, none⟩ = some (.int .i64 c.slot) := ((H.out.below hbw).below hbd).cell 2
          have hbw2 : Below w.heap.size w W2 := hbw.trans (hbd.mono hbw.size)
          have hbl2 := (hbl.below hbw2).drew
          have hlt2' : b < W2.heap.size := (H.out.below hbw2).lt
          have hown2 : W2.ownsRow w1.heap.size 31 6 (.slice Ao L.length co) L.length (zl.flatMap fun p => voteCells p.1 p.2) := HOWN.out.kept (row := none) ⟨hbd.os, hbd.tape, hbd.output, hbd.size, fun k hk _ => hbd.block k hk⟩ (by cases h : (Value.slice Ao L.length co).ownBlock <;> simp)
          have hbs2 : ∀ p ∈ zl, Bs W2 (fun k => w1.heap.size ≤ k ∧ (Value.slice Ao L.length co).ownBlock ≠ some k) p.1 p.2.value := fun p hp => (HBS.out p hp).below hbd
          have hlL : L.length ≤ k := by rw [HZL.out, List.length_map]; exact hlen
          have hb12 : w1.heap.size ≤ W2.heap.size := Nat.le_trans hbr.size hbd.size
          go_wp2_with fail
          go_region_law (first
            | (go_simp; go_at_call 52; refine (clone_any _ hbl2 hsl.lim).mono ?_; rintro e w3 ⟨v', rfl, hv3, hb3⟩; obtain ⟨A3, c3, rfl, _⟩ := id hv3; have g1 := (hb3.cell (p := ⟨b, 1, none⟩) hlt2').trans d1; have g2 := (hb3.cell (p := ⟨b, 2, none⟩) hlt2').trans d2; have hb3' := below_drew_l hb3; have hown3 : w3.ownsRow w1.heap.size 31 6 (.slice Ao L.length co) L.length (zl.flatMap fun p => voteCells p.1 p.2) := hown2.kept (row := none) ⟨hb3'.os, hb3'.tape, hb3'.output, hb3'.size, fun k hk _ => hb3'.block k hk⟩ (by cases h : (Value.slice Ao L.length co).ownBlock <;> simp))
            | (refine step_append_lies _ (by rfl) _ _ 42 (by rfl) w1.heap.size 31 i0 _ 6 64 Try.underlying42 hi0 hq0 hq1 hq2 rfl (by omega) (Value.slice Ao L.length co) L.length _ (by rfl) (hown3.alloc _) ⟨w3.heap.size, 0, none⟩ 1 1 (voteCells (.slice A3 l.length c3) ⟨kind, c.me, c.slot, view, -1, l⟩) (by rfl) (by rfl) (World.news_of_block (t := 31) (fr := (0, 0)) (heap_alloc_new _ _)) (by simp [voteCells, Value.oneCell']) (by omega) (by unfold maxLen; omega) (by omega) (by have := hb3'.size; simp; omega) (w3.heap.size + 1) (by simp) ?_; intro gg cap4 w4 hown4 hgrow4 hat4 hlt4))
          all_goals
            have hpush := Vs.push (w3 := w3.alloc (.cells (voteCells (.slice A3 l.length c3) ⟨kind, c.me, c.slot, view, -1, l⟩).toArray 31)) (x := ⟨kind, c.me, c.slot, view, -1, l⟩) HZL.out hown2 hbs2 (hb3'.alloc hb3'.size _) hb12 (hv3.below ((Below.refl _ w3).alloc (Nat.le_refl _) _)) hown4 hgrow4 (hat4.imp id (fun e => by simp; omega))
            have hbfin : Below w1.heap.size w1 w4 := ((hbr.trans (hbd.mono hbr.size)).trans ((hb3'.alloc hb3'.size (.cells (voteCells (.slice A3 l.length c3) ⟨kind, c.me, c.slot, view, -1, l⟩).toArray 31)).mono hb12)).grown hgrow4 (by have := hb3'.size; simp; omega) (fun k hk => (hown2.lt k hk).1)
            have HP := hid hpush
            clear hpush hown4 hgrow4 hat4 hown3 hown2 hbs2
            go_wp2
            go_roundw
            case rel => exact ⟨k + 1, by go_num, hlt2, by rw [HGO.out, HN.out]; exact HP.out, hbfin⟩
            case measure => simp [intOf]; omega
    · have hk' : k = (CoreM.keys z).length := by omega
      have hres : c.mine kind t = ((CoreM.keys z).take k).filterMap (c.mineAt kind t) := by unfold CoreM.mine; rw [HKK.out, hk', List.take_length]
      rw [← hLd] at hres
      have HR := hid hres
      have HV0 := hid hvs0
      clear hk' hres hvs0 hzl hown hbs hLd
      go_wp2
      go_ret
      exact ⟨_, rfl, by rw [HR.out]; exact HV0.out.mono hb1.size, hbw⟩
end Go.Proofs.Ytkkmkkgjpmlhaaa
