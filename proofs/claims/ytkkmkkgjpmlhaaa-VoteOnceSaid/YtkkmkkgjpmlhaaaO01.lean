/- The walk of VoteOnce. -/
import Derived.Test.YtkkmkkgjpmlhaaaA02
import Derived.Test.YtkkmkkgjpmlhaaaO00
namespace Go.Proofs.Ytkkmkkgjpmlhaaa
open Go.RowKit Go.MapKept

theorem PeersAt.wide {w : World} {Z Z' : Nat → Prop} {pb n lb lc wb : Nat} {B : Nat → Nat} {wg : Nat → Bool} (h : PeersAt w Z pb n lb lc wb B wg) (hz : ∀ k, Z k → Z' k) : PeersAt w Z' pb n lb lc wb B wg :=
  ⟨h.c0, h.c1, h.c2, h.cl, h.cw, h.fl, hz _ h.zp, hz _ h.zl, hz _ h.zw, h.pl, h.wl⟩
/-- What was noted of Prepares and Commits is what the cores told. -/
def Noted (N : Nat) (P : Nat → CoreM) (m : List (Plc × List UInt8)) : Prop :=
  ∀ (a k v : Int) (y : List UInt8), lookF m (a, k, v) = some y → ∃ j : Nat, j < N ∧ a = j ∧ (k = 2 ∨ k = 3) ∧ (k = 2 → (P j).ownP v = some y) ∧ (k = 3 → (P j).ownC v = some y)
theorem Noted.nil (N : Nat) (P : Nat → CoreM) : Noted N P [] := fun a k v y h => by cases h
theorem Noted.upd {N : Nat} {P : Nat → CoreM} {m : List (Plc × List UInt8)} {d : Nat} {c : CoreM} (h : Noted N P m) (hn : CoreM.Next (P d) c) : Noted N (upd P d c) m := fun a k v y e => by
  obtain ⟨j, h1, h2, h3, h4, h5⟩ := h a k v y e
  refine ⟨j, h1, h2, h3, fun e => ?_, fun e => ?_⟩
  · unfold Ytkkmkkgjpmlhaaa.upd
    split
    · rename_i e2; subst e2; exact hn.keepP _ _ (h4 e)
    · exact h4 e
  · unfold Ytkkmkkgjpmlhaaa.upd
    split
    · rename_i e2; subst e2; exact hn.keepC _ _ (h5 e)
    · exact h5 e
theorem Noted.put {N : Nat} {P : Nat → CoreM} {m : List (Plc × List UInt8)} {i : Nat} {x : Vote} (h : Noted N P m) (hi : i < N) (hx : x ∈ (P i).says) (hk : x.kind = 2 ∨ x.kind = 3) : Noted N P (putF m ((i : Int), x.kind, x.view) x.value) := fun a k v y e => by
  rw [lookF_put] at e
  split at e
  · rename_i e2
    injection e2 with e3 e4
    injection e4 with e5 e6
    injection e with e
    subst e3 e5 e6 e
    exact ⟨i, hi, rfl, hk, (says_true hx).1, (says_true hx).2.1⟩
  · exact h a k v y e
theorem Noted.same {N : Nat} {P : Nat → CoreM} {m : List (Plc × List UInt8)} {i : Nat} {x : Vote} {y : List UInt8} (h : Noted N P m) (hx : x ∈ (P i).says) (e : lookF m ((i : Int), x.kind, x.view) = some y) : y = x.value := by
  obtain ⟨j, h1, h2, h3, h4, h5⟩ := h _ _ _ _ e
  obtain rfl : i = j := by omega
  rcases h3 with h3 | h3
  · have := (says_true hx).1 h3
    rw [h4 h3] at this
    injection this
  · have := (says_true hx).2.1 h3
    rw [h5 h3] at this
    injection this

set_option maxRecDepth 100000 in
set_option maxHeartbeats 8000000 in
theorem once_walk (n slot : Int) {O : Nat → Prop} {v2 v3 : Value} {lw : List Int} {l : List StepM} (w : World) (h2 : RowsAt w O 1 (fun m cs => In64 m ∧ cs = [.int .i64 m]) v2 lw) (h3 : RowsAt w O 11 (StepIn w) v3 l) :
    Calls Try.prog 6 #[.int .i64 n, .int .i64 slot, v2, v3] w fun e w' => e = .returned (.bool true) ∧ Below w.heap.size w w' := by
  obtain ⟨A2, cap2, rfl, hlm2, -⟩ := id h2
  obtain ⟨A3, cap3, rfl, hlm3, -⟩ := id h3
  have H2 := hid h2
  have H3 := hid h3
  clear h2 h3
  cases hfw : fewS l with
  | false =>
    have cF := fun W hW => fewSteps_any w W H3.out hW
    rw [hfw] at cF
    go_enter Try.func6, Try.ntmps6
    go_wp2_with (first | (go_at_call 11; refine (lives_any w).mono ?_; rintro e w1 ⟨rfl, hb1⟩) | (go_at_call 26; refine (cF _ hb1).mono ?_; rintro e w2 ⟨rfl, hb2⟩) | (go_at_call 11; refine (lives_any w2).mono ?_; rintro e w3 ⟨rfl, hb3⟩))
    go_ret
    exact ⟨rfl, (hb1.trans (hb2.mono hb1.size)).trans (hb3.mono (hb1.trans (hb2.mono hb1.size)).size)⟩
  | true =>
    have cF := fun W hW => fewSteps_any w W H3.out hW
    rw [hfw] at cF
    by_cases hlw : 20 < lw.length
    · have hlw' : decide ((20 : Int) < (lw.length : Int)) = true := decide_eq_true (by omega)
      go_enter Try.func6, Try.ntmps6
      go_wp2_with (first | (go_at_call 11; refine (lives_any w).mono ?_; rintro e w1 ⟨rfl, hb1⟩) | (go_at_call 26; refine (cF _ hb1).mono ?_; rintro e w2 ⟨rfl, hb2⟩) | (go_at_call 11; refine (lives_any w2).mono ?_; rintro e w3 ⟨rfl, hb3⟩))
      go_ret
      exact ⟨rfl, (hb1.trans (hb2.mono hb1.size)).trans (hb3.mono (hb1.trans (hb2.mono hb1.size)).size)⟩
    · have hlw' : decide ((20 : Int) < (lw.length : Int)) = false := decide_eq_false (by omega)
      obtain ⟨hl250, hsh⟩ := fewS_iff hfw
      obtain ⟨r1, e1, r10, r11⟩ := umod n 7 (by decide)
      obtain ⟨r3, e4, r30, r31⟩ := umod slot 257 (by decide)
      obtain ⟨N, hN⟩ : ∃ N : Nat, 4 + r1 = (N : Int) := ⟨(4 + r1).toNat, by omega⟩
      have e2 : IntKind.i64.wrap (N : Int) = N := IntWalk.i64_in _ (by omega)
      have hN4 : 4 ≤ N ∧ N ≤ 12 := by omega
      have hs3 : 0 ≤ r3 ∧ r3 ≤ 256 := by omega
      have HSH := hid hsh
      clear hsh hfw
      have hmm := @run_makeMap Try.prog
      go_enter Try.func6, Try.ntmps6
      go_wp2_with (first | (go_at_call 11; refine (lives_any w).mono ?_; rintro e w1 ⟨rfl, hb1⟩) | (go_at_call 26; refine (cF _ hb1).mono ?_; rintro e w2 ⟨rfl, hb2⟩; have hbw2 := hb1.trans (hb2.mono hb1.size); have cB := begin_any N r3 w w2 H2.out hbw2 hN4 hs3) | (go_at_call 27; refine cB.mono ?_; rintro e w3 ⟨pb, lb, lc, wb, B, wg, Z, rfl, hp3, hl3, hz3, hlb, hcnt, -, hb3⟩))
      clear hmm
      obtain ⟨w4, hw4⟩ : ∃ w4 : World, w4 = w3.alloc (.map #[] 0) := ⟨_, rfl⟩
      rw [← hw4]
      have hb34 : Below w3.heap.size w3 w4 := by rw [hw4]; exact (Below.refl _ w3).alloc (Nat.le_refl _) _
      have hbw3 : Below w.heap.size w w3 := hbw2.trans (hb3.mono hbw2.size)
      have hbw4 : Below w.heap.size w w4 := hbw3.trans (hb34.mono hbw3.size)
      have hcrew := crew_new hN4.1 (by omega) hs3 hcnt
      obtain ⟨mb, hmb⟩ : ∃ mb, mb = w3.heap.size := ⟨_, rfl⟩
      have hmap : PlMap w4 mb [] := by rw [hw4, hmb]; exact PlMap.made w3
      rw [← hmb]
      obtain ⟨Z4, hZ4⟩ : ∃ Z' : Nat → Prop, Z' = (fun k => Z k ∨ (w3.heap.size ≤ k ∧ k < w4.heap.size)) := ⟨_, rfl⟩
      have hl4 : Lot w4 Z4 14 N B (fun j => { n := N, me := (j : Int) + 1, slot := r3 }) := by rw [hZ4]; exact hl3.below hb34
      have hz4 : ∀ k, Z k → Z4 k := fun k hk => by rw [hZ4]; exact .inl hk
      have hp4 : PeersAt w4 Z4 pb N lb lc wb B wg := (hp3.keep (F := fun _ => False) (by omega) (Off.of_below hb34) id id id).wide hz4
      have hzm : Z4 mb := by rw [hZ4, hmb]; exact .inr ⟨Nat.le_refl _, by rw [hw4]; simp⟩
      have hne : ∀ k, Z k → k ≠ mb := fun k hk e => by have := hl3.old hk; omega
      have hlm : lb ≠ mb := hne _ hp3.zl
      have hpm : pb ≠ mb := hne _ hp3.zp
      have hwm : wb ≠ mb := hne _ hp3.zw
      have hz0 : ∀ k, k < w.heap.size → Z4 k := fun k hk => hz4 k (hz3 k (Nat.lt_of_lt_of_le hk hbw2.size))
      have hlbw : w.heap.size ≤ lb := Nat.le_trans hbw2.size hlb
      have hmbw : w.heap.size ≤ mb := by rw [hmb]; exact hbw3.size
      have HP4 := hid hp4
      have HL4 := hid hl4
      have HC4 := hid hcrew
      have HZ0 := hid hz0
      have HB4 := hid hbw4
      have HM4 := hid hmap
      clear hp3 hl3 hcrew hz0 hbw3 hz3 hb3 hb2 hb1 hbw2 cB cF hcnt hb34 hbw4 hmap hl4 hp4 hne hmb hw4 hZ4 hz4
      go_loopw [49] (fun i wr => ∃ (k : Nat) (B : Nat → Nat) (P : Nat → CoreM) (m : List (Plc × List UInt8)), i = .int .i64 k ∧ k ≤ l.length ∧ PeersAt wr Z4 pb N lb lc wb B wg ∧ Lot wr Z4 14 N B P ∧ Crew N r3 wg P ∧ PlMap wr mb m ∧ Noted N P m ∧ Off (fun k => ¬ Z4 k ∨ k = lb ∨ k = mb) w4 wr)
        (fun i _ => l.length - (intOf i).toNat)
      case atStart => exact ⟨0, _, _, [], rfl, Nat.zero_le _, HP4.out, HL4.out, HC4.out, HM4.out, Noted.nil _ _, Off.refl _ _⟩
      case round =>
        obtain ⟨k, B, P, m, rfl, hk, hp, hlot, hcrew, hmap, htold, hoff⟩ := hrel
        have hbwr : Below w.heap.size w wr := HB4.out.trans ((hoff.mono (G := fun k => w.heap.size ≤ k) (fun x _ e => Nat.not_lt.1 fun hx => by rcases e with e | e | e; { exact e (HZ0.out x hx) }; { omega }; { omega })).low HB4.out.size)
        by_cases hlt : k < l.length
        · obtain ⟨a, ha⟩ : ∃ a, l[k]? = some a := ⟨_, List.getElem?_eq_getElem hlt⟩
          obtain ⟨ba, off, A1, c1, A4, c4, rfl, -, x0, x1, x2, x3, x4, x5, x6, x7, x8, x9, x10, hv1, hv2, hn1, hn2, hin⟩ := step_cells H3.out hbwr ha
          have hsa := HSH.out a (List.mem_of_getElem? ha)
          obtain ⟨W0, hW0⟩ : ∃ W0 : World, W0 = wr.alloc (.cells #[.int .i64 a.kind, .int .i64 a.frm, .int .i64 a.dst, .int .i64 a.num, .int .i64 a.vote.kind, .int .i64 a.vote.frm, .int .i64 a.vote.slot, .int .i64 a.vote.view, .int .i64 a.vote.valid, .slice A1 a.vote.value.length c1, .slice A4 a.value.length c4] 57) := ⟨_, rfl⟩
          have hbx0 : Below wr.heap.size wr W0 := by rw [hW0]; exact (Below.refl _ wr).alloc (Nat.le_refl _) _
          have hbw0 : Below w.heap.size w W0 := hbwr.trans (hbx0.mono hbwr.size)
          have hp0 := hp.keep (F := fun _ => False) (by omega) (Off.of_below hbx0) id id id
          have hl0 : Lot W0 Z4 14 N B P := (hlot.below hbx0).mono (fun _ h => .inl h)
          have cS := step_any (s := a) hp0 hl0 hcrew (by omega) hs3 hsa.1 hsa.2 (hv1.below hbw0) (hv2.below hbw0) hn1
          obtain ⟨hcrew', hnext⟩ := hcrew.stepC a hsa.1 hsa.2
          have htold' : Noted N (stepP N r3 wg P a) m := htold.upd hnext
          unfold stepV at cS
          rw [hW0] at cS
          have hoff0 := hoff.then_below hbx0
          have hmap0 := hmap.below hbx0
          rw [hW0] at hoff0 hmap0
          generalize stepP N r3 wg P a = P' at cS hcrew' htold'
          have HOFF := hid hoff0
          have HC' := hid hcrew'
          have HM0 := hid hmap0
          have HT' := hid htold'
          clear hp hlot hcrew hoff hbwr ha hv1 hv2 hn1 hn2 hin hbx0 hbw0 hp0 hl0 hoff0 hcrew' hW0 htold htold' hmap hmap0 hnext
          go_wp2_with (go_at_call 28; refine cS.mono ?_; rintro e w5 ⟨rfl, B5, hp5, hl5, ho5⟩; have q1 := hp5.c1)
          have hm5 : PlMap w5 mb m := HM0.out.keep ho5 (fun e => e.elim (fun e => e hzm) (fun e => hlm e.symm))
          have ho5' : Off (fun k => ¬ Z4 k ∨ k = lb ∨ k = mb) w4 w5 := HOFF.out.trans (ho5.mono (G := fun k => ¬ Z4 k ∨ k = lb ∨ k = mb) (fun x _ e => e.elim .inl (fun e => .inr (.inl e)))) (fun _ _ h => h)
          have HP5 := hid hp5
          have HL5 := hid hl5
          have HM5 := hid hm5
          have HO5 := hid ho5'
          clear hp5 hl5 hm5 ho5 ho5'
          obtain ⟨wo, rfl⟩ : ∃ wo : World, wo = wr := ⟨_, rfl⟩
          go_loopw [63] (fun i wi => ∃ (c : Nat) (m : List (Plc × List UInt8)), i = .int .i64 c ∧ c ≤ N ∧ PlMap wi mb m ∧ Noted N P' m ∧ Off (fun k => k = mb) w5 wi)
            (fun i _ => N - (intOf i).toNat)
          case atStart => exact ⟨0, m, rfl, Nat.zero_le _, HM5.out, HT'.out, Off.refl _ _⟩
          case round =>
            obtain ⟨c, m2, rfl, hc, hmap, htold, hoff⟩ := hrel
            have hlr : Lot wr Z4 14 N B5 P' := (HL5.out.zone hoff (fun x _ e => by rw [e]; exact hzm)).mono (fun _ h => .inl h)
            have hpr := HP5.out.keep (by omega) hoff hpm hlm hwm
            by_cases hcN : c < N
            · have z1 := hpr.cl c hcN
              obtain ⟨ρ, ci, hcore⟩ := hlr.core hcN
              have hfc := HC'.out.fine hcN
              have cY := says_any wr hcore hfc
              obtain ⟨L, hL⟩ : ∃ L, L = (P' c).says := ⟨_, rfl⟩
              rw [← hL] at cY
              have hnum : ∀ x ∈ L, _ := fun x hx => says_nums hfc (x := x) (by rw [← hL]; exact hx)
              have hmlt : mb < wr.heap.size := by obtain ⟨es, cl, h, _⟩ := hmap; exact heap_lt h
              have HMAP := hid hmap
              have HTOLD := hid htold
              have HOFF2 := hid hoff
              have HLS := hid hL
              clear hlr hpr hcore hmap htold hoff hL
              go_wp2_with (go_at_call 22; refine cY.mono ?_; rintro e w6 ⟨vs, rfl, hvs, hb6⟩; obtain ⟨As, cs, rfl⟩ := hvs.slice)
              have hlenL : L.length ≤ 9223372036854775807 := vs_len hvs
              have hm6 := HMAP.out.below hb6
              have ho26 : Off (fun k => k = mb) w5 w6 := HOFF2.out.then_below hb6
              have hvb : ∀ k, wr.heap.size ≤ k → k < w6.heap.size → k ≠ mb := fun k h1 _ e => by omega
              have HVS := hid hvs
              have HM6 := hid hm6
              have HO26 := hid ho26
              have HVB := hid hvb
              clear hvs hm6 hb6 ho26 hvb cY z1
              obtain ⟨wp, rfl⟩ : ∃ wp : World, wp = wr := ⟨_, rfl⟩
              go_loopw [71] (fun i wi => ∃ (q : Nat) (m : List (Plc × List UInt8)), i = .int .i64 q ∧ q ≤ L.length ∧ PlMap wi mb m ∧ Noted N P' m ∧ Off (fun k => k = mb) w6 wi)
                (fun i _ => L.length - (intOf i).toNat)
              case atStart => exact ⟨0, m2, rfl, Nat.zero_le _, HM6.out, HTOLD.out, Off.refl _ _⟩
              case round =>
                obtain ⟨q, m3, rfl, hq, hmap, htold, hoff⟩ := hrel
                by_cases hqL : q < L.length
                · obtain ⟨x, hx⟩ : ∃ x, L[q]? = some x := ⟨_, List.getElem?_eq_getElem hqL⟩
                  have hmem := List.mem_of_getElem? hx
                  have hsay : x ∈ (P' c).says := by rw [← HLS.out]; exact hmem
                  obtain ⟨gv, cap2, A5, c5, he, hbx, x0, x1, x2, x3, x4, x5⟩ := HVS.out.later (Z := fun k => k ≠ mb) (hoff.mono (G := fun k => ¬ (k ≠ mb)) (fun _ _ e h => h e)) HVB.out hx
                  injection he with he1 _ he3
                  subst he1
                  subst he3
                  by_cases hk23 : x.kind = 2 ∨ x.kind = 3
                  · have hg : (x.kind != 2 && x.kind != 3) = false := by rcases hk23 with h | h <;> simp [h]
                    obtain ⟨Wa, hWa⟩ : ∃ Wa : World, Wa = wr.alloc (.cells #[.int .i64 x.kind, .int .i64 x.frm, .int .i64 x.slot, .int .i64 x.view, .int .i64 x.valid, .slice A5 x.value.length c5] 31) := ⟨_, rfl⟩
                    obtain ⟨Wb, hWb⟩ : ∃ Wb : World, Wb = Wa.alloc (.cells #[.int .i64 c, .int .i64 x.kind, .int .i64 x.view] 66) := ⟨_, rfl⟩
                    have hba : Below wr.heap.size wr Wa := by rw [hWa]; exact (Below.refl _ wr).alloc (Nat.le_refl _) _
                    have hbb : Below wr.heap.size wr Wb := by rw [hWb]; exact hba.alloc hba.size _
                    have hmb' := hmap.below hbb
                    have hlook := hmb'.lookup ((c : Int), x.kind, x.view)
                    obtain ⟨wu, hrun, hmu, hou, -⟩ := hmb'.update ((c : Int), x.kind, x.view) x.value
                    have hcv := (hbx.below hbb).convert
                    have htu := htold.put hcN hsay hk23
                    have hou2 : Off (fun k => k = mb) w6 wu := (hoff.then_below hbb).trans hou (fun _ _ h => h)
                    unfold encP at hlook hrun
                    dsimp only at hlook hrun
                    have HMU := hid hmu
                    have HTU := hid htu
                    have HOU := hid hou2
                    have hsame : ∀ y, lookF m3 ((c : Int), x.kind, x.view) = some y → y = x.value := fun y e => htold.same hsay e
                    clear hmap htold hoff hbx hba hbb hmb' hmu hou htu hou2 hmem hsay hx
                    rw [hWb, hWa] at hlook hrun hcv
                    clear hWb hWa
                    rcases hk23 with hk2 | hk3
                    · have j2 : (x.kind == 2) = true := by simp [hk2]
                      have j2n : (x.kind != 2) = false := by simp [hk2]
                      have j3 : (x.kind == 3) = false := by simp [hk2]
                      have j3n : (x.kind != 3) = true := by simp [hk2]
                      clear hk2 hg
                      cases hlk : lookF m3 ((c : Int), x.kind, x.view) with
                      | none =>
                        rw [hlk] at hlook
                        simp only [Option.getD_none, Option.getD_some, Option.isSome_none, Option.isSome_some] at hlook
                        clear hlk hsame
                        go_wp2
                        go_roundw
                        case rel => exact ⟨q + 1, _, by go_num, hqL, HMU.out, HTU.out, HOU.out⟩
                        case measure => simp [intOf]; omega
                      | some y =>
                        obtain rfl := hsame y hlk
                        rw [hlk] at hlook
                        simp only [Option.getD_none, Option.getD_some, Option.isSome_none, Option.isSome_some] at hlook
                        clear hlk hsame
                        go_wp2
                        go_roundw
                        case rel => exact ⟨q + 1, _, by go_num, hqL, HMU.out, HTU.out, HOU.out⟩
                        case measure => simp [intOf]; omega
                    · have j2 : (x.kind == 2) = false := by simp [hk3]
                      have j2n : (x.kind != 2) = true := by simp [hk3]
                      have j3 : (x.kind == 3) = true := by simp [hk3]
                      have j3n : (x.kind != 3) = false := by simp [hk3]
                      clear hk3 hg
                      cases hlk : lookF m3 ((c : Int), x.kind, x.view) with
                      | none =>
                        rw [hlk] at hlook
                        simp only [Option.getD_none, Option.getD_some, Option.isSome_none, Option.isSome_some] at hlook
                        clear hlk hsame
                        go_wp2
                        go_roundw
                        case rel => exact ⟨q + 1, _, by go_num, hqL, HMU.out, HTU.out, HOU.out⟩
                        case measure => simp [intOf]; omega
                      | some y =>
                        obtain rfl := hsame y hlk
                        rw [hlk] at hlook
                        simp only [Option.getD_none, Option.getD_some, Option.isSome_none, Option.isSome_some] at hlook
                        clear hlk hsame
                        go_wp2
                        go_roundw
                        case rel => exact ⟨q + 1, _, by go_num, hqL, HMU.out, HTU.out, HOU.out⟩
                        case measure => simp [intOf]; omega
                  · have j2 : (x.kind == 2) = false := by simp; exact fun e => hk23 (.inl e)
                    have j2n : (x.kind != 2) = true := by simp; exact fun e => hk23 (.inl e)
                    have j3 : (x.kind == 3) = false := by simp; exact fun e => hk23 (.inr e)
                    have j3n : (x.kind != 3) = true := by simp; exact fun e => hk23 (.inr e)
                    have HMAP3 := hid hmap
                    have HTOLD3 := hid htold
                    have HO3 := hid hoff
                    clear hmap htold hoff hbx hmem hsay hx hk23
                    go_wp2
                    go_roundw
                    case rel => exact ⟨q + 1, m3, by go_num, hqL, HMAP3.out.below ((Below.refl _ wr).alloc (Nat.le_refl _) _), HTOLD3.out, HO3.out.alloc _⟩
                    case measure => simp [intOf]; omega
                · have hqe : q = L.length := by omega
                  subst hqe
                  have ho := HO26.out.trans hoff (fun _ _ h => h)
                  have HMAP3 := hid hmap
                  have HTOLD3 := hid htold
                  have HO3 := hid ho
                  clear hmap htold hoff ho
                  go_wp2
                  go_roundw
                  case rel => exact ⟨c + 1, m3, by go_num, hcN, HMAP3.out, HTOLD3.out, HO3.out⟩
                  case measure => simp [intOf]; omega
            · have hce : c = N := by omega
              have ho := HO5.out.trans (hoff.mono (G := fun k => ¬ Z4 k ∨ k = lb ∨ k = mb) (fun x _ e => .inr (.inr e))) (fun _ _ h => h)
              have HLR := hid hlr
              have HPR := hid hpr
              have HMAP := hid hmap
              have HTOLD := hid htold
              have HO := hid ho
              clear hlr hpr hmap htold hoff ho
              go_wp2
              go_roundw
              case rel => exact ⟨k + 1, B5, P', m2, by go_num, hlt, HPR.out, HLR.out, HC'.out, HMAP.out, HTOLD.out, HO.out⟩
              case measure => simp [intOf]; omega
        · have hke : k = l.length := by omega
          subst hke
          clear hp hlot hcrew hoff hmap htold
          go_wp2
          go_ret
          exact ⟨rfl, hbwr⟩
end Go.Proofs.Ytkkmkkgjpmlhaaa
