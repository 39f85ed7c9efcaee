/- Bytes: what must last. -/
import Derived.Test.YtkkmkkgjpmlhaaaV21
import Derived.Test.YtkkmkkgjpmlhaaaV19
namespace Go.Proofs.Ytkkmkkgjpmlhaaa
open Go.RowKit Go.MapKept

def voteBytes (v : Vote) : List UInt8 := be4 v.view ++ be4 v.value.length ++ v.value
def votesBytes (l : List Vote) : List UInt8 := l.flatMap voteBytes
def block (l : List Vote) : List UInt8 := be4 l.length ++ votesBytes l
def CoreM.bytes (c : CoreM) : List UInt8 :=
  be4 c.view ++ block (c.mine 2 c.preps) ++ block (c.mine 3 c.comms) ++ (if c.decided then 1 :: (be4 c.value.length ++ c.value) else 0 :: be4 0)

theorem be4_len (n : Int) : (be4 n).length = 4 := rfl
theorem votesBytes_len (l : List Vote) : 8 * l.length ≤ (votesBytes l).length := by
  unfold votesBytes
  induction l with
  | nil => simp
  | cons v l ih => simp only [List.flatMap_cons, List.length_append, List.length_cons, voteBytes, be4_len] at *; omega
theorem votesBytes_take (l : List Vote) (j : Nat) : (votesBytes (l.take j)).length ≤ (votesBytes l).length := by
  conv => rhs; rw [← List.take_append_drop j l]
  unfold votesBytes
  rw [List.flatMap_append, List.length_append]
  omega
theorem votesBytes_succ {l : List Vote} {j : Nat} {v : Vote} (h : l[j]? = some v) : votesBytes (l.take (j + 1)) = votesBytes (l.take j) ++ voteBytes v := by
  obtain ⟨hj, e⟩ := List.getElem?_eq_some_iff.1 h
  unfold votesBytes
  rw [List.take_succ_eq_append_getElem hj, List.flatMap_append, e]
  simp

/-- The cells of a vote in a slice. -/
theorem flat_get (z : List (Value × Vote)) (j i : Nat) (hi : i < 6) : (z.flatMap fun p => voteCells p.1 p.2)[j * 6 + i]? = (z[j]?).bind fun p => (voteCells p.1 p.2)[i]? := by
  induction z generalizing j with
  | nil => simp
  | cons p z ih =>
    rw [List.flatMap_cons]
    cases j with
    | zero =>
      rw [List.getElem?_append_left (by simp [voteCells]; omega)]
      simp
    | succ j =>
      rw [List.getElem?_append_right (by simp [voteCells]; omega)]
      rw [show (j + 1) * 6 + i - (voteCells p.1 p.2).length = j * 6 + i from by simp [voteCells]; omega, ih]
      simp

theorem Vs.keep {F : Nat → Prop} {w w1 : World} {base : Nat} {v : Value} {l : List Vote} (h : Vs w base v l) (ho : Off F w w1) (hf : ∀ k, base ≤ k → ¬ F k) : Vs w1 base v l := by
  obtain ⟨z, h1, h2, h3⟩ := h
  refine ⟨z, h1, ?_, fun p hp => (h3 p hp).keep ho (fun k _ hk => hf k hk.1)⟩
  obtain ⟨g1, g | ⟨g, cap, cur, e, hg, hh, r⟩⟩ := h2
  · exact ⟨g1, .inl g⟩
  · exact ⟨g1, .inr ⟨g, cap, cur, e, hg, ho.heap_some hh (hf g hg), r⟩⟩

/-- The j-th vote of a slice. -/
theorem Vs.get {w : World} {base : Nat} {v : Value} {l : List Vote} (h : Vs w base v l) {j : Nat} {x : Vote} (hx : l[j]? = some x) :
    ∃ g cap A c, v = .slice (some ⟨g, 0, none⟩) l.length cap ∧ base ≤ g ∧ Bs w (fun k => base ≤ k) (.slice A x.value.length c) x.value ∧
      w.cell? ⟨g, j * 6, none⟩ = some (.int .i64 x.kind) ∧ w.cell? ⟨g, j * 6 + 1, none⟩ = some (.int .i64 x.frm) ∧ w.cell? ⟨g, j * 6 + 2, none⟩ = some (.int .i64 x.slot) ∧ w.cell? ⟨g, j * 6 + 3, none⟩ = some (.int .i64 x.view) ∧
      w.cell? ⟨g, j * 6 + 4, none⟩ = some (.int .i64 x.valid) ∧ w.cell? ⟨g, j * 6 + 5, none⟩ = some (.slice A x.value.length c) := by
  obtain ⟨z, rfl, hown, hb⟩ := h
  rw [List.getElem?_map] at hx
  obtain ⟨p, hp, rfl⟩ := Option.map_eq_some_iff.1 hx
  have hlt : j < z.length := (List.getElem?_eq_some_iff.1 hp).1
  have hbp := hb p (List.mem_of_getElem? hp)
  obtain ⟨A, c, hpe, _⟩ := id hbp
  rcases hown.2 with ⟨_, h0⟩ | ⟨g, cap, cur, rfl, hg, _⟩
  · simp at h0; subst h0; simp at hlt
  · have hc := fun i (hi : i < 6) => (hown.cellAt (j * 6 + i) (by rw [List.length_map]; omega)).trans ((flat_get z j i hi).trans (by rw [hp]))
    refine ⟨g, cap, A, c, rfl, hg, by rw [← hpe]; exact hbp.mono (fun k _ hk => hk.1), hc 0 (by omega), hc 1 (by omega), hc 2 (by omega), hc 3 (by omega), hc 4 (by omega), ?_⟩
    rw [← hpe]
    exact hc 5 (by omega)

theorem mine_view {c : CoreM} {kind : Int} {t : TM} (ht : TMFine t) : ∀ x ∈ c.mine kind t, 0 ≤ x.view ∧ x.view ≤ 4294967296 := fun x hx => by
  obtain ⟨view, hv, hm⟩ := List.mem_filterMap.1 hx
  obtain ⟨v, hmem⟩ := mem_keys.1 hv
  unfold CoreM.mineAt at hm
  obtain ⟨l, _, rfl⟩ := Option.map_eq_some_iff.1 hm
  exact ht.1.2 _ hmem
def preB (c : CoreM) : Nat → List UInt8
  | 0 => be4 c.view
  | 1 => be4 c.view ++ block (c.mine 2 c.preps)
  | _ + 2 => be4 c.view ++ block (c.mine 2 c.preps) ++ block (c.mine 3 c.comms)
theorem preB_len (c : CoreM) (k : Nat) : (preB c k).length ≤ c.bytes.length := by
  unfold CoreM.bytes
  match k with
  | 0 => simp only [preB, List.length_append]; omega
  | 1 => simp only [preB, List.length_append]; omega
  | k + 2 => simp only [preB, List.length_append]; omega

set_option maxRecDepth 100000 in
set_option maxHeartbeats 4000000 in
theorem bytes_any {ρ : Roles} {i b fid : Nat} {c : CoreM} (w : World) (h : CoreAt w ρ i b fid c) (hf : c.Fine) (hB : c.bytes.length ≤ 4294967295) :
    Calls Try.prog 15 #[.pointer (some ⟨b, 0, none⟩)] w fun e w' => ∃ v, e = .returned v ∧ Own w' w.heap.size v c.bytes ∧ Below w.heap.size w w' := by
  have cM2 := fun W (hW : Below w.heap.size w W) (bm : Nat) (hm : Outer W ρ i 10 bm c.preps) => mine_any 2 W (h.below hW) hm hf.preps
  have cM3 := fun W (hW : Below w.heap.size w W) (bm : Nat) (hm : Outer W ρ i 11 bm c.comms) => mine_any 3 W (h.below hW) hm hf.comms
  obtain ⟨vw, vl, vv, bp, b1, b2, b3, bs, bd, h⟩ := h
  have H := hid h
  have HF := hid hf
  have HM2 := hid cM2
  have HM3 := hid cM3
  have HB := hid hB
  have c4 := h.cell 4
  simp only [coreCells, List.getElem?_toArray, List.getElem?_cons_zero, List.getElem?_cons_succ] at c4
  have v0 := hf.ok.view0
  have vv1 := hf.ok.view1
  clear h hf hB cM2 cM3
  go_enter Try.func15, Try.ntmps15
  go_wp2_with (go_at_call 48; refine (four_any w.heap.size _ [] c.view w (Own.nil _ _) (Nat.le_refl _) (by simp) v0 vv1).mono ?_; rintro e w1 ⟨v1, rfl, ho1, hb1, _, ha1⟩; obtain ⟨A1, n1, k1, rfl⟩ := ho1.form)
  have g8 : w1.cell? ⟨b, 8, none⟩ = some (.map (some b1)) := (H.out.below hb1).cell 8
  have g9 : w1.cell? ⟨b, 9, none⟩ = some (.map (some b2)) := (H.out.below hb1).cell 9
  have hlt1 := (H.out.below hb1).lt
  have hS : ∀ W, Below w1.heap.size w1 W → W.cell? ⟨b, 8, none⟩ = some (.map (some b1)) ∧ W.cell? ⟨b, 9, none⟩ = some (.map (some b2)) ∧ Below w1.heap.size w1 W := fun W hW => ⟨(hW.cell (p := ⟨b, 8, none⟩) hlt1).trans g8, (hW.cell (p := ⟨b, 9, none⟩) hlt1).trans g9, hW⟩
  have HS := hid hS
  have hO1 := hid (H.out.below hb1).preps
  have hbd1 : Below w.heap.size w w1.drew := hb1.drew
  clear hS g8 g9
  go_region_held3 (fun W => W.cell? ⟨b, 8, none⟩ = some (.map (some b1)) ∧ W.cell? ⟨b, 9, none⟩ = some (.map (some b2)) ∧ Below w1.heap.size w1 W)
    (first | exact HS.out _ (Below.refl _ _).drew | exact HS.out _ hb2' | exact HS.out _ (hb2'.trans (hb3.mono hb2'.size)) | exact HS.out _ ((hb2'.trans (hb3.mono hb2'.size)).alloc (Nat.le_trans hb2'.size hb3.size) _))
    (first
      | (go_at_call 49; refine (HM3.out _ (hb1.trans (hb2'.mono hb1.size)) b2 (H.out.below (hb1.trans (hb2'.mono hb1.size))).comms).mono ?_; rintro e w3 ⟨v3, rfl, hv3, hb3⟩; obtain ⟨A3, k3, rfl⟩ := hv3.slice)
      | (go_at_call 49; refine (HM2.out _ hbd1 b1 (H.out.below hbd1).preps).mono ?_; rintro e w2 ⟨v2, rfl, hv2, hb2⟩; obtain ⟨A2, k2, rfl⟩ := hv2.slice; have hb2' := below_drew_l hb2))
  all_goals
    have hb12 := hb2'
    have hb13 : Below w1.heap.size w1 w3 := hb2'.trans (hb3.mono hb2'.size)
    have hbA : Below w1.heap.size w1 (w3.alloc (Obj.cells #[Value.slice A2 (c.mine 2 c.preps).length k2, Value.slice A3 (c.mine 3 c.comms).length k3] 42)) := hb13.alloc hb13.size _
    have q0 : (w3.alloc (Obj.cells #[Value.slice A2 (c.mine 2 c.preps).length k2, Value.slice A3 (c.mine 3 c.comms).length k3] 42)).cell? ⟨w3.heap.size, 0, none⟩ = some (Value.slice A2 (c.mine 2 c.preps).length k2) := cell_alloc_new _ _ _ _ _ rfl
    have q1 : (w3.alloc (Obj.cells #[Value.slice A2 (c.mine 2 c.preps).length k2, Value.slice A3 (c.mine 3 c.comms).length k3] 42)).cell? ⟨w3.heap.size, 1, none⟩ = some (Value.slice A3 (c.mine 3 c.comms).length k3) := cell_alloc_new _ _ _ _ _ rfl
    have hk0 : w3.heap.size < (w3.alloc (Obj.cells #[Value.slice A2 (c.mine 2 c.preps).length k2, Value.slice A3 (c.mine 3 c.comms).length k3] 42)).heap.size := by simp
    have hk1 : w1.heap.size ≤ w3.heap.size := hb13.size
    have hvA2 : Vs (w3.alloc (Obj.cells #[Value.slice A2 (c.mine 2 c.preps).length k2, Value.slice A3 (c.mine 3 c.comms).length k3] 42)) w1.heap.size (Value.slice A2 (c.mine 2 c.preps).length k2) (c.mine 2 c.preps) := (hv2.below hb3).below ((Below.refl _ w3).alloc (Nat.le_refl _) _)
    have hvA3 : Vs (w3.alloc (Obj.cells #[Value.slice A2 (c.mine 2 c.preps).length k2, Value.slice A3 (c.mine 3 c.comms).length k3] 42)) w1.heap.size (Value.slice A3 (c.mine 3 c.comms).length k3) (c.mine 3 c.comms) := (hv3.mono hb2'.size).below ((Below.refl _ w3).alloc (Nat.le_refl _) _)
    have hoA := ho1.below hbA
    have hr1 : ∀ k, (Value.slice A1 n1 k1).ownBlock = some k → w.heap.size ≤ k ∧ k < w1.heap.size := ho1.lt
    clear hv2 hv3 hb2 hb2' hb3
    generalize (w3.alloc (Obj.cells #[Value.slice A2 (c.mine 2 c.preps).length k2, Value.slice A3 (c.mine 3 c.comms).length k3] 42)) = W4 at hbA q0 q1 hk0 hvA2 hvA3 hoA ⊢
    generalize w3.heap.size = kb at q0 q1 hk0 hk1 ⊢
    have hbW4 : Below w.heap.size w W4 := hb1.trans (hbA.mono hb1.size)
    have HV2 := hid hvA2
    have HV3 := hid hvA3
    have HOA := hid hoA
    clear hvA2 hvA3 hoA ho1
    go_wp2_with fail
    go_loopw [29, 3] (fun i o wr => ∃ k : Nat, i = .int .i64 k ∧ k ≤ 2 ∧ Own wr w.heap.size o (preB c k) ∧ Off (fun x => (Value.slice A1 n1 k1).ownBlock = some x) W4 wr ∧ (∀ x, o.ownBlock = some x → (Value.slice A1 n1 k1).ownBlock = some x ∨ W4.heap.size ≤ x))
      (fun i _ _ => 2 - (intOf i).toNat)
    case atStart => exact ⟨0, rfl, Nat.zero_le _, HOA.out, Off.refl _ _, fun x h => .inl h⟩
    case round =>
      obtain ⟨k, rfl, hk2, hown, hoff, hat⟩ := hrel
      obtain ⟨Ao, no, co, rfl⟩ := hown.form
      have hnr : ∀ x, w1.heap.size ≤ x → ¬ (Value.slice A1 n1 k1).ownBlock = some x := fun x hx e => by have := (hr1 x e).2; omega
      by_cases hlt2 : k < 2
      · obtain ⟨Ak, ck, lk, gcell, hVk, hpre, hvw⟩ : ∃ Ak ck lk, wr.cell? ⟨kb, k, none⟩ = some (.slice Ak lk.length ck) ∧ Vs W4 w1.heap.size (.slice Ak lk.length ck) lk ∧ preB c (k + 1) = preB c k ++ block lk ∧ ∀ x ∈ lk, 0 ≤ x.view ∧ x.view ≤ 4294967296 := by
          rcases (show k = 0 ∨ k = 1 by omega) with rfl | rfl
          · exact ⟨_, _, _, hoff.cell_some q0 (hnr _ hk1), HV2.out, rfl, mine_view HF.out.preps⟩
          · exact ⟨_, _, _, hoff.cell_some q1 (hnr _ hk1), HV3.out, rfl, mine_view HF.out.comms⟩
        have hlen1 : (preB c k).length + (block lk).length ≤ 4294967295 := by
          have h1 := preB_len c (k + 1)
          rw [hpre, List.length_append] at h1
          exact Nat.le_trans h1 HB.out
        have hlen2 : 8 * lk.length + 4 ≤ (block lk).length := by unfold block; rw [List.length_append, be4_len]; have := votesBytes_len lk; omega
        have hlen3 : (block lk).length = 4 + (votesBytes lk).length := by unfold block; rw [List.length_append, be4_len]
        have HP := hid hpre
        have HOFF := hid hoff
        have HAT := hid hat
        have HVK := hid hVk
        have hszr : w.heap.size ≤ wr.heap.size := Nat.le_trans hbW4.size hoff.size
        have c4' := four_any w.heap.size _ (preB c k) lk.length wr hown hszr (by omega) (by omega) (by omega)
        clear hpre hoff hat hVk hown
        go_wp2_with (go_at_call 48; refine c4'.mono ?_; rintro e w5 ⟨v5, rfl, ho5, hb5, hoff5, ha5⟩; obtain ⟨A5, n5, k5, rfl⟩ := ho5.form)
        have hoW5 : Off (fun x => (Value.slice A1 n1 k1).ownBlock = some x) W4 w5 := HOFF.out.trans hoff5 (fun x hx e => (HAT.out x e).elim id (fun h => by omega))
        have haW5 : ∀ x, (Value.slice A5 n5 k5).ownBlock = some x → (Value.slice A1 n1 k1).ownBlock = some x ∨ W4.heap.size ≤ x := fun x hx => (ha5 x hx).elim (fun e => HAT.out x e) (fun e => .inr (Nat.le_trans HOFF.out.size e))
        obtain ⟨wo, rfl⟩ : ∃ wo : World, wo = wr := ⟨_, rfl⟩
        have HO5 := hid ho5
        clear hoff5 ha5 hb5 c4' gcell ho5
        go_loopw [39, 3] (fun j o wi => ∃ jj : Nat, j = .int .i64 jj ∧ jj ≤ lk.length ∧ Own wi w.heap.size o (preB c k ++ be4 lk.length ++ votesBytes (lk.take jj)) ∧ Off (fun x => (Value.slice A1 n1 k1).ownBlock = some x) W4 wi ∧ (∀ x, o.ownBlock = some x → (Value.slice A1 n1 k1).ownBlock = some x ∨ W4.heap.size ≤ x))
          (fun j _ _ => lk.length - (intOf j).toNat)
        case atStart => exact ⟨0, rfl, Nat.zero_le _, by simpa [votesBytes] using HO5.out, hoW5, haW5⟩
        case round =>
          obtain ⟨jj, rfl, hjl, howni, hoffi, hati⟩ := hrel
          obtain ⟨Ai, ni, ci, rfl⟩ := howni.form
          by_cases hjlt : jj < lk.length
          · obtain ⟨x, hx⟩ : ∃ x, lk[jj]? = some x := ⟨_, List.getElem?_eq_getElem hjlt⟩
            obtain ⟨g, cg, Ax, cx, hge, hgb, hbx, x0, x1, x2, x3, x4, x5⟩ := HVK.out.get hx
            obtain rfl : Ak = some ⟨g, 0, none⟩ := by injection hge
            have x0' := hoffi.cell_some x0 (hnr _ hgb)
            have x1' := hoffi.cell_some x1 (hnr _ hgb)
            have x2' := hoffi.cell_some x2 (hnr _ hgb)
            have x3' := hoffi.cell_some x3 (hnr _ hgb)
            have x4' := hoffi.cell_some x4 (hnr _ hgb)
            have x5' := hoffi.cell_some x5 (hnr _ hgb)
            have hbx2 : Bs wr (fun y => w1.heap.size ≤ y ∧ y < W4.heap.size) (.slice Ax x.value.length cx) x.value := (hbx.mono (O' := fun y => w1.heap.size ≤ y ∧ y < W4.heap.size) (fun y hy ho => ⟨ho, hy⟩)).keep hoffi (fun y _ ho => hnr y ho.1)
            have hsz6 : W4.heap.size ≤ wr.heap.size := hoffi.size
            have hxv : 0 ≤ x.view ∧ x.view ≤ 4294967296 := hvw x (List.mem_of_getElem? hx)
            have hsucc := votesBytes_succ hx
            have hlx : (votesBytes (lk.take jj)).length + (voteBytes x).length ≤ (votesBytes lk).length := by
              have := votesBytes_take lk (jj + 1)
              rw [hsucc, List.length_append] at this
              exact this
            have hlv : (voteBytes x).length = 8 + x.value.length := by unfold voteBytes; rw [List.length_append, List.length_append, be4_len, be4_len]
            have hltAi := howni.lt
            have HX := hid hsucc
            have HOI := hid howni
            have HOFI := hid hoffi
            have HATI := hid hati
            clear hge hx howni hoffi hati x0 x1 x2 x3 x4 x5 hbx hsucc
            go_wp2_with fail
            obtain ⟨W0, hW0, e2, hkx0, ⟨y0, y1, y2, y3, y4, y5⟩, hbx0⟩ := know_box (w := wr) (k := x.kind) (f := x.frm) (s := x.slot) (v := x.view) (a := x.valid) hbx2
            rw [← hW0]
            clear hW0 x0' x1' x2' x3' x4' x5' hbx2
            have hOI0 := HOI.out.below e2
            have hlt0 := HOI.out.lt
            have hszw0 : w.heap.size ≤ W0.heap.size := Nat.le_trans (Nat.le_trans hbW4.size hsz6) e2.size
            obtain ⟨kx, hkxe⟩ : ∃ kx, kx = wr.heap.size := ⟨_, rfl⟩
            rw [← hkxe] at y3 y5 hkx0 ⊢
            have hS11 : ∀ W, Off (fun y => (Value.slice Ai ni ci).ownBlock = some y) W0 W → W.cell? ⟨kx, 3, none⟩ = some (.int .i64 x.view) ∧ W.cell? ⟨kx, 5, none⟩ = some (.slice Ax x.value.length cx) ∧ Off (fun y => (Value.slice Ai ni ci).ownBlock = some y) W0 W := fun W hW =>
              have hn : ¬ (Value.slice Ai ni ci).ownBlock = some kx := fun e => by have := (hlt0 kx e).2; omega
              ⟨hW.cell_some y3 hn, hW.cell_some y5 hn, hW⟩
            have HS11 := hid hS11
            have cF1 := four_any w.heap.size _ _ x.view W0.drew (hOI0.below (Below.refl _ _).drew) hszw0 (by rw [List.length_append, List.length_append, be4_len]; omega) hxv.1 hxv.2
            clear hS11 y0 y1 y2 y3 y4 y5 hkxe
            go_region_held3 (fun W => W.cell? ⟨kx, 3, none⟩ = some (.int .i64 x.view) ∧ W.cell? ⟨kx, 5, none⟩ = some (.slice Ax x.value.length cx) ∧ Off (fun y => (Value.slice Ai ni ci).ownBlock = some y) W0 W)
              (first | exact HS11.out _ (Off.refl _ _).drew | exact HS11.out _ hoff6' | exact HS11.out _ hoff7' | exact HS11.out _ hoff8')
              (first
                | (refine step_append_run (by rfl) _ _ 29 (by rfl) (by rfl) (by rfl) hrun8 ?_)
                | (go_at_call 48; refine (four_any w.heap.size _ _ x.value.length w6 ho6 (Nat.le_trans hszw0 hoff6'.size) (by rw [List.length_append, List.length_append, List.length_append, be4_len, be4_len]; omega) (by omega) (by omega)).mono ?_; rintro e w7 ⟨v7, rfl, ho7, hb7, hoff7, ha7⟩; obtain ⟨A7, n7, k7, rfl⟩ := ho7.form; have hoff7' := hoff6'.trans hoff7 (fun y hy e => (ha6 y e).elim id (fun h => absurd hy (Nat.not_lt.2 h))); obtain ⟨A8, n8, k8, w8, hrun8, ho8, hb8, hoff8, ha8⟩ := Own.two ho7 (hbx0.keep hoff7' (fun y _ ho e => (HATI.out y e).elim (fun e => hnr y ho.1 e) (fun h => by omega))) (by rw [List.length_append, List.length_append, List.length_append, List.length_append, be4_len, be4_len, be4_len]; omega) (Nat.le_trans hszw0 hoff7'.size); have hoff8' := hoff7'.trans hoff8 (fun y hy e => (ha7 y e).elim (fun e => (ha6 y e).elim id (fun h => absurd hy (Nat.not_lt.2 h))) (fun h => absurd hy (Nat.not_lt.2 (Nat.le_trans hoff6'.size h)))))
                | (go_at_call 48; refine cF1.mono ?_; rintro e w6 ⟨v6, rfl, ho6, hb6, hoff6, ha6⟩; obtain ⟨A6, n6, k6, rfl⟩ := ho6.form; have hoff6' := hoff6.drew_l))
            all_goals
              have HO8 := hid ho8
              have hoffN : Off (fun y => (Value.slice A1 n1 k1).ownBlock = some y) W4 w8 := (HOFI.out.then_below e2).trans hoff8' (fun y hy e => (HATI.out y e).elim id (fun h => absurd hy (Nat.not_lt.2 h)))
              have hatN : ∀ y, (Value.slice A8 n8 k8).ownBlock = some y → (Value.slice A1 n1 k1).ownBlock = some y ∨ W4.heap.size ≤ y := fun y hy => by
                have hs1 := e2.size
                have hs2 := hoff6'.size
                have hs3 := hoff7'.size
                rcases ha8 y hy with h | h
                · rcases ha7 y h with h | h
                  · rcases ha6 y h with h | h
                    · exact HATI.out y h
                    · right; change W0.heap.size ≤ y at h; omega
                  · right; omega
                · right; omega
              clear hrun8 ho8 hoff6 hoff7 hoff8 hoff6' hoff7' hoff8' ha6 ha7 ha8 ho6 ho7 hb6 hb7 hb8
              go_wp2
              go_roundw
              case rel => exact ⟨jj + 1, by go_num, hjlt, by rw [HX.out]; simpa [voteBytes, List.append_assoc] using HO8.out, hoffN, hatN⟩
              case measure => simp [intOf]; omega
          · have hje : jj = lk.length := by omega
            have hfin : Own wr w.heap.size (.slice Ai ni ci) (preB c (k + 1)) := by
              rw [HP.out]
              unfold block
              rw [hje, List.take_length] at howni
              simpa [List.append_assoc] using howni
            have HFI := hid hfin
            clear hje hfin howni
            go_wp2
            go_roundw
            case rel => exact ⟨k + 1, by go_num, by omega, HFI.out, hoffi, hati⟩
            case measure => simp [intOf]; omega
      · have hke : k = 2 := by omega
        have hbwr : Below w.heap.size w wr := hbW4.trans ((hoff.mono (G := fun y => w.heap.size ≤ y) (fun y _ e => (hr1 y e).1)).low hbW4.size)
        have g15 := (H.out.below hbwr).cell 15
        have g16 := (H.out.below hbwr).cell 16
        simp only [coreCells, List.getElem?_toArray, List.getElem?_cons_zero, List.getElem?_cons_succ] at g15 g16
        have hp2 : (preB c k).length ≤ 4294967295 := Nat.le_trans (preB_len c k) HB.out
        have hpk : preB c k = be4 c.view ++ block (c.mine 2 c.preps) ++ block (c.mine 3 c.comms) := by rw [hke]; rfl
        have HPK := hid hpk
        have hvl := HF.out.value
        have hszr : w.heap.size ≤ wr.heap.size := hbwr.size
        clear hke hpk hoff hat
        cases hd : c.decided with
        | false =>
          rw [hd] at g15
          have hfb : c.bytes = preB c k ++ [0] ++ be4 0 := by unfold CoreM.bytes; rw [HPK.out, hd]; simp
          have HFB := hid hfb
          obtain ⟨A6, n6, k6, w6, hrun6, ho6, hb6, hoff6, ha6⟩ := Own.lay #[.int .u8 0] [0] hown (Below.refl _ wr) hszr rfl (by simp) (by simp; omega)
          simp only [List.length_cons, List.length_nil, Nat.zero_add] at hrun6
          have hb6' := hbwr.trans hb6
          have cF := four_any w.heap.size _ _ 0 w6 ho6 hb6'.size (by rw [List.length_append]; simp; omega) (by omega) (by omega)
          clear hd hfb hown ho6
          have HR6 := hid hrun6
          clear hrun6
          go_wp2_with (first | (at_builtin; refine wpList_append_run rfl _ _ 29 rfl rfl rfl HR6.out ?_) | (go_at_call 48; refine cF.mono ?_; rintro e w7 ⟨v7, rfl, ho7, hb7, hoff7, ha7⟩))
          go_ret
          exact ⟨_, rfl, by rw [HFB.out]; exact ho7, hb6'.trans hb7⟩
        | true =>
          rw [hd] at g15
          have hfb : c.bytes = preB c k ++ [1] ++ be4 c.value.length ++ c.value := by unfold CoreM.bytes; rw [HPK.out, hd]; simp
          have hlb : (preB c k).length + 5 + c.value.length ≤ 4294967295 := by
            have h1 := HB.out
            rw [hfb, List.length_append, List.length_append, List.length_append, be4_len] at h1
            simp only [List.length_cons, List.length_nil] at h1
            omega
          have HFB := hid hfb
          obtain ⟨Av, kv, rfl, _⟩ := id H.out.value
          obtain ⟨A6, n6, k6, w6, hrun6, ho6, hb6, hoff6, ha6⟩ := Own.lay #[.int .u8 1] [1] hown (Below.refl _ wr).drew hszr rfl (by simp) (by simp; omega)
          simp only [List.length_cons, List.length_nil, Nat.zero_add] at hrun6
          change Sem.run Try.prog _ (World.drew (wr.alloc _)) = _ at hrun6
          change Sem.run Try.prog (Builtin.append_ _ _ #[_, .slice (some ⟨wr.heap.size, 0, none⟩) 1 1]) _ = _ at hrun6
          have hb6' := hbwr.trans hb6
          have cF := four_any w.heap.size _ _ c.value.length w6 ho6 hb6'.size (by rw [List.length_append]; simp; omega) (by omega) (by omega)
          have hS : ∀ W, Below w.heap.size w W → W.cell? ⟨b, 16, none⟩ = some (.slice Av c.value.length kv) ∧ Below w.heap.size w W := fun W hW => ⟨(H.out.below hW).cell 16, hW⟩
          have HS15 := hid hS
          clear hd hfb hown ho6 hS
          go_wp2_with fail
          go_region_held3 (fun W => W.cell? ⟨b, 16, none⟩ = some (.slice Av c.value.length kv) ∧ Below w.heap.size w W)
            (first | exact HS15.out _ hbwr.drew | exact HS15.out _ (hbwr.drew.alloc hszr _) | exact HS15.out _ (hbwr.alloc hszr _).drew | exact HS15.out _ hb6' | exact HS15.out _ hb7' | exact HS15.out _ hb8')
            (first | (refine step_append_run (by rfl) _ _ 29 (by rfl) (by rfl) (by rfl) hrun8 ?_) | (refine step_append_run (by rfl) _ _ 29 (by rfl) (by rfl) (by rfl) hrun6 ?_) | (go_at_call 48; refine cF.mono ?_; rintro e w7 ⟨v7, rfl, ho7, hb7, hoff7, ha7⟩; obtain ⟨A7, n7, k7, rfl⟩ := ho7.form; have hb7' := hb6'.trans hb7; obtain ⟨A8, n8, k8, w8, hrun8, ho8, hb8, hoff8, ha8⟩ := Own.two ho7 (H.out.value.below hb7') (by rw [List.length_append, List.length_append, be4_len]; simp; omega) hb7'.size; have hb8' := hb7'.trans hb8))
          all_goals
            have HO8 := hid ho8
            clear hrun6 hrun8 ho7 ho8
            go_wp2
            go_ret
            exact ⟨_, rfl, by rw [HFB.out]; exact HO8.out, hb8'⟩
end Go.Proofs.Ytkkmkkgjpmlhaaa
