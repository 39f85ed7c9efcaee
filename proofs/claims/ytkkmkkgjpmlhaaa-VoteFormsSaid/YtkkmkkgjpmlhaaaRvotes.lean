/- reader.votes. -/
import Derived.Test.YtkkmkkgjpmlhaaaRfour
namespace Go.Proofs.Ytkkmkkgjpmlhaaa
open Go.RowKit Go.MapKept

/-- The votes that are read: the map, and what is left. -/
def votesR (me vmax : Int) : Nat → Int → TM → List UInt8 × Bool → TM × (List UInt8 × Bool)
  | 0, _, t, r => (t, r)
  | k + 1, last, t, r =>
    if (takeR (fourR (fourR r).2).2 (fourR (fourR r).2).1).2.2 || decide (((fourR r).1 : Int) ≤ last) || decide (vmax < ((fourR r).1 : Int)) then (t, ((takeR (fourR (fourR r).2).2 (fourR (fourR r).2).1).2.1, true))
    else votesR me vmax k (fourR r).1 (if hasT t (fourR r).1 me then t else setT t (fourR r).1 me (takeR (fourR (fourR r).2).2 (fourR (fourR r).2).1).1) (takeR (fourR (fourR r).2).2 (fourR (fourR r).2).1).2

theorem votesR_succ (me vmax : Int) (k : Nat) (last : Int) (t : TM) (r : List UInt8 × Bool) : votesR me vmax (k + 1) last t r =
    if (takeR (fourR (fourR r).2).2 (fourR (fourR r).2).1).2.2 || decide (((fourR r).1 : Int) ≤ last) || decide (vmax < ((fourR r).1 : Int)) then (t, ((takeR (fourR (fourR r).2).2 (fourR (fourR r).2).1).2.1, true))
    else votesR me vmax k (fourR r).1 (if hasT t (fourR r).1 me then t else setT t (fourR r).1 me (takeR (fourR (fourR r).2).2 (fourR (fourR r).2).1).1) (takeR (fourR (fourR r).2).2 (fourR (fourR r).2).1).2 := rfl

theorem takeR_len (r : List UInt8 × Bool) (n : Nat) : (takeR r n).2.1.length ≤ r.1.length ∧ (takeR r n).1.length ≤ r.1.length := by
  unfold takeR; split <;> simp <;> omega
theorem fourR_len (r : List UInt8 × Bool) : (fourR r).2.1.length ≤ r.1.length := (takeR_len r 4).1
theorem fourR_lt (r : List UInt8 × Bool) : (fourR r).1 < 4294967296 := by
  have h1 := num4_lt (takeR r 4).1
  have h2 : (takeR r 4).1.length ≤ 4 := by unfold takeR; split <;> simp; omega
  exact Nat.lt_of_lt_of_le h1 (Nat.pow_le_pow_right (n := 256) (by omega) h2)

theorem Reader.bad {O : Nat → Prop} {w : World} {br : Nat} {l : List UInt8} {bad : Bool} (h : Reader w O br l bad) : w.cell? ⟨br, 1, none⟩ = some (.bool bad) ∧ w.frozen? ⟨br, 1, none⟩ = false ∧ br < w.heap.size := by
  obtain ⟨v, hb, _⟩ := h
  exact ⟨by simp [World.cell?, hb], by simp [World.frozen?, hb], heap_lt hb⟩
theorem Reader.spoil {O : Nat → Prop} {w : World} {br : Nat} {l : List UInt8} {bad : Bool} (h : Reader w O br l bad) : Reader (w.setCell ⟨br, 1, none⟩ (.bool true)) O br l true := by
  obtain ⟨v, hb, hv⟩ := h
  exact ⟨v, heap_setCell_cells hb _, hv.keep (Off.setOne w ⟨br, 1, none⟩ (.bool true)) (fun k _ hk e => hk.1 e)⟩
theorem Reader.keep {F O : Nat → Prop} {w w1 : World} {br : Nat} {l : List UInt8} {bad : Bool} (h : Reader w O br l bad) (ho : Off F w w1) (hb : ¬ F br) (hf : ∀ k, k < w.heap.size → O k → ¬ F k) : Reader w1 O br l bad := by
  obtain ⟨v, h1, hv⟩ := h
  exact ⟨v, ho.heap_some h1 hb, hv.keep ho (fun k hk hO => hf k hk hO.2)⟩

/-- The blocks that reading votes into a map may change. -/
def RF (ρ : Roles) (i kk br : Nat) : Nat → Prop := fun k => k = br ∨ ((ρ k).1 = i ∧ ((ρ k).2.1 = kk ∨ (ρ k).2.1 = kk + 100))

def VotesPost (w : World) (ρ : Roles) (i kk bm br : Nat) (O : Nat → Prop) (t : TM) (r : List UInt8 × Bool) (e : Ending) (w' : World) : Prop :=
  e = .returned (.tuple #[]) ∧ ∃ ρ', Agr w ρ ρ' ∧ Outer w' ρ' i kk bm t ∧ Reader w' O br r.1 r.2 ∧ Off (RF ρ i kk br) w w'

set_option maxRecDepth 100000 in
set_option maxHeartbeats 4000000 in
theorem votes_any {O : Nat → Prop} {ρ : Roles} {i kk b br bm : Nat} {cs : Array Value} {me vmax : Int} {t : TM} (r : List UInt8 × Bool) (w : World) (hk : 10 ≤ kk) (hb : w.heap[b]? = some (.cells cs 100 (0, 0))) (hrb : ρ b = (i, 1, 0))
    (hme : cs[1]? = some (.int .i64 me)) (hvm : cs[4]? = some (.int .i64 vmax)) (hm : Outer w ρ i kk bm t) (hr : Reader w O br r.1 r.2) (hbr : (ρ br).1 ≠ i) (hO : ∀ k, O k → k < w.heap.size ∧ (ρ k).1 ≠ i) (hl : r.1.length ≤ 16777216) (hv0 : -1 ≤ vmax ∧ vmax ≤ 4294967296) :
    Calls Try.prog 57 #[.pointer (some ⟨br, 0, none⟩), .pointer (some ⟨b, 0, none⟩), .map (some bm)] w (VotesPost w ρ i kk bm br O (votesR me vmax (fourR r).1 (-1) t (fourR r).2).1 (votesR me vmax (fourR r).1 (-1) t (fourR r).2).2) := by
  have hlt := heap_lt hb
  have hltr := hr.bad.2.2
  have hbne : b ≠ br := by rintro rfl; rw [hrb] at hbr; exact hbr rfl
  have cF := rfour_any br r w hr (by omega)
  have hn4 := fourR_lt r
  have hle4 := fourR_len r
  obtain ⟨n, hn⟩ : ∃ n, n = (fourR r).1 := ⟨_, rfl⟩
  obtain ⟨r1, hr1⟩ : ∃ r1, r1 = (fourR r).2 := ⟨_, rfl⟩
  rw [← hn, ← hr1] at cF
  rw [← hn] at hn4 ⊢
  rw [← hr1] at hle4 ⊢
  have HM := hid hm
  have HO := hid hO
  clear hr hm hn hr1 hO
  go_enter Try.func57, Try.ntmps57
  go_wp2_with (go_at_call 56; refine cF.mono ?_; rintro e w1 ⟨rfl, hrd1, ho1⟩)
  have hRF1 : Off (RF ρ i kk br) w w1 := ho1.mono (fun k _ e => .inl e)
  have hm1 : Outer w1 ρ i kk bm t := HM.out.keep ho1 (Agr.refl _ _) (fun k _ e => by subst e; exact ⟨fun e => hbr (by rw [e]), fun v e => hbr (by rw [e]), fun e => hbr (by rw [e])⟩)
  go_loopw [6, 11] (fun l j wr => ∃ (k : Nat) (last : Int) (ρr : Roles) (tr : TM) (rr : List UInt8 × Bool), l = .int .i64 last ∧ j = .int .i64 k ∧ k ≤ n ∧ -1 ≤ last ∧ last ≤ 4294967296 ∧ Agr w ρ ρr ∧ Outer wr ρr i kk bm tr ∧ Reader wr O br rr.1 rr.2 ∧ Off (RF ρ i kk br) w wr ∧ rr.1.length ≤ 16777216 ∧ Hid (votesR me vmax (n - k) last tr rr = votesR me vmax n (-1) t r1))
    (fun _ j _ => n - (intOf j).toNat)
  case atStart => exact ⟨0, -1, ρ, t, r1, rfl, rfl, Nat.zero_le _, by omega, by omega, Agr.refl _ _, hm1, hrd1, hRF1, by omega, hid rfl⟩
  case round =>
    obtain ⟨k, last, ρr, tr, rr, rfl, rfl, hkn, hl0, hl1, hag, hmr, hrr, hoff, hlr, heq⟩ := hrel
    by_cases hlt2 : k < n
    · obtain ⟨m, hm⟩ : ∃ m, n - k = m + 1 := ⟨n - k - 1, by omega⟩
      have hnk : n - (k + 1) = m := by omega
      have hq := heq.out
      rw [hm] at hq
      rw [votesR_succ] at hq
      have cA := rfour_any br rr wr hrr (by omega)
      have hlA := fourR_len rr
      have hltA := fourR_lt rr
      obtain ⟨view, hview⟩ : ∃ v, v = (fourR rr).1 := ⟨_, rfl⟩
      obtain ⟨ra, hra⟩ : ∃ v, v = (fourR rr).2 := ⟨_, rfl⟩
      rw [← hview] at cA hltA hq
      rw [← hra] at cA hlA hq
      have hlB := fourR_len ra
      have hltB := fourR_lt ra
      obtain ⟨len, hlen⟩ : ∃ v, v = (fourR ra).1 := ⟨_, rfl⟩
      obtain ⟨rb, hrb'⟩ : ∃ v, v = (fourR ra).2 := ⟨_, rfl⟩
      have cB := fun W (hW : Reader W O br ra.1 ra.2) => rfour_any br ra W hW (by omega)
      rw [← hlen] at hltB hq
      rw [← hrb'] at hlB hq
      have cB' : ∀ W, Reader W O br ra.1 ra.2 → Calls Try.prog 56 #[.pointer (some ⟨br, 0, none⟩)] W fun e w' => e = .returned (.int .i64 (len : Nat)) ∧ Reader w' O br rb.1 rb.2 ∧ Off (fun k => k = br) W w' := fun W hW => by rw [hlen, hrb']; exact cB W hW
      have hlD := takeR_len rb len
      obtain ⟨val, hval⟩ : ∃ v, v = (takeR rb len).1 := ⟨_, rfl⟩
      obtain ⟨rd, hrd⟩ : ∃ v, v = (takeR rb len).2 := ⟨_, rfl⟩
      have cD : ∀ W, Reader W O br rb.1 rb.2 → Calls Try.prog 58 #[.pointer (some ⟨br, 0, none⟩), .int .i64 (len : Nat)] W fun e w' => ∃ v', e = .returned v' ∧ Bs w' (fun k => W.heap.size ≤ k) v' val ∧ Reader w' O br rd.1 rd.2 ∧ Off (fun k => k = br) W w' := fun W hW => by rw [hval, hrd]; exact rtake_any br rb len W hW (by omega)
      rw [← hval] at hlD hq
      rw [← hrd] at hlD hq
      have HQ := hid hq
      have HB := hid cB'
      have HD := hid cD
      clear hview hra hlen hrb' hval hrd cB cB' cD hq heq hm
      have hnb : ¬ RF ρ i kk br b := by
        rintro (e | ⟨_, e | e⟩)
        · exact hbne e
        · rw [hrb] at e; dsimp only at e; omega
        · rw [hrb] at e; dsimp only at e; omega
      have hbrr : (ρr br).1 ≠ i := by rw [hag br hltr]; exact hbr
      have HMR := hid hmr
      have HAG := hid hag
      clear hmr hag hrr
      cases hbad : rd.2 with
      | true =>
        have hres : (tr, (rd.1, true)) = votesR me vmax n (-1) t r1 := by have h9 := HQ.out; rw [hbad] at h9; simpa using h9
        have HR := hid hres
        clear hres
        go_wp2_with (first | (go_at_call 58; refine (HD.out w3 hrd3).mono ?_; rintro e w4 ⟨v4, rfl, hv4, hrd4, ho4⟩; rw [hbad] at hrd4; obtain ⟨gb, fb, _⟩ := hrd4.bad; have hoX := (ho2.trans ho3 (fun _ _ e => e)).trans ho4 (fun _ _ e => e); have hoff4 := hoff.trans hoX (fun y _ e => Or.inl e); have g1 : w4.cell? ⟨b, 1, none⟩ = some (.int .i64 me) := (by have h9 := hoff4.heap_some hb hnb; simp [World.cell?, h9, hme]); have g4 : w4.cell? ⟨b, 4, none⟩ = some (.int .i64 vmax) := (by have h9 := hoff4.heap_some hb hnb; simp [World.cell?, h9, hvm])) | (go_at_call 56; refine (HB.out w2 hrd2).mono ?_; rintro e w3 ⟨rfl, hrd3, ho3⟩) | (go_at_call 56; refine cA.mono ?_; rintro e w2 ⟨rfl, hrd2, ho2⟩))
        refine bodyPost_ret (results_none rfl _ _ _) rfl ?_
        have hoS := hoX.trans (Off.setOne w4 ⟨br, 1, none⟩ (.bool true)) (fun _ _ e => e)
        refine ⟨rfl, ρr, HAG.out, ?_, ?_, hoff.trans hoS (fun y _ e => Or.inl e)⟩
        · rw [← HR.out]; exact HMR.out.keep hoS (Agr.refl _ _) (fun y _ e => by subst e; exact ⟨fun e => hbrr (by rw [e]), fun v e => hbrr (by rw [e]), fun e => hbrr (by rw [e])⟩)
        · rw [← HR.out]; exact hrd4.spoil
      | false =>
        by_cases hv1 : (view : Int) ≤ last
        · have hres : (tr, (rd.1, true)) = votesR me vmax n (-1) t r1 := by have h9 := HQ.out; rw [hbad, decide_eq_true hv1] at h9; simpa using h9
          have HR := hid hres
          clear hres
          go_wp2_with (first | (go_at_call 58; refine (HD.out w3 hrd3).mono ?_; rintro e w4 ⟨v4, rfl, hv4, hrd4, ho4⟩; rw [hbad] at hrd4; obtain ⟨gb, fb, _⟩ := hrd4.bad; have hoX := (ho2.trans ho3 (fun _ _ e => e)).trans ho4 (fun _ _ e => e); have hoff4 := hoff.trans hoX (fun y _ e => Or.inl e); have g1 : w4.cell? ⟨b, 1, none⟩ = some (.int .i64 me) := (by have h9 := hoff4.heap_some hb hnb; simp [World.cell?, h9, hme]); have g4 : w4.cell? ⟨b, 4, none⟩ = some (.int .i64 vmax) := (by have h9 := hoff4.heap_some hb hnb; simp [World.cell?, h9, hvm])) | (go_at_call 56; refine (HB.out w2 hrd2).mono ?_; rintro e w3 ⟨rfl, hrd3, ho3⟩) | (go_at_call 56; refine cA.mono ?_; rintro e w2 ⟨rfl, hrd2, ho2⟩))
          refine bodyPost_ret (results_none rfl _ _ _) rfl ?_
          have hoS := hoX.trans (Off.setOne w4 ⟨br, 1, none⟩ (.bool true)) (fun _ _ e => e)
          refine ⟨rfl, ρr, HAG.out, ?_, ?_, hoff.trans hoS (fun y _ e => Or.inl e)⟩
          · rw [← HR.out]; exact HMR.out.keep hoS (Agr.refl _ _) (fun y _ e => by subst e; exact ⟨fun e => hbrr (by rw [e]), fun v e => hbrr (by rw [e]), fun e => hbrr (by rw [e])⟩)
          · rw [← HR.out]; exact hrd4.spoil
        · by_cases hv2 : vmax < (view : Int)
          · have hres : (tr, (rd.1, true)) = votesR me vmax n (-1) t r1 := by have h9 := HQ.out; rw [hbad, decide_eq_true hv2] at h9; simpa using h9
            have HR := hid hres
            have hv1' : decide ((view : Int) ≤ last) = false := decide_eq_false hv1
            clear hres
            go_wp2_with (first | (go_at_call 58; refine (HD.out w3 hrd3).mono ?_; rintro e w4 ⟨v4, rfl, hv4, hrd4, ho4⟩; rw [hbad] at hrd4; obtain ⟨gb, fb, _⟩ := hrd4.bad; have hoX := (ho2.trans ho3 (fun _ _ e => e)).trans ho4 (fun _ _ e => e); have hoff4 := hoff.trans hoX (fun y _ e => Or.inl e); have g1 : w4.cell? ⟨b, 1, none⟩ = some (.int .i64 me) := (by have h9 := hoff4.heap_some hb hnb; simp [World.cell?, h9, hme]); have g4 : w4.cell? ⟨b, 4, none⟩ = some (.int .i64 vmax) := (by have h9 := hoff4.heap_some hb hnb; simp [World.cell?, h9, hvm])) | (go_at_call 56; refine (HB.out w2 hrd2).mono ?_; rintro e w3 ⟨rfl, hrd3, ho3⟩) | (go_at_call 56; refine cA.mono ?_; rintro e w2 ⟨rfl, hrd2, ho2⟩))
            refine bodyPost_ret (results_none rfl _ _ _) rfl ?_
            have hoS := hoX.trans (Off.setOne w4 ⟨br, 1, none⟩ (.bool true)) (fun _ _ e => e)
            refine ⟨rfl, ρr, HAG.out, ?_, ?_, hoff.trans hoS (fun y _ e => Or.inl e)⟩
            · rw [← HR.out]; exact HMR.out.keep hoS (Agr.refl _ _) (fun y _ e => by subst e; exact ⟨fun e => hbrr (by rw [e]), fun v e => hbrr (by rw [e]), fun e => hbrr (by rw [e])⟩)
            · rw [← HR.out]; exact hrd4.spoil
          · have hres : votesR me vmax m view (if hasT tr view me then tr else setT tr view me val) rd = votesR me vmax n (-1) t r1 := by
              have h9 := HQ.out; rw [hbad, decide_eq_false hv1, decide_eq_false hv2] at h9; simpa using h9
            have HR := hid hres
            have hv1' : decide ((view : Int) ≤ last) = false := decide_eq_false hv1
            have hv2' : decide (vmax < (view : Int)) = false := decide_eq_false hv2
            clear hres
            go_wp2_with (first | (go_at_call 70; refine (set_any (l := val) w4 hk (HMR.out.keep hoX (Agr.refl _ _) (fun y _ e => by subst e; exact ⟨fun e => hbrr (by rw [e]), fun v e => hbrr (by rw [e]), fun e => hbrr (by rw [e])⟩)) hv4 (by omega)).mono ?_; rintro e w5 ⟨rfl, ρ5, ha5, hout5, ho5⟩) | (go_at_call 58; refine (HD.out w3 hrd3).mono ?_; rintro e w4 ⟨v4, rfl, hv4, hrd4, ho4⟩; rw [hbad] at hrd4; obtain ⟨gb, fb, _⟩ := hrd4.bad; have hoX := (ho2.trans ho3 (fun _ _ e => e)).trans ho4 (fun _ _ e => e); have hoff4 := hoff.trans hoX (fun y _ e => Or.inl e); have g1 : w4.cell? ⟨b, 1, none⟩ = some (.int .i64 me) := (by have h9 := hoff4.heap_some hb hnb; simp [World.cell?, h9, hme]); have g4 : w4.cell? ⟨b, 4, none⟩ = some (.int .i64 vmax) := (by have h9 := hoff4.heap_some hb hnb; simp [World.cell?, h9, hvm])) | (go_at_call 56; refine (HB.out w2 hrd2).mono ?_; rintro e w3 ⟨rfl, hrd3, ho3⟩) | (go_at_call 56; refine cA.mono ?_; rintro e w2 ⟨rfl, hrd2, ho2⟩))
            have hcl : ∀ y, y < w.heap.size → (ρr y = (i, kk, 0) ∨ ρr y = (i, kk + 100, (view : Int))) → RF ρ i kk br y := fun y hy e => by
              rw [HAG.out y hy] at e
              rcases e with e | e
              · exact .inr ⟨by rw [e], .inl (by rw [e])⟩
              · exact .inr ⟨by rw [e], .inr (by rw [e])⟩
            have hrd5 : Reader w5 O br rd.1 rd.2 := by
              rw [hbad]
              refine hrd4.keep ho5 (fun e => hbrr (by rcases e with e | e <;> rw [e])) (fun y _ hy e => ?_)
              obtain ⟨h1, h2⟩ := HO.out y hy
              rw [HAG.out y h1] at e
              exact h2 (by rcases e with e | e <;> rw [e])
            have hag5 : Agr w ρ ρ5 := HAG.out.trans ha5 hoff4.size
            have hoff5 := hoff4.trans ho5 hcl
            have HR5 := hid hrd5
            clear hrd5 hcl
            go_roundw
            case rel => exact ⟨k + 1, view, ρ5, _, rd, rfl, by go_num, hlt2, by omega, by omega, hag5, hout5, HR5.out, hoff5, by omega, hid (by rw [hnk]; exact HR.out)⟩
            case measure => simp [intOf]; omega
    · have hke : k = n := by omega
      subst hke
      have hres := heq.out
      rw [Nat.sub_self] at hres
      have HR := hid hres
      clear hres heq
      go_wp2
      go_end0
      refine ⟨rfl, ρr, hag, ?_, ?_, hoff⟩
      · rw [← HR.out]; exact hmr
      · rw [← HR.out]; exact hrr
end Go.Proofs.Ytkkmkkgjpmlhaaa
