/- VoteForms. What the walk of VoteViews needs of arrays of three numbers. -/
import Derived.Test.YtkkmkkgjpmlhaaaV27
import Derived.Deep.RegionWith
import Derived.Test.YtkkmkkgjpmlhaaaV24
namespace Go.Proofs.Ytkkmkkgjpmlhaaa
open Go.RowKit Go.MapKept

theorem u64_nonneg (n : Int) : 0 ≤ IntKind.u64.wrap n := wrap_u64_nonneg n
/-- 'uint(n) % k'. -/
theorem umod (n k : Int) (hk : 0 < k) : ∃ r, (IntKind.u64.wrap n).tmod k = r ∧ 0 ≤ r ∧ r < k :=
  ⟨(IntKind.u64.wrap n).tmod k, rfl, by rw [Int.tmod_eq_emod_of_nonneg (u64_nonneg n)]; exact Int.emod_nonneg _ (by omega), by rw [Int.tmod_eq_emod_of_nonneg (u64_nonneg n)]; exact Int.emod_lt_of_pos _ hk⟩

set_option maxRecDepth 100000 in
set_option maxHeartbeats 4000000 in
theorem forms_any (n me slot : Int) {O : Nat → Prop} {v : Value} {l : List UInt8} (w : World) (hb : Bs w O v l) (hl : l.length ≤ 9223372036854775807) :
    Calls Try.prog 4 #[.int .i64 n, .int .i64 me, .int .i64 slot, v] w fun e w' => e = .returned (.bool true) ∧ Below w.heap.size w w' := by
  obtain ⟨A, cap, rfl, -⟩ := id hb
  obtain ⟨i0, hi0, hz0, hz1, hz2⟩ := info_parts info_u8
  have HB := hid hb
  clear hb
  by_cases hlen : 2000 < l.length
  · have hlen' : decide ((2000 : Int) < (l.length : Int)) = true := by simp; omega
    go_enter Try.func4, Try.ntmps4
    go_wp2_with (go_at_call 11; refine (lives_any _).mono ?_; rintro e w1 ⟨rfl, hb1⟩)
    go_ret
    exact ⟨rfl, (by assumption : Below w.heap.size w _).trans (hb1.mono (by have := (by assumption : Below w.heap.size w _).size; omega))⟩
  · have hlen' : decide ((2000 : Int) < (l.length : Int)) = false := by simp; omega
    obtain ⟨r1, e1, r10, r11⟩ := umod n 9 (by decide)
    have e2 : IntKind.u64.wrap (4 + r1) = 4 + r1 := IntWalk.u64_in _ (by omega)
    obtain ⟨r2, e3, r20, r21⟩ := umod me (4 + r1) (by omega)
    obtain ⟨r3, e4, r30, r31⟩ := umod slot 257 (by decide)
    have e5 : (4 + r1 == 0) = false := by simp; omega
    have hlim : l.length ≤ 2000 := by omega
    have hbd : 4 ≤ 4 + r1 ∧ 4 + r1 ≤ 64 ∧ 1 ≤ 1 + r2 ∧ 1 + r2 ≤ 4 + r1 ∧ 0 ≤ r3 ∧ r3 ≤ 256 := by omega
    have HBD := hid hbd
    clear hbd hlen
    go_enter Try.func4, Try.ntmps4
    go_wp2_with (first | (go_at_call 11; refine (lives_any _).mono ?_; rintro e w1 ⟨rfl, hb1⟩) | (at_builtin; refine wpList_append_bs _ rfl _ _ 29 rfl w.heap.size 5 i0 Try.underlying29 hi0 hz0 hz1 hz2 (.slice (some ⟨w1.heap.size, 0, none⟩) 0 0) 0 [] (by rfl) (World.ownsRow_made w1 #[] 0 hb1.size (Nat.zero_le _) rfl) O (.slice A l.length cap) l (by rfl) ((HB.out.below hb1).below ((Below.refl _ w1).alloc (Nat.le_refl _) _)) (by omega) (Nat.le_trans hb1.size (by simp)) ?_; intro A2 c2 w2 hown2 hgrow hat))
    simp only [List.nil_append, Nat.zero_add] at hown2
    have hbA := (hb1.alloc hb1.size (.cells #[] 5)).grown hgrow (by simp; have := hb1.size; omega) (fun x hx => by simp [Value.ownBlock] at hx; have := hb1.size; omega)
    have hbo : Bs w2 (fun k => w.heap.size ≤ k) (.slice A2 l.length c2) l := Bs.of_own hown2
    have cOf := (Lot.empty w2 25 (fun _ => 0) live0).of (j := 0) (Nat.le_refl _) HBD.out hbo (by omega)
    have hob := fun c => ofM_bytes (n := 4 + r1) (me := 1 + r2) (slot := r3) (l := l) (c := c)
    have hof := fun c => ofM_fine (c := c) HBD.out (show l.length ≤ 268435456 by omega)
    generalize ofM (4 + r1) (1 + r2) r3 l = o at cOf hob hof
    have HBO := hid hbo
    have HBA := hid hbA
    clear hown2 hgrow hat hbo hbA e1 e2 e3 e4 e5
    cases o with
    | none =>
      clear hob hof
      go_wp2_with (go_at_call 24; refine cOf.mono ?_; rintro e w3 ⟨hb3, rfl⟩; have k1 := (HBO.out.below hb3).convert; have k2 := ((HB.out.below HBA.out).below hb3).convert)
      go_ret
      exact ⟨rfl, HBA.out.trans (hb3.mono HBA.out.size)⟩
    | some c =>
      have hcb := hob c rfl
      have hcf := hof c rfl
      have HCB := hid hcb
      have HCF := hid hcf
      clear hob hof hcb hcf
      go_wp2_with (go_at_call 24; refine cOf.mono ?_; rintro e w3 ⟨hb3, b, rfl, hl3⟩; have k1 := (HBO.out.below hb3).convert; have k2 := ((HB.out.below HBA.out).below hb3).convert)
      obtain ⟨ρ, i, hcore⟩ := hl3.core (j := 0) (by omega)
      rw [updB_same, upd_same] at hcore
      have hcd : CoreAt w3.drew ρ i b 25 c := hcore.keep (Off.refl (fun _ => False) w3).drew (Agr.refl _ _) (fun _ _ f => f.elim)
      have cB := bytes_any w3.drew hcd HCF.out (by rw [HCB.out]; omega)
      have hKW : ∀ W, Below w3.heap.size w3 W → (convert 29 9 (.slice A l.length cap)).run Try.prog W = .ok (.string ⟨l.toArray⟩) W := fun W hW => (((HB.out.below HBA.out).below hb3).below hW).convert
      have HKW := hid hKW
      clear hKW k1 k2 hcore hcd hl3
      have q1 := HKW.out _ (Off.refl (fun _ => False) w3).drew.below
      go_region_with (go_at_call 15; refine cB.mono ?_; rintro e w4 ⟨v4, rfl, hown4, hb4⟩; obtain ⟨A4, n4, c4, rfl⟩ := hown4.form; have hb4' := below_drew_l hb4; have k4 := hown4.bs.convert; rw [HCB.out] at k4; have q2 := HKW.out _ hb4')
      all_goals
        go_wp2
        go_ret
        exact ⟨rfl, (HBA.out.trans (hb3.mono HBA.out.size)).trans (hb4'.mono (Nat.le_trans HBA.out.size hb3.size))⟩
end Go.Proofs.Ytkkmkkgjpmlhaaa
namespace Go.Proofs.Ytkkmkkgjpmlhaaa
open Go.RowKit Go.MapKept

set_option maxRecDepth 100000 in
theorem grown_none (w : World) : Calls Try.prog 16 #[.pointer none] w fun e w' => e = .returned (.agg #[.int .i64 0, .int .i64 0, .int .i64 0]) ∧ Below w.heap.size w w' := by
  go_enter Try.func16, Try.ntmps16
  go_wp2
  refine bodyPost_ret (v := .agg #[.int .i64 0, .int .i64 0, .int .i64 0]) (by simp [results, Try.results16, go_sem]) rfl ⟨rfl, ?_⟩
  exact (Below.refl _ w).alloc (Nat.le_refl _) _

/-- '==' of two [3]int. -/
theorem eq_arr3 (a b c d e f : Int) (w : World) : (Op.equalIn 10000 35 (.agg #[.int .i64 a, .int .i64 b, .int .i64 c]) (.agg #[.int .i64 d, .int .i64 e, .int .i64 f])).run Try.prog w = .ok (a == d && b == e && c == f) w := by
  have u3 := Try.underlying3
  have a3 := Try.isAgg3
  have z3 := Try.sizeOf3
  rw [show (10000 : Nat) = 9999 + 1 from rfl, Op.equalIn]
  simp only [Sem.run_bind, run_underlying Try.underlying35, Result.andThen_ok]
  simp only [Std.Legacy.Range.forIn_eq_forIn_range', Std.Legacy.Range.size, Nat.sub_zero, Nat.add_sub_cancel, Nat.div_one, List.range'_succ, List.range'_zero, List.forIn_cons, List.forIn_nil]
  go_simp
  by_cases h1 : a = d <;> by_cases h2 : b = e <;> by_cases h3 : c = f <;> simp [h1, h2, h3]
theorem idx_arr3 (a b c : Int) (w : World) : (Instr.index 35 (.agg #[.int .i64 a, .int .i64 b, .int .i64 c]) (.int .i64 0)).run Try.prog w = .ok (.int .i64 a) w := by kernel_rfl

theorem arr_old {W : World} {g : Nat} {a b c : Value} {t : TypeId} {w5 : World} (h : W.heap[g]? = some (.cells #[a, b, c] t (0, 0))) (hb : Below W.heap.size W w5) :
    w5.heap[g]? = some (.cells #[a, b, c] t (0, 0)) ∧ w5.cell? ⟨g, 0, none⟩ = some a ∧ w5.cell? ⟨g, 1, none⟩ = some b ∧ w5.cell? ⟨g, 2, none⟩ = some c ∧ w5.frozen? ⟨g, 0, none⟩ = false ∧ w5.frozen? ⟨g, 1, none⟩ = false ∧ w5.frozen? ⟨g, 2, none⟩ = false := by
  have h5 := (hb.block _ (heap_lt h)).trans h
  exact ⟨h5, arr_cell h5 0, arr_cell h5 1, arr_cell h5 2, arr_frozen h5 0, arr_frozen h5 1, arr_frozen h5 2⟩
theorem arr_new {W : World} {a b c : Value} {t : TypeId} {w5 : World} {g : Nat} (hg : g = W.heap.size) (hb : Below (W.alloc (.cells #[a, b, c] t)).heap.size (W.alloc (.cells #[a, b, c] t)) w5) :
    w5.heap[g]? = some (.cells #[a, b, c] t (0, 0)) ∧ w5.cell? ⟨g, 0, none⟩ = some a ∧ w5.cell? ⟨g, 1, none⟩ = some b ∧ w5.cell? ⟨g, 2, none⟩ = some c ∧ w5.frozen? ⟨g, 0, none⟩ = false ∧ w5.frozen? ⟨g, 1, none⟩ = false ∧ w5.frozen? ⟨g, 2, none⟩ = false := by
  subst hg; exact arr_old (heap_alloc_new W _) hb
/-- A conversion behind the stores into an array that is none of the slice's. -/
theorem conv_set {O : Nat → Prop} {w5 w6 : World} {v : Value} {l : List UInt8} {g : Nat} {a b c : Value} {t : TypeId} (h : Bs w5 O v l) (hh : w5.heap[g]? = some (.cells #[a, b, c] t (0, 0))) (hb : Below w5.heap.size w5 w6) (x y z : Value) (hO : ¬ O g) :
    (convert 29 9 v).run Try.prog (((w6.setCell ⟨g, 0, none⟩ x).setCell ⟨g, 1, none⟩ y).setCell ⟨g, 2, none⟩ z) = .ok (.string ⟨l.toArray⟩) (((w6.setCell ⟨g, 0, none⟩ x).setCell ⟨g, 1, none⟩ y).setCell ⟨g, 2, none⟩ z) := by
  have h1 := Off.setOne w6 ⟨g, 0, none⟩ x
  have h2 := Off.setOne (w6.setCell ⟨g, 0, none⟩ x) ⟨g, 1, none⟩ y
  have h3 := Off.setOne ((w6.setCell ⟨g, 0, none⟩ x).setCell ⟨g, 1, none⟩ y) ⟨g, 2, none⟩ z
  have ho : Off (fun k => k = g) w6 (((w6.setCell ⟨g, 0, none⟩ x).setCell ⟨g, 1, none⟩ y).setCell ⟨g, 2, none⟩ z) := (h1.trans h2 (fun _ _ e => e)).trans h3 (fun _ _ e => e)
  exact ((h.below hb).keep ho (fun k _ hk e => hO (e ▸ hk))).convert
/-- What is behind the region: the array made at last, or laid full. -/
theorem arr_made {W0 w6 : World} (hb : Below W0.heap.size W0 w6) (x y z : Value) (t : TypeId) : ∃ g, Value.pointer (some ⟨w6.heap.size, 0, none⟩) = .pointer (some ⟨g, 0, none⟩) ∧ W0.heap.size ≤ g ∧ (w6.alloc (.cells #[x, y, z] t)).cell? ⟨g, 0, none⟩ = some x ∧ (w6.alloc (.cells #[x, y, z] t)).cell? ⟨g, 1, none⟩ = some y ∧ (w6.alloc (.cells #[x, y, z] t)).cell? ⟨g, 2, none⟩ = some z ∧ Below W0.heap.size W0 (w6.alloc (.cells #[x, y, z] t)) :=
  have h := heap_alloc_new w6 (.cells #[x, y, z] t)
  ⟨_, rfl, hb.size, arr_cell h 0, arr_cell h 1, arr_cell h 2, hb.alloc hb.size _⟩
theorem arr_laid {W0 w6 : World} {g : Nat} {a b c : Value} {t : TypeId} (hb : Below W0.heap.size W0 w6) (hg : W0.heap.size ≤ g) (h : w6.heap[g]? = some (.cells #[a, b, c] t (0, 0))) (x y z : Value) : ∃ g', Value.pointer (some ⟨g, 0, none⟩) = .pointer (some ⟨g', 0, none⟩) ∧ W0.heap.size ≤ g' ∧ (((w6.setCell ⟨g, 0, none⟩ x).setCell ⟨g, 1, none⟩ y).setCell ⟨g, 2, none⟩ z).cell? ⟨g', 0, none⟩ = some x ∧ (((w6.setCell ⟨g, 0, none⟩ x).setCell ⟨g, 1, none⟩ y).setCell ⟨g, 2, none⟩ z).cell? ⟨g', 1, none⟩ = some y ∧ (((w6.setCell ⟨g, 0, none⟩ x).setCell ⟨g, 1, none⟩ y).setCell ⟨g, 2, none⟩ z).cell? ⟨g', 2, none⟩ = some z ∧ Below W0.heap.size W0 (((w6.setCell ⟨g, 0, none⟩ x).setCell ⟨g, 1, none⟩ y).setCell ⟨g, 2, none⟩ z) :=
  have h3 := arr_set (arr_set (arr_set h 0 x) 1 y) 2 z
  ⟨_, rfl, hg, arr_cell h3 0, arr_cell h3 1, arr_cell h3 2, ((hb.setCell hg _).setCell hg _).setCell hg _⟩
theorem new_fine {n me slot : Int} (h : 4 ≤ n ∧ n ≤ 64 ∧ 1 ≤ me ∧ me ≤ n ∧ 0 ≤ slot ∧ slot ≤ 256) : ({ n := n, me := me, slot := slot } : CoreM).Fine :=
  read_fine ⟨0, [], [], [], [], ([], false)⟩ h TMFine.nil TMFine.nil (Nat.zero_le _) (by decide)
theorem new_loc (acc : List UInt8 → Bool) {n me slot : Int} (h : 4 ≤ n ∧ n ≤ 64 ∧ 1 ≤ me ∧ me ≤ n ∧ 0 ≤ slot ∧ slot ≤ 256) : CoreM.Loc acc { n := n, me := me, slot := slot } :=
  { fine := new_fine h, lp := fun _ _ h => (by cases h), lc := fun _ _ h => (by cases h), lk1 := fun _ _ h => (by cases h), lk2 := fun h => absurd h (show ¬ (0 : Int) ≤ -1 by decide), la := fun _ _ h => (by cases h), kp := fun _ _ h => (by cases h), kc := fun _ _ h => (by cases h), kd := fun _ h => (by cases h) }

end Go.Proofs.Ytkkmkkgjpmlhaaa
