/- The library's iterators that package vote ranges over: maps.Values at map[int]int, sorted; slices.Backward at ints. -/
import Derived.Test.YtkkmkkgjpmlhaaaV01
import Derived.Sort.MapsRangeIn
import Derived.RangeFuncBox
import Derived.RangeFuncLeaves
import Derived.RangeFuncFrom
import Derived.RangeFuncWrites
import Derived.OwnWalkIn
import Derived.TacticsInMore
import Derived.LoopNIn
import Derived.LoopIn
namespace Go.Proofs.Ytkkmkkgjpmlhaaa
open Go.RowKit Go.MapKept Go.Shelf
attribute [local go_sem] Oper.semAt_some

section
variable {P : Program} {w w1 : World} {b r : Nat} {α : Type} {f : α → Value} {z zl : List (Int × α)} {F : Fence} {n : Nat} {ops : Array Oper} {rest : List Oper} {o : Oper} {a : Act} {Q : Exit → Act → World → Prop}

theorem wpListIn_range_z (hg : o.guard = none) (mo : Operand) (t : TypeId) (hop : o.op = Op.range t mo) (k e : TypeId) (ht : P.underlying t = some (.map k e)) (hm : a.eval mo = .map (some b)) (f : α → Value) (z : List (Int × α)) (him : IMap w b (mv f z))
    (hK : ∀ w', RangingZ f w' b w.heap.size z z → Below w.heap.size w w' → w'.heap.size = w.heap.size + 1 → wpListIn F n P ops Q rest (a.put o.dst (.pointer (some ⟨w.heap.size, 0, none⟩))) w') : wpListIn F n P ops Q (o :: rest) a w := by
  refine wpListIn_plain hg fun K' hK' => ?_
  obtain ⟨w', hrun, r1, r2, r3⟩ := him.range (P := P) ht
  unfold Oper.wpIn
  refine ⟨?_, ?_⟩
  · simp [Oper.about, hop]
  · rw [Oper.semAt_plain F _ _ (by rw [hop]; intro c hc'; cases hc')]
    simp [execOp, hop, hm, hrun, Result.andThen]
    exact hK' _ _ (hK w' ⟨_, r1, List.Perm.refl _⟩ r2 r3)

theorem wpListIn_next_z (hg : o.guard = none) (it : Operand) (hop : o.op = Op.next it false) (hit : a.eval it = .pointer (some ⟨r, 0, none⟩)) (h : RangingZ f w b r z zl)
    (hDone : zl = [] → wpListIn F n P ops Q rest (a.put o.dst (.tuple #[.bool false])) w)
    (hMore : ∀ x y zl' w', zl.Perm ((x, y) :: zl') → RangingZ f w' b r z zl' → Off (fun k => k = r) w w' → w'.heap.size = w.heap.size →
      (Instr.entry (.pointer (some ⟨r, 0, none⟩))).run P w' = .ok (.tuple #[.int .i64 x, f y]) w' → wpListIn F n P ops Q rest (a.put o.dst (.tuple #[.bool true, .int .i64 x, f y])) w') : wpListIn F n P ops Q (o :: rest) a w := by
  obtain ⟨left, h, hp⟩ := h
  refine wpListIn_plain hg fun K' hK' => ?_
  unfold Oper.wpIn
  refine ⟨by simp [Oper.about, hop], ?_⟩
  rw [Oper.semAt_plain F _ _ (by rw [hop]; intro c hc'; cases hc')]
  rcases h.next (P := P) o.type with ⟨h0, hrun⟩ | ⟨p, left', w', hl, hrun, h1, h2, h3, h4⟩
  · simp [execOp, hop, hit, hrun, Result.andThen]
    refine hK' _ _ (hDone ?_)
    rw [h0] at hp
    have := hp.length_eq
    exact List.eq_nil_of_length_eq_zero (by simpa [mv] using this.symm)
  · have hmem : p ∈ mv f zl := (hl.symm.trans hp).mem_iff.1 List.mem_cons_self
    obtain ⟨q, hq, rfl⟩ := mem_mv hmem
    obtain ⟨l1, l2, rfl⟩ := List.append_of_mem hq
    have hz : (l1 ++ q :: l2).Perm (q :: (l1 ++ l2)) := List.perm_middle
    have h5 : (mv f (l1 ++ q :: l2)).Perm ((q.1, f q.2) :: mv f (l1 ++ l2)) := hz.map _
    simp [execOp, hop, hit, hrun, Result.andThen]
    exact hK' _ _ (hMore q.1 q.2 (l1 ++ l2) w' hz ⟨left', h1, ((hl.symm.trans hp).trans h5).cons_inv⟩ h2 h3 h4)

theorem RangingZ.of_walks (h : RangingZ f w b r z zl) (hk : KeepsWalks w w1) : RangingZ f w1 b r z zl := by
  obtain ⟨left, ⟨es, clock, since, seen, h1, h2, h3, h4, h5⟩, hp⟩ := h
  exact ⟨left, ⟨es, clock, since, seen, hk.same _ _ h1 rfl, h2, h3, hk.same _ _ h4 rfl, h5⟩, hp⟩
theorem RangingZ.walk (h : RangingZ f w b r z zl) : ∃ o : Obj, w.heap[r]? = some o ∧ o.isWalk = true := by
  obtain ⟨left, ⟨es, clock, since, seen, h1, h2, h3, h4, h5⟩, hp⟩ := h
  exact ⟨_, h4, rfl⟩
theorem Off.grownBy {r : Nat} (h : Off (fun k => k = r) w w1) : w.grownBy w1 (some r) := ⟨h.os, h.tape, h.output, h.size, fun k hk hne => h.block k hk (fun e => hne (by rw [e]))⟩
end

set_option maxRecDepth 100000 in
set_option maxHeartbeats 1000000 in
/-- The iterator of maps.Values. -/
theorem values1_in (F : Fence) (n : Nat) (h7 : F.fn 94) (hro : F.round = none) (hn : 1 ≤ n) (l Bm b : Nat) (z : List (Int × Int)) (J : List Int → World → Prop) (W : World) (hJ : AbidesFrom W.heap.size J)
    (hY : ∀ pre x W1, J pre W1 → pre.length < z.length → YieldAt F (n - 1) Try.prog l #[encZ x] W1 fun e W' => e = .returned (.bool true) ∧ J (pre ++ [x]) W' ∧ KeepsWalks W1 W')
    (hm : W.cell? ⟨Bm, 0, none⟩ = some (.map (some b))) (him : IMap W b (mv (.int .i64) z)) (h0 : J [] W) :
    CallsIn F n Try.prog 94 #[.func (.yield l) #[] #[], .pointer (some ⟨Bm, 0, none⟩)] W fun e W' => (∃ v, e = .returned v) ∧ ∃ xs, xs.Perm (z.map (·.2)) ∧ J xs W' := by
  refine callsIn_of_wp Try.func94 rfl h7 ?_ hro
  simp only [Try.ntmps94, List.size_toArray, List.length_cons, List.length_nil, Nat.reduceAdd, Nat.reduceSub, Array.replicate_succ, Array.replicate_zero, List.push_toArray, List.append_toArray, List.nil_append, List.cons_append]
  gi_wp2_with (first
    | (gi_at_range; refine wpListIn_range_z rfl _ 96 rfl 3 3 Try.underlying96 rfl (.int .i64) z him ?_; intro w0 hrg0 hb0 hs0)
    | gi_in)
  go_frame
  gi_loopw [4] (fun _ wr => ∃ (zl : List (Int × Int)) (xs : List Int), RangingZ (.int .i64) wr b W.heap.size z zl ∧ (xs ++ zl.map (·.2)).Perm (z.map (·.2)) ∧ J xs wr)
    (fun _ wr => wr.rangeLeft b W.heap.size)
  case atStart =>
    exact ⟨z, [], hrg0, by simp, hJ [] W w0 none h0 ⟨hb0.os, hb0.tape, hb0.output, hb0.size, fun k hk _ => hb0.block k hk⟩ (fun r e => by cases e)⟩
  case round =>
    obtain ⟨zl, xs, hrg, hperm, hJs⟩ := hrel
    gi_wp2_with (first
      | (gi_at_next; refine wpListIn_next_z rfl _ rfl rfl hrg ?_ ?_)
      | gi_in)
    · intro hz
      gi_wp2
      go_end0
      exact ⟨⟨_, rfl⟩, xs, by rw [hz] at hperm; simpa using hperm, hJs⟩
    · intro x y zl' w2 hp hrg2 ho2 hs2 hen
      have hJ2 : J xs w2 := hJ xs wr w2 (some W.heap.size) hJs ho2.grownBy (fun r e => by cases e; exact ⟨Nat.le_refl _, hrg.walk⟩)
      have hlen := hperm.length_eq
      have hlen2 := hp.length_eq
      simp only [List.length_append, List.length_map, List.length_cons] at hlen hlen2
      obtain ⟨fn, tmps, assign, body, hy, hR⟩ := hY xs y w2 hJ2 (by omega)
      have hml := hrg.len
      have HP := hid hp
      have HM := hid hml
      have HL := hid hlen2
      clear hs2 hml hlen hlen2 hp
      gi_wp2
      refine hR.mono ?_
      rintro e W3 ⟨rfl, hJ3, hk3⟩
      gi_wp2
      have hrg3 := hrg2.of_walks hk3
      go_roundw
      case rel =>
        refine ⟨zl', xs ++ [y], hrg3, ?_, hJ3⟩
        refine List.Perm.trans ?_ hperm
        rw [List.append_assoc]
        have h6 : ([y] ++ zl'.map (·.2)).Perm (zl.map (·.2)) := (List.Perm.map (fun p : Int × Int => p.2) HP.out).symm
        exact List.Perm.append_left _ h6
      case measure => rw [HM.out, hrg3.len, HL.out]; omega

theorem values_any (mb : Option Nat) (W : World) : Calls Try.prog 84 #[.map mb] W fun e w' => e = .returned (.func (.func 94) #[] #[.pointer (some ⟨W.heap.size, 0, none⟩)]) ∧ w' = W.alloc (.cells #[.map mb] 96) := by
  go_enter Try.func84, Try.ntmps84
  go_wp2
  go_ret
  exact ⟨rfl, rfl⟩

set_option maxHeartbeats 1000000 in
/-- 'slices.Sorted(maps.Values(m))'. -/
theorem sortedV_any (b : Nat) (z : List (Int × Int)) (w : World) (h : IMap w b (mv (.int .i64) z)) (hsz : z.length ≤ 17592186044416) :
    Calls Try.prog 59 #[.func (.func 94) #[] #[.pointer (some ⟨w.heap.size, 0, none⟩)]] (w.alloc (.cells #[.map (some b)] 96)) fun e w' =>
      ∃ v, e = .returned v ∧ Zs w' w.heap.size v (sortZ (z.map (·.2))) ∧ Below w.heap.size w w' := by
  have hlt := h.lt
  refine (callsIn_wide (n := 5)).1 ?_
  have hseq : SeqGives Fence.wide 2 Try.prog 94 #[.pointer (some ⟨w.heap.size, 0, none⟩)] encZ (fun ss => ss.Perm (z.map (·.2))) z.length (w.alloc (.cells #[.map (some b)] 96)) := fun l J W hW hJ hY h0 => by
    have hc : (w.alloc (.cells #[.map (some b)] 96)).cell? ⟨w.heap.size, 0, none⟩ = some (.map (some b)) := by
      have hh := heap_alloc_new w (.cells #[.map (some b)] 96)
      unfold World.cell?
      rw [hh]
      rfl
    refine values1_in Fence.wide 2 trivial rfl (by omega) l w.heap.size b z J W hJ hY ((hW.cell (p := ⟨w.heap.size, 0, none⟩) (by simp)).trans hc) ?_ h0
    exact (h.alloc _).below hW
  have cS := AnyZI.sorted_in Try.sorted Fence.wide 5 trivial trivial trivial trivial rfl (by omega) (sortsIn _) (enters_of Try.func77 (by kernel_rfl) rfl) 94 #[.pointer (some ⟨w.heap.size, 0, none⟩)] trivial (enters_of Try.func94 (by kernel_rfl) rfl) _ _ (by unfold maxLen; omega) (by omega) _ hseq
  change CallsIn _ _ Try.prog 59 _ _ _ at cS
  refine cS.mono ?_
  rintro e w' ⟨v, ss, rfl, hS, hrow, hnil, hb⟩
  refine ⟨v, rfl, ?_, ((Below.refl _ w).alloc (Nat.le_refl _) _).trans (hb.mono (by simp))⟩
  rw [show ss.mergeSort (fun x y => decide (x ≤ y)) = sortZ (z.map (·.2)) from (mergeSort_of_perm_i hS).trans (sortZ_eq _).symm] at hrow
  obtain ⟨A, cap, h1, h2, h3⟩ := Zs.of_own hrow
  exact ⟨A, cap, h1, h2, fun hl => by obtain ⟨b, e, hb, hc⟩ := h3 hl; exact ⟨b, e, by simp at hb; omega, hc⟩⟩

/-! ### slices.Backward -/
def upto {α : Type} (f : Nat → α) (k : Nat) : List α := (List.range k).map f
theorem upto_succ {α : Type} (f : Nat → α) (k : Nat) : upto f (k + 1) = upto f k ++ [f k] := by simp [upto, List.range_succ]
theorem upto_length {α : Type} (f : Nat → α) (k : Nat) : (upto f k).length = k := by simp [upto]

theorem backward_any (a : Option Addr) (len cap : Nat) (w : World) : Calls Try.prog 95 #[.slice a len cap] w fun e w' => e = .returned (.func (.func 109) #[] #[.pointer (some ⟨w.heap.size, 0, none⟩)]) ∧ w' = w.alloc (.cells #[.slice a len cap] 51) := by
  go_enter Try.func95, Try.ntmps95
  go_wp2
  go_ret
  exact ⟨rfl, rfl⟩

set_option maxRecDepth 100000 in
set_option maxHeartbeats 2000000 in
theorem backward1_in (F : Fence) (n : Nat) (h8 : F.fn 109) (hro : F.round = none) (hn : 1 ≤ n) (l Bs n₀ : Nat) (sv : Value) (zs : List Int) (hreach : zs.length ≤ 17592186044416) (J Jx : List (Int × Int) → World → Prop)
    (hY : ∀ pre x W, J pre W → pre.length < zs.length → YieldAt F (n - 1) Try.prog l #[.int .i64 x.1, .int .i64 x.2] W fun e W' =>
      (e = .returned (.bool true) ∧ J (pre ++ [x]) W' ∧ Below n₀ W W') ∨ (e = .returned (.bool false) ∧ Jx (pre ++ [x]) W'))
    (W : World) (hBs : W.cell? ⟨Bs, 0, none⟩ = some sv) (hBn : Bs < n₀) (hz : Zs W 0 sv zs) (hlow : ∀ A c, sv = .slice A zs.length c → 0 < zs.length → ∀ ad, A = some ad → ad.block < n₀) (h0 : J [] W) :
    CallsIn F n Try.prog 109 #[.func (.yield l) #[] #[], .pointer (some ⟨Bs, 0, none⟩)] W fun e W' => (∃ v, e = .returned v) ∧
      ((∃ ys, ys = upto (fun j => ((zs.length : Int) - 1 - j, zs.reverse[j]?.getD 0)) zs.length ∧ J ys W') ∨ (∃ pre, (∃ k, k ≤ zs.length ∧ pre = upto (fun j => ((zs.length : Int) - 1 - j, zs.reverse[j]?.getD 0)) k) ∧ Jx pre W')) := by
  obtain ⟨A, cap, rfl, hcap, hcs⟩ := hz
  have hlw := hlow A cap rfl
  clear hlow
  refine callsIn_of_wp Try.func109 rfl h8 ?_ hro
  simp only [Try.ntmps109, List.size_toArray, List.length_cons, List.length_nil, Nat.reduceAdd, Nat.reduceSub, Array.replicate_succ, Array.replicate_zero, List.push_toArray, List.append_toArray, List.nil_append, List.cons_append]
  gi_wp2
  gi_loopw [3] (fun i wr => ∃ (x : Int) (k : Nat), i = .int .i64 x ∧ x + 1 + k = zs.length ∧ -1 ≤ x ∧ J (upto (fun j => ((zs.length : Int) - 1 - j, zs.reverse[j]?.getD 0)) k) wr ∧ Below n₀ W wr)
    (fun i _ => (intOf i + 1).toNat)
  case atStart => exact ⟨_, 0, rfl, by omega, by omega, h0, Below.refl _ _⟩
  case round =>
    obtain ⟨x, k, rfl, hxk, hx1, hJs, hnx⟩ := hrel
    by_cases hx : 0 ≤ x
    · obtain ⟨j, rfl⟩ : ∃ j : Nat, x = j := ⟨x.toNat, by omega⟩
      obtain ⟨b, rfl, hb0, hcells⟩ := hcs (by omega)
      have hj : j < zs.length := by omega
      have hjk : zs.reverse[k]?.getD 0 = zs[j]'hj := by
        rw [List.getElem?_reverse (by omega), show zs.length - 1 - k = j from by omega, List.getElem?_eq_getElem hj]; rfl
      have hcx : wr.cell? ⟨b, j, none⟩ = some (.int .i64 (zs[j]'hj)) := (hnx.cell (p := ⟨b, j, none⟩) (hlw (by omega) ⟨b, 0, none⟩ rfl)).trans (hcells j _ (List.getElem?_eq_getElem hj))
      have hcb : wr.cell? ⟨Bs, 0, none⟩ = some (.slice (some ⟨b, 0, none⟩) zs.length cap) := (hnx.cell (p := ⟨Bs, 0, none⟩) hBn).trans hBs
      obtain ⟨fn, tmps, assign, body, hy, hR⟩ := hY _ ((j : Int), zs[j]'hj) wr hJs (by rw [upto_length]; omega)
      dsimp only at hy
      have HJK := hid hjk
      have hjl : (j : Int) < (zs.length : Int) := by omega
      generalize zs[j]'hj = u at *
      clear hjk hcells
      gi_wp2
      refine hR.mono ?_
      rintro e W3 (⟨rfl, hJ3, hk3⟩ | ⟨rfl, hJx3⟩)
      · gi_wp2
        go_roundw
        case rel =>
          refine ⟨_, k + 1, rfl, by omega, by omega, ?_, hnx.trans hk3⟩
          rw [upto_succ, HJK.out, show (zs.length : Int) - 1 - k = j from by omega]
          exact hJ3
        case measure => first | (simp [intOf]; done) | (simp [intOf]; omega)
      · gi_wp2
        refine bodyPost_ret (results_none rfl _ _ _) rfl ?_
        refine ⟨⟨_, rfl⟩, .inr ⟨_, ⟨k + 1, by omega, rfl⟩, ?_⟩⟩
        rw [upto_succ, HJK.out, show (zs.length : Int) - 1 - k = j from by omega]
        exact hJx3
    · have hk : k = zs.length := by omega
      gi_wp2
      go_end0
      exact ⟨⟨_, rfl⟩, .inl (by rw [hk] at hJs; exact hJs)⟩
end Go.Proofs.Ytkkmkkgjpmlhaaa
