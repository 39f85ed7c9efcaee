/- four: a number as four bytes. Grown: how much of what lasts there is. -/
import Derived.Test.YtkkmkkgjpmlhaaaV20
import Derived.Test.YtkkmkkgjpmlhaaaV06
namespace Go.Proofs.Ytkkmkkgjpmlhaaa
open Go.RowKit Go.MapKept

def be4 (n : Int) : List UInt8 := [UInt8.ofNat (n / 16777216 % 256).toNat, UInt8.ofNat (n / 65536 % 256).toNat, UInt8.ofNat (n / 256 % 256).toNat, UInt8.ofNat (n % 256).toNat]

/-- A slice of bytes of the call's own that reads as a list. -/
def Own (w : World) (base : Nat) (v : Value) (l : List UInt8) : Prop := w.ownsRow base 5 1 v l.length (cells8 l)

theorem Own.form {w : World} {base : Nat} {v : Value} {l : List UInt8} (h : Own w base v l) : ∃ A n c, v = .slice A n c := by obtain ⟨A, c, h⟩ := ownsRow_slice h; exact ⟨A, _, c, h⟩
theorem Own.lt {w : World} {base : Nat} {v : Value} {l : List UInt8} (h : Own w base v l) : ∀ k, v.ownBlock = some k → base ≤ k ∧ k < w.heap.size := World.ownsRow.lt h
theorem Own.below {w w1 : World} {base : Nat} {v : Value} {l : List UInt8} (h : Own w base v l) (hb : Below w.heap.size w w1) : Own w1 base v l := own_below h hb
theorem Own.nil (w : World) (base : Nat) : Own w base (.slice none 0 0) [] := World.ownsRow_nil _ _ _ _
theorem Own.bs {w : World} {base : Nat} {v : Value} {l : List UInt8} (h : Own w base v l) : Bs w (fun b => base ≤ b) v l := Bs.of_own h

/-- The append of bytes that were laid in a block of their own first. -/
theorem Own.lay {w w3 : World} {base : Nat} {v : Value} {l : List UInt8} (cs : Array Value) (l2 : List UInt8) (h : Own w base v l) (hb : Below w.heap.size w w3) (hbase : base ≤ w.heap.size) (hc : cs.toList = cells8 l2) (h0 : 0 < l2.length) (hl : l.length + l2.length ≤ 140737488355328) :
    ∃ A' n' c' w4, (Builtin.append_ #[29, 29] 29 #[v, .slice (some ⟨w3.heap.size, 0, none⟩) l2.length l2.length]).run Try.prog (w3.alloc (.cells cs 5)) = .ok (.slice A' n' c') w4 ∧
      Own w4 base (.slice A' n' c') (l ++ l2) ∧ Below base w w4 ∧ Off (fun k => v.ownBlock = some k) w w4 ∧ (∀ k, (Value.slice A' n' c').ownBlock = some k → v.ownBlock = some k ∨ w.heap.size ≤ k) := by
  obtain ⟨i0, hi0, hq0, hq1, hq2⟩ := info_parts info_u8
  have hsz := hb.size
  obtain ⟨gg, cap4, w4, hrun4, hown4, hgrow4, hat4, hlt4⟩ := run_append_lies (P := Try.prog) (w3.alloc (.cells cs 5)) 29 29 base 5 i0 _ 1 1 Try.underlying29 hi0 hq0 hq1 hq2 rfl (by omega) v l.length _ ((own_below h hb).alloc _) ⟨w3.heap.size, 0, none⟩ l2.length l2.length (cells8 l2) (by simp [cells8])
    (by rw [← hc]; exact World.news_of_block (t := 5) (fr := (0, 0)) (heap_alloc_new _ _)) (fun u hu => by obtain ⟨x, _, rfl⟩ := List.mem_map.1 hu; rfl) h0 (by unfold maxLen; omega) (by omega) (by simp; omega) (w3.heap.size + 1) (by simp)
  refine ⟨_, _, cap4, w4, hrun4, by unfold Own; rw [List.length_append, show cells8 (l ++ l2) = cells8 l ++ cells8 l2 from by simp [cells8]]; exact hown4, ((hb.mono hbase).alloc (by omega) _).grown hgrow4 (by simp; omega) (fun k hk => (World.ownsRow.lt h k hk).1), ((Off.of_below (F := fun k => v.ownBlock = some k) hb).alloc _).grown hgrow4 (fun b hb _ => hb), fun k hk => by have e : gg = k := (by simpa [Value.ownBlock] using hk); subst e; exact hat4.imp id (fun e => by omega)⟩

/-- The append of bytes. -/
theorem Own.two {w : World} {base : Nat} {O : Nat → Prop} {v v2 : Value} {l l2 : List UInt8} (h : Own w base v l) (h2 : Bs w O v2 l2) (hl : l.length + l2.length ≤ 140737488355328) (hbase : base ≤ w.heap.size) :
    ∃ A' n' c' w4, (Builtin.append_ #[29, 29] 29 #[v, v2]).run Try.prog w = .ok (.slice A' n' c') w4 ∧ Own w4 base (.slice A' n' c') (l ++ l2) ∧ Below base w w4 ∧ Off (fun k => v.ownBlock = some k) w w4 ∧ (∀ k, (Value.slice A' n' c').ownBlock = some k → v.ownBlock = some k ∨ w.heap.size ≤ k) := by
  obtain ⟨i0, hi0, hq0, hq1, hq2⟩ := info_parts info_u8
  obtain ⟨A', c', w', h3, h4, h5, h6⟩ := run_append_bs (P := Try.prog) w base 29 29 5 i0 Try.underlying29 hi0 hq0 hq1 hq2 v l.length _ h O v2 l2 h2 hl hbase
  exact ⟨A', _, c', w', h3, by unfold Own; rw [List.length_append, show cells8 (l ++ l2) = cells8 l ++ cells8 l2 from by simp [cells8]]; exact h4, (Below.refl base w).grown h5 hbase (fun k hk => (World.ownsRow.lt h k hk).1), (Off.refl _ w).grown h5 (fun b hb _ => hb), fun k hk => by rcases h6 with e | e; { exact .inl (e ▸ hk) }; { right; rw [hk] at e; injection e with e; omega }⟩

theorem be4_cells {n : Int} (n0 : 0 ≤ n) : [Value.int .u8 (n / 16777216 % 256), Value.int .u8 (n / 65536 % 256), Value.int .u8 (n / 256 % 256), Value.int .u8 (n % 256)] = cells8 (be4 n) := by
  have e : ∀ x : Int, 0 ≤ x → x < 256 → ((UInt8.ofNat x.toNat).toNat : Int) = x := fun x h0 h1 => by
    rw [UInt8.toNat_ofNat']
    omega
  unfold cells8 be4
  simp only [List.map_cons, List.map_nil]
  rw [e _ (by omega) (by omega), e _ (by omega) (by omega), e _ (by omega) (by omega), e _ (by omega) (by omega)]

set_option maxRecDepth 100000 in
set_option maxHeartbeats 1000000 in
theorem four_any (base : Nat) (v : Value) (l : List UInt8) (n : Int) (w : World) (h : Own w base v l) (hb : base ≤ w.heap.size) (hl : l.length ≤ 1099511627776) (n0 : 0 ≤ n) (n1 : n ≤ 4294967296) :
    Calls Try.prog 48 #[v, .int .i64 n] w fun e w' => ∃ v', e = .returned v' ∧ Own w' base v' (l ++ be4 n) ∧ Below base w w' ∧ Off (fun k => v.ownBlock = some k) w w' ∧ (∀ k, v'.ownBlock = some k → v.ownBlock = some k ∨ w.heap.size ≤ k) := by
  obtain ⟨A, c, rfl⟩ := ownsRow_slice h
  obtain ⟨A4, n4, c4, w4, hrun4, hown4, hb4, ho4, ha4⟩ := Own.lay #[Value.int .u8 (n / 16777216 % 256), Value.int .u8 (n / 65536 % 256), Value.int .u8 (n / 256 % 256), Value.int .u8 (n % 256)] (be4 n) h (Below.refl _ w) hb (be4_cells n0) (by simp [be4]) (by simp [be4]; omega)
  have H := hid hown4
  simp only [show (be4 n).length = 4 from rfl] at hrun4
  clear h hown4
  have HR4 := hid hrun4
  clear hrun4
  go_enter Try.func48, Try.ntmps48
  go_wp2_with (at_builtin; refine wpList_append_run rfl _ _ 29 rfl rfl rfl HR4.out ?_)
  go_ret
  exact ⟨_, rfl, H.out, hb4, ho4, ha4⟩
end Go.Proofs.Ytkkmkkgjpmlhaaa
namespace Go.Proofs.Ytkkmkkgjpmlhaaa
open Go.RowKit Go.MapKept

/-- In how many views a peer told something. -/
def ownN (me : Int) (t : TM) : Nat := (t.filter fun p => (p.2.lookup me).isSome).length
def ownZ (me : Int) (z : List (Int × (Nat × List (Int × List UInt8)))) : Nat := (z.filter fun p => (p.2.2.lookup me).isSome).length
theorem ownZ_mv (me : Int) (z : List (Int × (Nat × List (Int × List UInt8)))) : ownN me (mv (·.2) z) = ownZ me z := by
  unfold ownN ownZ mv
  rw [List.filter_map, List.length_map]
  rfl
theorem ownZ_perm {me : Int} {z z' : List (Int × (Nat × List (Int × List UInt8)))} {x : Int} {y : Nat × List (Int × List UInt8)} (h : z.Perm ((x, y) :: z')) : ownZ me z = ownZ me z' + (if (y.2.lookup me).isSome then 1 else 0) := by
  unfold ownZ
  rw [(h.filter _).length_eq, List.filter_cons]
  by_cases e : (y.2.lookup me).isSome = true
  · rw [if_pos e, if_pos e]; rfl
  · rw [if_neg e, if_neg e]; rfl
theorem ownZ_le (me : Int) (z : List (Int × (Nat × List (Int × List UInt8)))) : ownZ me z ≤ z.length := List.length_filter_le _ _

theorem Told.below {w W : World} {O : Nat → Prop} {b : Nat} {t : List (Int × List UInt8)} (h : Told w O b t) (hb : Below w.heap.size w W) : Told W O b t := h.keep (Off.of_below (F := fun _ => False) hb) (fun f => f) (fun _ _ _ f => f)
/-- A peer's value in a view's map. -/
theorem told_find {W : World} {O : Nat → Prop} {bi : Nat} {tl : List (Int × List UInt8)} (h : Told W O bi tl) (who : Int) :
    ∃ A n m, (Instr.lookup 98 (.map (some bi)) (.int .i64 who) true).run Try.prog W = .ok (.tuple #[.slice A n m, .bool (tl.lookup who).isSome]) W := by
  obtain ⟨zi, hi1, hi2, hi3⟩ := h
  have e := hi1.lookup (P := Try.prog) Try.underlying98 Try.underlying3 (zero_bytes W) who true
  rw [lookup_mv] at e
  rw [hi2, lookup_mv]
  cases hz : zi.lookup who with
  | none => rw [hz] at e; exact ⟨none, 0, 0, by simpa using e⟩
  | some x =>
    rw [hz] at e
    obtain ⟨A, cap, hx, _⟩ := hi3 _ (lookup_mem hz)
    dsimp only at hx
    refine ⟨A, x.2.length, cap, ?_⟩
    simp only [Option.map_some, Option.getD_some, Option.isSome_some, if_true] at e ⊢
    rw [← hx]
    exact e

theorem arr_set {W : World} {k : Nat} {cs : Array Value} {t : TypeId} (h : W.heap[k]? = some (.cells cs t (0, 0))) (j : Nat) (u : Value) : (W.setCell ⟨k, j, none⟩ u).heap[k]? = some (.cells (cs.setIfInBounds j u) t (0, 0)) := heap_setCell_cells h u
theorem arr_cell {W : World} {k : Nat} {cs : Array Value} {t : TypeId} (h : W.heap[k]? = some (.cells cs t (0, 0))) (j : Nat) : W.cell? ⟨k, j, none⟩ = cs[j]? := by simp [World.cell?, h]
theorem arr_frozen {W : World} {k : Nat} {cs : Array Value} {t : TypeId} (h : W.heap[k]? = some (.cells cs t (0, 0))) (j : Nat) : W.frozen? ⟨k, j, none⟩ = false := by simp [World.frozen?, h]

set_option maxRecDepth 100000 in
set_option maxHeartbeats 4000000 in
theorem grown_any {ρ : Roles} {i b fid : Nat} {c : CoreM} (w : World) (h : CoreAt w ρ i b fid c) (hf : c.Fine) :
    Calls Try.prog 16 #[.pointer (some ⟨b, 0, none⟩)] w fun e w' => e = .returned (.agg #[.int .i64 c.view, .int .i64 (ownN c.me c.preps), .int .i64 (ownN c.me c.comms)]) ∧ Below w.heap.size w w' := by
  obtain ⟨vw, vl, vv, bp, b1, b2, b3, bs, bd, h⟩ := h
  have c1 := h.cell 1
  have c4 := h.cell 4
  have c8 := h.cell 8
  have c9 := h.cell 9
  simp only [coreCells, List.getElem?_toArray, List.getElem?_cons_zero, List.getElem?_cons_succ] at c1 c4 c8 c9
  obtain ⟨-, z1, hm1, hz1, hb1⟩ := id h.preps
  obtain ⟨-, z2, hm2, hz2, hb2⟩ := id h.comms
  have hlt := h.lt
  have hn1 : ownN c.me c.preps = ownZ c.me z1 := by rw [hz1, ownZ_mv]
  have hn2 : ownN c.me c.comms = ownZ c.me z2 := by rw [hz2, ownZ_mv]
  have hl1 : z1.length ≤ 17592186044416 := by have := hf.preps.1.ok.1; rw [hz1] at this; simpa [mv] using this
  have hl2 : z2.length ≤ 17592186044416 := by have := hf.comms.1.ok.1; rw [hz2] at this; simpa [mv] using this
  have hle1 := ownZ_le c.me z1
  have hle2 := ownZ_le c.me z2
  have hb1' : ∀ p ∈ z1, Told w (fun k => ρ k = (i, 2, 0)) p.2.1 p.2.2 := fun p hp => (hb1 p hp).2
  have hb2' : ∀ p ∈ z2, Told w (fun k => ρ k = (i, 2, 0)) p.2.1 p.2.2 := fun p hp => (hb2 p hp).2
  rw [hn1, hn2]
  have HB1 := hid hb1'
  have HB2 := hid hb2'
  have H := hid h
  have HM2 := hid hm2
  have hmA : IMap ((w.alloc (.cells #[.int .i64 0, .int .i64 0, .int .i64 0] 35)).alloc (.cells #[.int .i64 c.view, .int .i64 0, .int .i64 0] 35)) b1 (mv (fun x => .map (some x.1)) z1) := (hm1.alloc _).alloc _
  clear h hz1 hz2 hb1 hb2 hn1 hn2 hb1' hb2' hm1 hm2
  go_enter Try.func16, Try.ntmps16
  go_wp2_with (at_range; refine wpList_range_z rfl _ 95 rfl 3 98 Try.underlying95 rfl (fun x => Value.map (some x.1)) z1 hmA ?_; intro w2 hr2 hb2 hs2)
  have hA : Below w.heap.size w ((w.alloc (.cells #[.int .i64 0, .int .i64 0, .int .i64 0] 35)).alloc (.cells #[.int .i64 c.view, .int .i64 0, .int .i64 0] 35)) := ((Below.refl _ w).alloc (Nat.le_refl _) _).alloc (by simp) _
  have ho3 : w2.heap[w.heap.size + 1]? = some (.cells #[.int .i64 c.view, .int .i64 0, .int .i64 0] 35 (0, 0)) := (hb2.block _ (by simp)).trans (heap_alloc_at' _ _ _ (by simp))
  have ho2 : w2.heap[w.heap.size]? = some (.cells #[.int .i64 0, .int .i64 0, .int .i64 0] 35 (0, 0)) := (hb2.block _ (by simp; omega)).trans ((Below.heap_alloc _ _ _ (by simp)).trans (heap_alloc_at' _ _ _ rfl))
  have hbw2 : Below w.heap.size w w2 := hA.trans (hb2.mono hA.size)
  simp only [World.size_alloc] at hr2 hs2
  have HR2 := hid hr2
  have HO3 := hid ho3
  have HO2 := hid ho2
  clear hmA hA ho3 ho2 hr2 hb2
  go_frame
  rw [show ((w.alloc (Obj.cells #[.int .i64 0, .int .i64 0, .int .i64 0] 35)).alloc (.cells #[.int .i64 c.view, .int .i64 0, .int .i64 0] 35)).heap.size = w.heap.size + 1 + 1 from by simp]
  go_loopw [5] (fun _ wi => ∃ (n : Nat) (zl : List (Int × (Nat × List (Int × List UInt8)))), RangingZ (fun x => Value.map (some x.1)) wi b1 (w.heap.size + 1 + 1) z1 zl ∧ (∀ p ∈ zl, p ∈ z1) ∧ n + ownZ c.me zl = ownZ c.me z1 ∧ wi.heap[w.heap.size + 1]? = some (.cells #[.int .i64 c.view, .int .i64 n, .int .i64 0] 35 (0, 0)) ∧
      wi.heap[w.heap.size]? = some (.cells #[.int .i64 0, .int .i64 0, .int .i64 0] 35 (0, 0)) ∧ Below w.heap.size w wi ∧ w.heap.size + 2 < wi.heap.size)
    (fun _ wi => wi.rangeLeft b1 (w.heap.size + 1 + 1))
  case atStart => exact ⟨0, z1, HR2.out, fun p hp => hp, by omega, HO3.out, HO2.out, hbw2, by omega⟩
  case round =>
    obtain ⟨n, zl, hrg, hzl, hcnt, ho3, ho2, hbi, hsi⟩ := hrel
    have hnb : n ≤ 17592186044416 := by omega
    have k0 := arr_cell ho3 0
    have k1 := arr_cell ho3 1
    have k2 := arr_cell ho3 2
    have f1 := arr_frozen ho3 1
    simp only [List.getElem?_toArray, List.getElem?_cons_zero, List.getElem?_cons_succ] at k0 k1 k2
    have HP := H.out.below hbi
    have p1 := HP.cell 1
    have p9 := HP.cell 9
    simp only [coreCells, List.getElem?_toArray, List.getElem?_cons_zero, List.getElem?_cons_succ] at p1 p9
    have HP' := hid HP
    have HO3' := hid ho3
    have HO2' := hid ho2
    clear HP ho3 ho2
    go_wp2_with (at_next; refine wpList_next_z rfl _ rfl rfl hrg ?_ ?_)
    · intro hz0
      have hcn : n = ownZ c.me z1 := by subst hz0; simpa [ownZ] using hcnt
      subst hcn
      have hmi := HM2.out.below hbi
      go_wp2_with (at_range; refine wpList_range_z rfl _ 95 rfl 3 98 Try.underlying95 rfl (fun x => Value.map (some x.1)) z2 hmi ?_; intro w3 hr3 hb3 hs3)
      obtain ⟨wo, rfl⟩ : ∃ wo : World, wo = wr := ⟨_, rfl⟩
      have hbw3 : Below w.heap.size w w3 := hbi.trans (hb3.mono hbi.size)
      have hx3 : w3.heap[w.heap.size + 1]? = some (.cells #[.int .i64 c.view, .int .i64 (ownZ c.me z1), .int .i64 0] 35 (0, 0)) := (hb3.block _ (by omega)).trans HO3'.out
      have hx2 : w3.heap[w.heap.size]? = some (.cells #[.int .i64 0, .int .i64 0, .int .i64 0] 35 (0, 0)) := (hb3.block _ (by omega)).trans HO2'.out
      have HX3 := hid hx3
      have HX2 := hid hx2
      have HR3 := hid hr3
      have hle2' := hle2
      clear hx3 hx2 hr3 hb3 hmi hrg p1 p9 k0 k1 k2 f1
      go_frame
      go_loopw [9] (fun _ wi => ∃ (m : Nat) (zl : List (Int × (Nat × List (Int × List UInt8)))), RangingZ (fun x => Value.map (some x.1)) wi b2 wo.heap.size z2 zl ∧ (∀ p ∈ zl, p ∈ z2) ∧ m + ownZ c.me zl = ownZ c.me z2 ∧ wi.heap[w.heap.size + 1]? = some (.cells #[.int .i64 c.view, .int .i64 (ownZ c.me z1), .int .i64 m] 35 (0, 0)) ∧
          wi.heap[w.heap.size]? = some (.cells #[.int .i64 0, .int .i64 0, .int .i64 0] 35 (0, 0)) ∧ Below w.heap.size w wi ∧ wo.heap.size < wi.heap.size)
        (fun _ wi => wi.rangeLeft b2 wo.heap.size)
      case atStart => exact ⟨0, z2, HR3.out, fun p hp => hp, by omega, HX3.out, HX2.out, hbw3, by omega⟩
      case round =>
        obtain ⟨m, zl, hrg, hzl, hcnt2, ho3, ho2, hbi2, hsi2⟩ := hrel
        have hmb : m ≤ 17592186044416 := by omega
        have k0 := arr_cell ho3 0
        have k1 := arr_cell ho3 1
        have k2 := arr_cell ho3 2
        have l0 := arr_cell ho2 0
        have l1 := arr_cell ho2 1
        have l2 := arr_cell ho2 2
        have e0 := arr_frozen ho2 0
        have e1 := arr_frozen ho2 1
        have e2 := arr_frozen ho2 2
        have f2 := arr_frozen ho3 2
        simp only [List.getElem?_toArray, List.getElem?_cons_zero, List.getElem?_cons_succ] at k0 k1 k2 l0 l1 l2
        have HP := H.out.below hbi2
        have p1 := HP.cell 1
        simp only [coreCells, List.getElem?_toArray, List.getElem?_cons_zero, List.getElem?_cons_succ] at p1
        have HO3'' := hid ho3
        have HO2'' := hid ho2
        have HPP := hid HP
        clear HP ho3 ho2
        go_wp2_with (at_next; refine wpList_next_z rfl _ rfl rfl hrg ?_ ?_)
        · intro hz0
          have hcm : m = ownZ c.me z2 := by subst hz0; simpa [ownZ] using hcnt2
          subst hcm
          go_wp2
          refine bodyPost_ret (v := .agg #[.int .i64 c.view, .int .i64 (ownZ c.me z1), .int .i64 (ownZ c.me z2)]) (by simp [results, Try.results16, go_sem, *]) rfl ⟨rfl, ?_⟩
          repeat (refine Below.setCell ?_ (by dsimp only; omega) _)
          exact hbi2
        · intro x yb yl zl' w4 hperm hrg4 ho4 hs4 hen
          have hyz : (x, (yb, yl)) ∈ z2 := hzl _ (hperm.mem_iff.2 List.mem_cons_self)
          have hzl' : ∀ p ∈ zl', p ∈ z2 := fun p hp => hzl p (hperm.mem_iff.2 (List.mem_cons_of_mem _ hp))
          have hb4 : Below w.heap.size w w4 := below_off_new hbi2 ho4 (by omega) (Nat.le_refl _)
          obtain ⟨A, n', m', hlk⟩ := told_find (Told.below (HB2.out (x, (yb, yl)) hyz) hb4) c.me
          dsimp only at hlk
          have hov := ownZ_perm (me := c.me) hperm
          have hm1 := hrg4.len
          have hm0 := hrg.len
          have hlen := hperm.length_eq
          simp only [List.length_cons] at hlen
          have q0 := ho4.cell_some k0 (by dsimp only; omega)
          have q1 := ho4.cell_some k1 (by dsimp only; omega)
          have q2 := ho4.cell_some k2 (by dsimp only; omega)
          have q3 := ho4.cell_some p1 (by dsimp only; omega)
          have qf := (ho4.frozen (World.block_lt_of_cell? _ _ k2) (by dsimp only; omega)).trans f2
          have r3 := ho4.heap_some HO3''.out (by omega)
          have r2 := ho4.heap_some HO2''.out (by omega)
          have R3 := hid r3
          have R2 := hid r2
          have HM := hid hm1
          have HM0 := hid hm0
          have HLEN := hid hlen
          have HRG := hid hrg4
          clear hm1 hm0 hlen hrg hrg4 r2 r3 k0 k1 k2 l0 l1 l2 e0 e1 e2 f2 p1 ho4
          cases hs : (yl.lookup c.me).isSome with
          | true =>
            rw [hs] at hlk
            rw [if_pos hs] at hov
            clear hs
            go_wp2
            go_roundw
            case rel =>
              have hk : RangingZ (fun x => Value.map (some x.1)) (w4.setCell ⟨w.heap.size + 1, 2, none⟩ (.int .i64 (m + 1))) b2 wo.heap.size z2 zl' := HRG.out.keep (Off.setOne _ _ _) (by dsimp only; have := HM2.out.lt; omega) (by dsimp only; omega)
              exact ⟨m + 1, zl', hk, hzl', by omega, arr_set R3.out 2 _, (Off.setOne _ _ _).heap_some R2.out (by dsimp only; omega), hb4.setCell (by dsimp only; omega) _, by simp [World.setCell]; omega⟩
            case measure =>
              have hk : RangingZ (fun x => Value.map (some x.1)) (w4.setCell ⟨w.heap.size + 1, 2, none⟩ (.int .i64 (m + 1))) b2 wo.heap.size z2 zl' := HRG.out.keep (Off.setOne _ _ _) (by dsimp only; have := HM2.out.lt; omega) (by dsimp only; omega)
              rw [hk.len, HM0.out]; have := HLEN.out; omega
          | false =>
            rw [hs] at hlk
            rw [if_neg (by rw [hs]; decide)] at hov
            clear hs
            go_wp2
            go_roundw
            case rel => exact ⟨m, zl', HRG.out, hzl', by omega, R3.out, R2.out, hb4, by omega⟩
            case measure => rw [HM.out, HM0.out]; have := HLEN.out; omega
    · intro x yb yl zl' w4 hperm hrg4 ho4 hs4 hen
      have hyz : (x, (yb, yl)) ∈ z1 := hzl _ (hperm.mem_iff.2 List.mem_cons_self)
      have hzl' : ∀ p ∈ zl', p ∈ z1 := fun p hp => hzl p (hperm.mem_iff.2 (List.mem_cons_of_mem _ hp))
      have hb4 : Below w.heap.size w w4 := below_off_new hbi ho4 (by omega) (Nat.le_refl _)
      obtain ⟨A, n', m', hlk⟩ := told_find (Told.below (HB1.out (x, (yb, yl)) hyz) hb4) c.me
      dsimp only at hlk
      have hov := ownZ_perm (me := c.me) hperm
      have hm1 := hrg4.len
      have hm0 := hrg.len
      have hlen := hperm.length_eq
      simp only [List.length_cons] at hlen
      have q0 := ho4.cell_some k0 (by dsimp only; omega)
      have q1 := ho4.cell_some k1 (by dsimp only; omega)
      have q2 := ho4.cell_some k2 (by dsimp only; omega)
      have q3 := ho4.cell_some p1 (by dsimp only; omega)
      have qf := (ho4.frozen (World.block_lt_of_cell? _ _ k1) (by dsimp only; omega)).trans f1
      have r3 := ho4.heap_some HO3'.out (by omega)
      have r2 := ho4.heap_some HO2'.out (by omega)
      have hb1lt := hrg4.imap.lt
      have hb1w : b1 < w.heap.size := by obtain ⟨_, _, _, hlt1, _⟩ : ∃ a b c, b1 < w.heap.size ∧ True := ⟨0, 0, 0, H.out.preps.lt, trivial⟩; exact hlt1
      have R3 := hid r3
      have R2 := hid r2
      have HM := hid hm1
      have HM0 := hid hm0
      have HLEN := hid hlen
      have HRG := hid hrg4
      clear hm1 hm0 hlen hrg hrg4 r2 r3 k0 k1 k2 f1 p1 p9 ho4
      cases hs : (yl.lookup c.me).isSome with
      | true =>
        rw [hs] at hlk
        rw [if_pos hs] at hov
        clear hs
        go_wp2
        go_roundw
        case rel =>
          have hk : RangingZ (fun x => Value.map (some x.1)) (w4.setCell ⟨w.heap.size + 1, 1, none⟩ (.int .i64 (n + 1))) b1 (w.heap.size + 1 + 1) z1 zl' := HRG.out.keep (Off.setOne _ _ _) (by dsimp only; omega) (by dsimp only; omega)
          exact ⟨n + 1, zl', hk, hzl', by omega, arr_set R3.out 1 _, (Off.setOne _ _ _).heap_some R2.out (by dsimp only; omega), hb4.setCell (by dsimp only; omega) _, by simp [World.setCell]; omega⟩
        case measure =>
          have hk : RangingZ (fun x => Value.map (some x.1)) (w4.setCell ⟨w.heap.size + 1, 1, none⟩ (.int .i64 (n + 1))) b1 (w.heap.size + 1 + 1) z1 zl' := HRG.out.keep (Off.setOne _ _ _) (by dsimp only; omega) (by dsimp only; omega)
          rw [hk.len, HM0.out]; have := HLEN.out; omega
      | false =>
        rw [hs] at hlk
        rw [if_neg (by rw [hs]; decide)] at hov
        clear hs
        go_wp2
        go_roundw
        case rel => exact ⟨n, zl', HRG.out, hzl', by omega, R3.out, R2.out, hb4, by omega⟩
        case measure => rw [HM.out, HM0.out]; have := HLEN.out; omega
end Go.Proofs.Ytkkmkkgjpmlhaaa
