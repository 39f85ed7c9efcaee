/- Contracts of the library's functions that vote and board call: slices.Clone and bytes.Equal at bytes. -/
import Derived.Test.YtkkmkkgjpmlhaaaProg
import Derived.Test.YtkkmkkgjpmlhaaaBase
import Derived.Lib.SliceRun
import Derived.Lib.Walk
import Derived.KernelRfl
import Derived.Deep.Quiet
import Derived.Deep.QuietTactic
import Derived.BigQuiet
import Derived.Laws.BytesArg
import Derived.Maps.AppendAt
import Derived.Deep.AppendLies
namespace Go.Proofs.Ytkkmkkgjpmlhaaa
open Go.RowKit Go.MapKept

theorem info_u8 : (Try.prog.info? 5).map (fun i => (i.zero, i.size, i.bytes)) = some (some (.int .u8 0), 1, 1) := by kernel_rfl

/-- What a row of the call's own reads as. -/
theorem Bs.of_own {w : World} {base n : Nat} {e : TypeId} {v : Value} {l : List UInt8} (h : w.ownsRow base e 1 v n (l.map fun u => .int .u8 u.toNat)) : Bs w (fun b => base ≤ b) v l := by
  obtain ⟨hl, h | ⟨g, cap, cur, rfl, hg, hb, hn, _, _, ht⟩⟩ := h
  · obtain ⟨rfl, rfl⟩ := h
    have : l = [] := by simpa using hl
    subst this
    exact Bs.nil _ _
  · have hl' : l.length = n := by simpa using hl
    subst hl'
    refine ⟨some ⟨g, 0, none⟩, cap, rfl, hn, (fun h => by cases h), fun _ => ⟨g, 0, rfl, hg, fun j u hu => ?_⟩⟩
    rw [Nat.zero_add]
    simp only [World.cell?, hb, Option.isSome_none, Bool.false_eq_true, if_false]
    have e1 : (cur.toList.take (l.length * 1))[j]? = some (Value.int .u8 u.toNat) := by rw [ht]; simp [hu]
    have hj : j < l.length := (List.getElem?_eq_some_iff.1 hu).1
    rw [List.getElem?_take, if_pos (by omega)] at e1
    simpa using e1

/-- slices.Clone at bytes. -/
def ClonePost (w : World) (l : List UInt8) (e : Ending) (w' : World) : Prop := ∃ v', e = .returned v' ∧ Bs w' (fun b => w.heap.size ≤ b) v' l ∧ Below w.heap.size w w'

set_option maxRecDepth 100000 in
theorem clone_any {O : Nat → Prop} {v : Value} {l : List UInt8} (w : World) (h : Bs w O v l) (hl : l.length ≤ 140737488355328) :
    Calls Try.prog 52 #[v] w (ClonePost w l) := by
  obtain ⟨A, cap, rfl, hcap, hnil, hc⟩ := h
  have q : ∀ (w : World) (a : Option Addr) (n c n' c' : Nat), (binOp .eql 29 (.slice a n c) (.slice none n' c')).run Try.prog w = .ok (.bool a.isNone) w := fun w a n c n' c' => Lib.run_eql_slice_nil w _ _ a n c n' c' Try.underlying29
  obtain ⟨i0, hi0, hz0, hz1, hz2⟩ := info_parts info_u8
  rcases A with _ | ad
  · have hl0 : l = [] := by
      rcases Nat.eq_zero_or_pos l.length with h0 | h0
      · exact List.eq_nil_of_length_eq_zero h0
      · obtain ⟨b, off, h, _⟩ := hc h0; cases h
    subst hl0
    obtain rfl := hnil rfl
    go_enter Try.func52, Try.ntmps52
    go_wp2
    go_ret
    exact ⟨_, rfl, Bs.nil _ _, Below.refl _ _⟩
  · have hcells : ∀ j u, (l.map fun u => Value.int .u8 u.toNat)[j]? = some u → w.cell? (ad.add j) = some u := by
      intro j u hu
      rw [List.getElem?_map] at hu
      cases hj : l[j]? with
      | none => rw [hj] at hu; cases hu
      | some x =>
        rw [hj] at hu
        obtain ⟨b, off, h, _, hcc⟩ := hc (by have := (List.getElem?_eq_some_iff.1 hj).1; omega)
        cases h
        cases hu
        rw [Addr.add_lit]
        exact hcc j x hj
    have hH := hid hcells
    have hC := hid hc
    clear hcells hc hnil
    go_enter Try.func52, Try.ntmps52
    go_wp2_with (at_builtin; refine wpList_append_own _ rfl _ _ 29 rfl w.heap.size 5 i0 (.int .u8 0) 1 1 Try.underlying29 hi0 hz0 hz1 hz2 rfl (by decide) _ _ _ rfl (World.ownsRow_made w #[] 0 (Nat.le_refl _) (Nat.zero_le _) rfl) ad l.length cap (l.map fun u => .int .u8 u.toNat) rfl ?qc1 ?qc2 ?qc3 ?qc4 ?qc5 ?qc6 ?_)
    case qc1 => simp
    case qc2 => intro j u hj; exact Lib.cell?_alloc_some _ (hH.out j u hj)
    case qc3 => intro u hu; obtain ⟨x, _, rfl⟩ := List.mem_map.1 hu; rfl
    case qc4 => unfold maxLen; omega
    case qc5 => omega
    case qc6 => simp
    intro v' w1 hown hgrow hnil
    go_wp2
    go_ret
    refine ⟨v', rfl, Bs.of_own (by simpa using hown), ((Below.refl _ w).alloc (Nat.le_refl _) _).grown hgrow (by simp) (by intro k hk; simp [Value.ownBlock] at hk; omega)⟩

theorem bytes_nums (l : List UInt8) : strOfNums (l.map fun b => (b.toNat : Int)) = ⟨l.toArray⟩ := by
  unfold strOfNums
  congr 2
  rw [List.map_map]
  conv => rhs; rw [← List.map_id l]
  apply List.map_congr_left
  intro x _
  simp

/-- 'string(b)' of bytes. -/
theorem Bs.convert {O : Nat → Prop} {w : World} {v : Value} {l : List UInt8} (h : Bs w O v l) :
    (convert 29 9 v).run Try.prog w = .ok (.string ⟨l.toArray⟩) w := by
  obtain ⟨A, cap, rfl, _, _, hc⟩ := h
  rcases Nat.eq_zero_or_pos l.length with h0 | h0
  · have hl := List.eq_nil_of_length_eq_zero h0
    subst hl
    rw [run_convert_bytes_string w _ _ 5 _ _ cap Try.underlying29 Try.underlying5 Try.underlying9]
    rcases A with _ | ad
    · simp [Conv.bytesToString]; rfl
    · have hl : (loadCells ad 0).run Try.prog w = .ok (([] : List Int).map (Value.int .u8)).toArray w := by
        simpa using run_loadCells_list (P := Try.prog) w ad [] (by simp)
      have := run_bytesToString (P := Try.prog) w ad 0 cap [] hl
      exact (by simpa using this : _ = Result.ok (Value.string ByteArray.empty) w)
  · obtain ⟨b, off, rfl, _, hcc⟩ := hc h0
    have := run_convert_bytes_arg (P := Try.prog) w 29 5 Try.underlying29 Try.underlying5 b off l.length cap (l.map fun b => (b.toNat : Int)) (by simp)
      (fun i hi => by
        rw [hcc i l[i] (List.getElem?_eq_getElem hi)]
        simp [List.getD, List.getElem?_eq_getElem hi]) 9 Try.underlying9
    rw [this, bytes_nums]

/-- bytes.Equal. -/
theorem equal_any {O O' : Nat → Prop} {v v' : Value} {l l' : List UInt8} (w : World) (h : Bs w O v l) (h' : Bs w O' v' l') :
    Calls Try.prog 61 #[v, v'] w fun e w' => e = .returned (.bool (l == l')) ∧ w = w' := by
  have c1 := h.convert
  have c2 := h'.convert
  clear h h'
  go_enter Try.func61, Try.ntmps61
  go_wp2
  go_ret
  exact ⟨rfl, rfl⟩
/-- The bytes as cells. -/
def cells8 (l : List UInt8) : List Value := l.map fun u => .int .u8 u.toNat

theorem ownsRow_slice {w : World} {base n : Nat} {e : TypeId} {size : Nat} {v : Value} {xs : List Value} (h : w.ownsRow base e size v n xs) : ∃ A c, v = .slice A n c := by
  rcases h.2 with ⟨rfl, rfl⟩ | ⟨g, cap, cur, rfl, _⟩
  · exact ⟨none, 0, rfl⟩
  · exact ⟨_, cap, rfl⟩

section
variable {P : Program} (w : World)

/-- 'append(s, b...)' of bytes that read as a list, onto a row of the call's own. -/
theorem run_append_bs (base : Nat) (t ty e : TypeId) (i : TypeInfo) (ht : P.underlying t = some (.slice e)) (hi : P.info? e = some i) (hz : i.zero = some (.int .u8 0)) (hsize : i.size = 1) (hby : i.bytes = 1)
    (v : Value) (n : Nat) (xs : List Value) (hown : w.ownsRow base e 1 v n xs) (O : Nat → Prop) (v2 : Value) (l : List UInt8) (h : Bs w O v2 l)
    (hbytes : n + l.length ≤ 140737488355328) (hbase : base ≤ w.heap.size) :
    ∃ A' c' w', (Builtin.append_ #[t, t] ty #[v, v2]).run P w = .ok (.slice A' (n + l.length) c') w' ∧ w'.ownsRow base e 1 (.slice A' (n + l.length) c') (n + l.length) (xs ++ cells8 l) ∧ w.grownBy w' v.ownBlock ∧ ((Value.slice A' (n + l.length) c').ownBlock = v.ownBlock ∨ (Value.slice A' (n + l.length) c').ownBlock = some w.heap.size) := by
  obtain ⟨A, cap, rfl, _, hnil, hc⟩ := h
  rcases A with _ | ad
  · have hl0 : l = [] := by
      rcases Nat.eq_zero_or_pos l.length with h0 | h0
      · exact List.eq_nil_of_length_eq_zero h0
      · obtain ⟨b, off, h, _⟩ := hc h0; cases h
    subst hl0
    obtain ⟨A', c', rfl⟩ := ownsRow_slice hown
    refine ⟨A', c', w, ?_, by simpa [cells8] using hown, World.grownBy.refl w _, .inl rfl⟩
    rcases hown.2 with ⟨hv, rfl⟩ | ⟨g, cap, cur, hv, _, _, hnc, _⟩
    · cases hv
      simp [Builtin.append_, run_underlying ht, sizeOf, typeInfo, hi, Builtin.lenOf, Builtin.firstCells]
    · cases hv
      simp [Builtin.append_, run_underlying ht, sizeOf, typeInfo, hi, Builtin.lenOf, Builtin.firstCells, hnc, storeCells]
  · have hcells : ∀ j u, (cells8 l)[j]? = some u → w.cell? (ad.add j) = some u := by
      intro j u hu
      rw [cells8, List.getElem?_map] at hu
      cases hj : l[j]? with
      | none => rw [hj] at hu; cases hu
      | some x =>
        rw [hj] at hu
        obtain ⟨b, off, h, _, hcc⟩ := hc (by have := (List.getElem?_eq_some_iff.1 hj).1; omega)
        cases h
        cases hu
        rw [Addr.add_lit]
        exact hcc j x hj
    obtain ⟨v', w', hrun, h2, h3, _, h5⟩ := run_append_own_at (P := P) w base t ty e i (.int .u8 0) 1 1 ht hi hz hsize hby rfl (by decide) v n xs hown ad l.length cap (cells8 l) (by simp [cells8]) hcells
      (fun u hu => by obtain ⟨x, _, rfl⟩ := List.mem_map.1 hu; rfl) (by unfold maxLen; omega) (by omega) hbase
    obtain ⟨A', c', rfl⟩ := ownsRow_slice h2
    exact ⟨A', c', w', hrun, h2, h3, h5⟩

theorem wp_append_bs {o : Oper} {a : Act} {K : Act → World → Prop} {Q : Exit → Act → World → Prop} (s x : Operand) (t : TypeId)
    (ho : o.op = .call { callee := .builtin .append, args := #[s, x], argTypes := #[t, t] })
    (base : Nat) (e : TypeId) (i : TypeInfo) (ht : P.underlying t = some (.slice e)) (hi : P.info? e = some i) (hz : i.zero = some (.int .u8 0)) (hsize : i.size = 1) (hby : i.bytes = 1)
    (v : Value) (n : Nat) (xs : List Value) (hs : a.eval s = v) (hown : w.ownsRow base e 1 v n xs) (O : Nat → Prop) (v2 : Value) (l : List UInt8) (hx : a.eval x = v2) (h2 : Bs w O v2 l)
    (hbytes : n + l.length ≤ 140737488355328) (hbase : base ≤ w.heap.size)
    (h : ∀ A' c' w', w'.ownsRow base e 1 (.slice A' (n + l.length) c') (n + l.length) (xs ++ cells8 l) → w.grownBy w' v.ownBlock → ((Value.slice A' (n + l.length) c').ownBlock = v.ownBlock ∨ (Value.slice A' (n + l.length) c').ownBlock = some w.heap.size) → K (a.put o.dst (.slice A' (n + l.length) c')) w') : o.wp P a w K Q := by
  obtain ⟨A', c', w', hrun, h2, h3, h4⟩ := run_append_bs (P := P) w base t o.type e i ht hi hz hsize hby v n xs hown O v2 l h2 hbytes hbase
  unfold Oper.wp execOp
  simp only [ho, resolve, invoke, builtin, Sem.run_bind, Sem.run_pure, Result.andThen_ok, List.map_toArray, List.map_cons, List.map_nil, hs, hx, hrun]
  exact h A' c' w' h2 h3 h4

theorem wpList_append_bs {ops : Array Oper} {rest : List Oper} {o : Oper} {a : Act} {Q : Exit → Act → World → Prop} (hgd : o.guard = none) (s x : Operand) (t : TypeId)
    (ho : o.op = .call { callee := .builtin .append, args := #[s, x], argTypes := #[t, t] })
    (base : Nat) (e : TypeId) (i : TypeInfo) (ht : P.underlying t = some (.slice e)) (hi : P.info? e = some i) (hz : i.zero = some (.int .u8 0)) (hsize : i.size = 1) (hby : i.bytes = 1)
    (v : Value) (n : Nat) (xs : List Value) (hs : a.eval s = v) (hown : w.ownsRow base e 1 v n xs) (O : Nat → Prop) (v2 : Value) (l : List UInt8) (hx : a.eval x = v2) (h2 : Bs w O v2 l)
    (hbytes : n + l.length ≤ 140737488355328) (hbase : base ≤ w.heap.size)
    (h : ∀ A' c' w', w'.ownsRow base e 1 (.slice A' (n + l.length) c') (n + l.length) (xs ++ cells8 l) → w.grownBy w' v.ownBlock → ((Value.slice A' (n + l.length) c').ownBlock = v.ownBlock ∨ (Value.slice A' (n + l.length) c').ownBlock = some w.heap.size) → wpList P ops Q rest (a.put o.dst (.slice A' (n + l.length) c')) w') : wpList P ops Q (o :: rest) a w :=
  wpList_plain hgd fun _ hK => wp_append_bs w s x t ho base e i ht hi hz hsize hby v n xs hs hown O v2 l hx h2 hbytes hbase fun A' c' w' h2 h3 h4 => hK _ _ (h A' c' w' h2 h3 h4)

theorem step_append_bs {ops : Array Oper} {o : Oper} {a : Act} {K : Act → World → Prop} {Q : Exit → Act → World → Prop} {E : Prop} (hgd : o.guard = none) (s x : Operand) (t : TypeId)
    (ho : o.op = .call { callee := .builtin .append, args := #[s, x], argTypes := #[t, t] })
    (base : Nat) (e : TypeId) (i : TypeInfo) (ht : P.underlying t = some (.slice e)) (hi : P.info? e = some i) (hz : i.zero = some (.int .u8 0)) (hsize : i.size = 1) (hby : i.bytes = 1)
    (v : Value) (n : Nat) (xs : List Value) (hs : a.eval s = v) (hown : w.ownsRow base e 1 v n xs) (O : Nat → Prop) (v2 : Value) (l : List UInt8) (hx : a.eval x = v2) (h2 : Bs w O v2 l)
    (hbytes : n + l.length ≤ 140737488355328) (hbase : base ≤ w.heap.size)
    (h : ∀ A' c' w', w'.ownsRow base e 1 (.slice A' (n + l.length) c') (n + l.length) (xs ++ cells8 l) → w.grownBy w' v.ownBlock → ((Value.slice A' (n + l.length) c').ownBlock = v.ownBlock ∨ (Value.slice A' (n + l.length) c').ownBlock = some w.heap.size) → K (a.put o.dst (.slice A' (n + l.length) c')) w') :
    if Region.wanted o (yielded ops a.tmps) = true then Oper.wp P o a w K Q else E := by
  have hw : Region.wanted o (yielded ops a.tmps) = true := by simp [Region.wanted, hgd]
  rw [if_pos hw]
  exact wp_append_bs w s x t ho base e i ht hi hz hsize hby v n xs hs hown O v2 l hx h2 hbytes hbase h
end
end Go.Proofs.Ytkkmkkgjpmlhaaa
