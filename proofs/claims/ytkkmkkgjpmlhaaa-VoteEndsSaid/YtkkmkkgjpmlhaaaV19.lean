/- append of a slice of votes onto a slice of votes. An append whose run is known, as a step of the walk. -/
import Derived.Test.YtkkmkkgjpmlhaaaV18
import Derived.Deep.RegionLaw
namespace Go.Proofs.Ytkkmkkgjpmlhaaa
open Go.RowKit Go.MapKept

theorem voteCells_one {w : World} {O : Nat → Prop} {s : Value} {x : Vote} {l : List UInt8} (h : Bs w O s l) : ∀ u ∈ voteCells s x, u.oneCell' = true := by
  obtain ⟨A, cap, rfl, _⟩ := h
  simp [voteCells, Value.oneCell']

theorem run_append_vs {P : Program} (w : World) (base n : Nat) (t ty : TypeId) (i : TypeInfo) (ht : P.underlying t = some (.slice 31)) (hi : P.info? 31 = some i) (hz : i.zero = some (.agg #[.int .i64 0, .int .i64 0, .int .i64 0, .int .i64 0, .int .i64 0, .slice none 0 0])) (hsize : i.size = 6) (hby : i.bytes = 64)
    (v v2 : Value) (l l2 : List Vote) (h : Vs w base v l) (hbn : base ≤ n) (h2 : Vs w n v2 l2) (hkn : ∀ k, v.ownBlock = some k → k < n) (hbytes : l.length + l2.length ≤ 1099511627776) (hbase : base ≤ w.heap.size) :
    ∃ A' c' w', (Builtin.append_ #[t, t] ty #[v, v2]).run P w = .ok (.slice A' (l ++ l2).length c') w' ∧ Vs w' base (.slice A' (l ++ l2).length c') (l ++ l2) ∧ w.grownBy w' v.ownBlock := by
  obtain ⟨z, hl, hown, hb⟩ := h
  obtain ⟨z2, hl2, hown2, hb2⟩ := h2
  obtain ⟨A2, c2, rfl⟩ := ownsRow_slice hown2
  have hlen : (l ++ l2).length = l.length + l2.length := List.length_append
  have hfin : ∀ (A' : Option Addr) (c' : Nat) (w' : World), w'.ownsRow base 31 6 (.slice A' (l.length + l2.length) c') (l.length + l2.length) ((z.flatMap fun p => voteCells p.1 p.2) ++ (z2.flatMap fun p => voteCells p.1 p.2)) → w.grownBy w' v.ownBlock → ((Value.slice A' (l.length + l2.length) c').ownBlock = v.ownBlock ∨ (Value.slice A' (l.length + l2.length) c').ownBlock = some w.heap.size) →
      Vs w' base (.slice A' (l ++ l2).length c') (l ++ l2) := fun A' c' w' ho hg hat => by
    have hoff : Off (fun k => v.ownBlock = some k) w w' := (Off.refl _ w).grown hg (fun b hb _ => hb)
    rw [hlen]
    refine ⟨z ++ z2, by simp [hl, hl2], by rw [hlen, List.flatMap_append]; exact ho, fun p hp => ?_⟩
    have hpp : Bs w (fun k => base ≤ k ∧ v.ownBlock ≠ some k ∧ k < w.heap.size) p.1 p.2.value := by
      rcases List.mem_append.1 hp with hp | hp
      · exact (hb p hp).mono (fun k hk ho => ⟨ho.1, ho.2, hk⟩)
      · exact (hb2 p hp).mono (fun k hk ho => ⟨Nat.le_trans hbn ho.1, fun e => by have := hkn k e; omega, hk⟩)
    refine (hpp.keep hoff (fun k _ ho f => ho.2.1 f)).mono (fun k _ ho => ⟨ho.1, fun e => ?_⟩)
    rcases hat with e2 | e2
    · exact ho.2.1 (e2 ▸ e)
    · rw [e] at e2; injection e2 with e2; omega
  rcases A2 with _ | ad
  · have h0 : l2 = [] := by
      rcases hown2.2 with ⟨hv, hn0⟩ | ⟨g, cap, cur, hv, _⟩
      · exact List.eq_nil_of_length_eq_zero hn0
      · cases hv
    subst h0
    have hz2 : z2 = [] := by simpa using hl2.symm
    subst hz2
    obtain ⟨A', c', rfl⟩ := ownsRow_slice hown
    refine ⟨A', c', w, ?_, hfin A' c' w (by simpa using hown) (World.grownBy.refl w _) (.inl rfl), World.grownBy.refl w _⟩
    rcases hown.2 with ⟨hv, hl0⟩ | ⟨g, cap, cur, hv, _, _, hnc, _⟩
    · have hl00 : l = [] := List.eq_nil_of_length_eq_zero hl0
      subst hl00
      cases hv
      simp [Builtin.append_, run_underlying ht, sizeOf, typeInfo, hi, Builtin.lenOf, Builtin.firstCells]
    · cases hv
      simp [Builtin.append_, run_underlying ht, sizeOf, typeInfo, hi, Builtin.lenOf, Builtin.firstCells, hnc, storeCells]
  · obtain ⟨g2, hg2⟩ : ∃ g2, ad = ⟨g2, 0, none⟩ := by
      rcases hown2.2 with ⟨hv, _⟩ | ⟨g, cap, cur, hv, _⟩
      · cases hv
      · injection hv with hv; injection hv with hv; exact ⟨g, hv⟩
    subst hg2
    have hcells := hown2.cells (g := g2) rfl
    obtain ⟨v', w', hrun, h2, h3, _, h5⟩ := run_append_own_at (P := P) w base t ty 31 i _ 6 64 ht hi hz hsize hby rfl (by decide) v l.length _ hown ⟨g2, 0, none⟩ l2.length c2 (z2.flatMap fun p => voteCells p.1 p.2) hown2.1 hcells
      (fun u hu => by obtain ⟨p, hp, hu⟩ := List.mem_flatMap.1 hu; exact voteCells_one (hb2 p hp) u hu) (by unfold maxLen; omega) (by omega) hbase
    obtain ⟨A', c', rfl⟩ := ownsRow_slice h2
    exact ⟨A', c', w', by rw [hlen]; exact hrun, hfin A' c' w' h2 h3 h5, h3⟩

theorem wpList_append_vs {P : Program} (w : World) {ops : Array Oper} {rest : List Oper} {o : Oper} {a : Act} {Q : Exit → Act → World → Prop} (hgd : o.guard = none) (s x : Operand) (t : TypeId)
    (ho : o.op = .call { callee := .builtin .append, args := #[s, x], argTypes := #[t, t] })
    (base n : Nat) (i : TypeInfo) (ht : P.underlying t = some (.slice 31)) (hi : P.info? 31 = some i) (hz : i.zero = some (.agg #[.int .i64 0, .int .i64 0, .int .i64 0, .int .i64 0, .int .i64 0, .slice none 0 0])) (hsize : i.size = 6) (hby : i.bytes = 64)
    (v v2 : Value) (l l2 : List Vote) (hs : a.eval s = v) (hx : a.eval x = v2) (h : Vs w base v l) (hbn : base ≤ n) (h2 : Vs w n v2 l2) (hkn : ∀ k, v.ownBlock = some k → k < n) (hbytes : l.length + l2.length ≤ 1099511627776) (hbase : base ≤ w.heap.size)
    (hk : ∀ A' n' c' w', Vs w' base (.slice A' n' c') (l ++ l2) → Below base w w' → wpList P ops Q rest (a.put o.dst (.slice A' n' c')) w') : wpList P ops Q (o :: rest) a w :=
  wpList_plain hgd fun _ hK => by
    obtain ⟨A', c', w', hrun, h3, h4⟩ := run_append_vs (P := P) w base n t o.type i ht hi hz hsize hby v v2 l l2 h hbn h2 hkn hbytes hbase
    unfold Oper.wp execOp
    simp only [ho, resolve, invoke, builtin, Sem.run_bind, Sem.run_pure, Result.andThen_ok, List.map_toArray, List.map_cons, List.map_nil, hs, hx, hrun]
    exact hK _ _ (hk A' _ c' w' h3 ((Below.refl base w).grown h4 hbase (fun k hk => by obtain ⟨z, _, h, _⟩ := h; exact (h.lt k hk).1)))
theorem Vs.lt {w : World} {base : Nat} {v : Value} {l : List Vote} (h : Vs w base v l) : ∀ k, v.ownBlock = some k → base ≤ k ∧ k < w.heap.size := by obtain ⟨z, _, h, _⟩ := h; exact h.lt
theorem Vs.slice {w : World} {base : Nat} {v : Value} {l : List Vote} (h : Vs w base v l) : ∃ A c, v = .slice A l.length c := by obtain ⟨z, _, h, _⟩ := h; exact ownsRow_slice h
end Go.Proofs.Ytkkmkkgjpmlhaaa
namespace Go.Proofs.Ytkkmkkgjpmlhaaa
open Go.RowKit Go.MapKept
section
variable {P : Program} {w w' : World}
theorem wp_append_run {o : Oper} {a : Act} {K : Act → World → Prop} {Q : Exit → Act → World → Prop} (s x : Operand) (t : TypeId)
    (ho : o.op = .call { callee := .builtin .append, args := #[s, x], argTypes := #[t, t] }) {v v2 r : Value} (hs : a.eval s = v) (hx : a.eval x = v2) (hrun : (Builtin.append_ #[t, t] o.type #[v, v2]).run P w = .ok r w')
    (h : K (a.put o.dst r) w') : o.wp P a w K Q := by
  unfold Oper.wp execOp
  simp only [ho, resolve, invoke, builtin, Sem.run_bind, Sem.run_pure, Result.andThen_ok, List.map_toArray, List.map_cons, List.map_nil, hs, hx, hrun]
  exact h
theorem wpList_append_run {ops : Array Oper} {rest : List Oper} {o : Oper} {a : Act} {Q : Exit → Act → World → Prop} (hgd : o.guard = none) (s x : Operand) (t : TypeId)
    (ho : o.op = .call { callee := .builtin .append, args := #[s, x], argTypes := #[t, t] }) {v v2 r : Value} (hs : a.eval s = v) (hx : a.eval x = v2) (hrun : (Builtin.append_ #[t, t] o.type #[v, v2]).run P w = .ok r w')
    (h : wpList P ops Q rest (a.put o.dst r) w') : wpList P ops Q (o :: rest) a w :=
  wpList_plain hgd fun _ hK => wp_append_run s x t ho hs hx hrun (hK _ _ h)
theorem step_append_run {ops : Array Oper} {o : Oper} {a : Act} {K : Act → World → Prop} {Q : Exit → Act → World → Prop} {E : Prop} (hgd : o.guard = none) (s x : Operand) (t : TypeId)
    (ho : o.op = .call { callee := .builtin .append, args := #[s, x], argTypes := #[t, t] }) {v v2 r : Value} (hs : a.eval s = v) (hx : a.eval x = v2) (hrun : (Builtin.append_ #[t, t] o.type #[v, v2]).run P w = .ok r w')
    (h : K (a.put o.dst r) w') : if Region.wanted o (yielded ops a.tmps) = true then Oper.wp P o a w K Q else E := by
  have hw : Region.wanted o (yielded ops a.tmps) = true := by simp [Region.wanted, hgd]
  rw [if_pos hw]
  exact wp_append_run s x t ho hs hx hrun h
end
end Go.Proofs.Ytkkmkkgjpmlhaaa
