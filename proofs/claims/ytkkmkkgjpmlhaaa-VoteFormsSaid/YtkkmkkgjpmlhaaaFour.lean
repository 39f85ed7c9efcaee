/- four: a number as four bytes. -/
import Derived.Test.YtkkmkkgjpmlhaaaSays
namespace Go.Proofs.Ytkkmkkgjpmlhaaa
open Go.RowKit Go.MapKept

def be4 (n : Int) : List UInt8 := [UInt8.ofNat (n / 16777216 % 256).toNat, UInt8.ofNat (n / 65536 % 256).toNat, UInt8.ofNat (n / 256 % 256).toNat, UInt8.ofNat (n % 256).toNat]

/-- A slice of bytes of the call's own that reads as a list. -/
def Own (w : World) (base : Nat) (v : Value) (l : List UInt8) : Prop := w.ownsRow base 5 1 v l.length (cells8 l)

theorem Own.form {w : World} {base : Nat} {v : Value} {l : List UInt8} (h : Own w base v l) : ∃ A n c, v = .slice A n c := by obtain ⟨A, c, h⟩ := ownsRow_slice h; exact ⟨A, _, c, h⟩
theorem Own.lt {w : World} {base : Nat} {v : Value} {l : List UInt8} (h : Own w base v l) : ∀ k, v.ownBlock = some k → base ≤ k ∧ k < w.heap.size := World.ownsRow.lt h
theorem Own.below {w w1 : World} {base : Nat} {v : Value} {l : List UInt8} (h : Own w base v l) (hb : Below w.heap.size w w1) : Own w1 base v l := own_below h hb
theorem Own.nil (w : World) (base : Nat) : Own w base (.slice none 0 0) [] := World.ownsRow_nil _ _ _ _
theorem Own.bs {w : World} {base : Nat} {v : Value} {l : List UInt8} (h : Own w base v l) : Bs w (fun b => base ≤ b) v l := Bs.of_own h

/-- The append of bytes that were laid in a block of their own first. -/
theorem Own.lay {w w3 : World} {base : Nat} {v : Value} {l : List UInt8} (cs : Array Value) (l2 : List UInt8) (h : Own w base v l) (hb : Below w.heap.size w w3) (hbase : base ≤ w.heap.size) (hc : cs.toList = cells8 l2) (h0 : 0 < l2.length) (hl : l.length + l2.length ≤ 140737488355328) :
    ∃ A' n' c' w4, (Builtin.append_ #[29, 29] 29 #[v, .slice (some ⟨w3.heap.size, 0, none⟩) l2.length l2.length]).run Try.prog (w3.alloc (.cells cs 5)) = .ok (.slice A' n' c') w4 ∧
      Own w4 base (.slice A' n' c') (l ++ l2) ∧ Below base w w4 ∧ Off (fun k => v.ownBlock = some k) w w4 ∧ (∀ k, (Value.slice A' n' c').ownBlock = some k → v.ownBlock = some k ∨ w.heap.size ≤ k) := by
  obtain ⟨i0, hi0, hq0, hq1, hq2⟩ := info_parts info_u8
  have hsz := hb.size
  obtain ⟨gg, cap4, w4, hrun4, hown4, hgrow4, hat4, hlt4⟩ := run_append_lies (P := Try.prog) (w3.alloc (.cells cs 5)) 29 29 base 5 i0 _ 1 1 Try.underlying29 hi0 hq0 hq1 hq2 rfl (by omega) v l.length _ ((own_below h hb).alloc _) ⟨w3.heap.size, 0, none⟩ l2.length l2.length (cells8 l2) (by simp [cells8])
    (by rw [← hc]; exact World.news_of_block (t := 5) (fr := (0, 0)) (heap_alloc_new _ _)) (fun u hu => by obtain ⟨x, _, rfl⟩ := List.mem_map.1 hu; rfl) h0 (by unfold maxLen; omega) (by omega) (by simp; omega) (w3.heap.size + 1) (by simp)
  refine ⟨_, _, cap4, w4, hrun4, by unfold Own; rw [List.length_append, show cells8 (l ++ l2) = cells8 l ++ cells8 l2 from by simp [cells8]]; exact hown4, ((hb.mono hbase).alloc (by omega) _).grown hgrow4 (by simp; omega) (fun k hk => (World.ownsRow.lt h k hk).1), ((Off.of_below (F := fun k => v.ownBlock = some k) hb).alloc _).grown hgrow4 (fun b hb _ => hb), fun k hk => by have e : gg = k := (by simpa [Value.ownBlock] using hk); subst e; exact hat4.imp id (fun e => by omega)⟩

/-- The append of bytes. -/
theorem Own.two {w : World} {base : Nat} {O : Nat → Prop} {v v2 : Value} {l l2 : List UInt8} (h : Own w base v l) (h2 : Bs w O v2 l2) (hl : l.length + l2.length ≤ 140737488355328) (hbase : base ≤ w.heap.size) :
    ∃ A' n' c' w4, (Builtin.append_ #[29, 29] 29 #[v, v2]).run Try.prog w = .ok (.slice A' n' c') w4 ∧ Own w4 base (.slice A' n' c') (l ++ l2) ∧ Below base w w4 ∧ Off (fun k => v.ownBlock = some k) w w4 ∧ (∀ k, (Value.slice A' n' c').ownBlock = some k → v.ownBlock = some k ∨ w.heap.size ≤ k) := by
  obtain ⟨i0, hi0, hq0, hq1, hq2⟩ := info_parts info_u8
  obtain ⟨A', c', w', h3, h4, h5, h6⟩ := run_append_bs (P := Try.prog) w base 29 29 5 i0 Try.underlying29 hi0 hq0 hq1 hq2 v l.length _ h O v2 l2 h2 hl hbase
  exact ⟨A', _, c', w', h3, by unfold Own; rw [List.length_append, show cells8 (l ++ l2) = cells8 l ++ cells8 l2 from by simp [cells8]]; exact h4, (Below.refl base w).grown h5 hbase (fun k hk => (World.ownsRow.lt h k hk).1), (Off.refl _ w).grown h5 (fun b hb _ => hb), fun k hk => by rcases h6 with e | e; { exact .inl (e ▸ hk) }; { right; rw [hk] at e; injection e with e; omega }⟩

theorem be4_cells {n : Int} (n0 : 0 ≤ n) : [Value.int .u8 (n / 16777216 % 256), Value.int .u8 (n / 65536 % 256), Value.int .u8 (n / 256 % 256), Value.int .u8 (n % 256)] = cells8 (be4 n) := by
  have e : ∀ x : Int, 0 ≤ x → x < 256 → ((UInt8.ofNat x.toNat).toNat : Int) = x := fun x h0 h1 => by
    rw [UInt8.toNat_ofNat']
    omega
  unfold cells8 be4
  simp only [List.map_cons, List.map_nil]
  rw [e _ (by omega) (by omega), e _ (by omega) (by omega), e _ (by omega) (by omega), e _ (by omega) (by omega)]

set_option maxRecDepth 100000 in
set_option maxHeartbeats 1000000 in
theorem four_any (base : Nat) (v : Value) (l : List UInt8) (n : Int) (w : World) (h : Own w base v l) (hb : base ≤ w.heap.size) (hl : l.length ≤ 1099511627776) (n0 : 0 ≤ n) (n1 : n ≤ 4294967296) :
    Calls Try.prog 48 #[v, .int .i64 n] w fun e w' => ∃ v', e = .returned v' ∧ Own w' base v' (l ++ be4 n) ∧ Below base w w' ∧ Off (fun k => v.ownBlock = some k) w w' ∧ (∀ k, v'.ownBlock = some k → v.ownBlock = some k ∨ w.heap.size ≤ k) := by
  obtain ⟨A, c, rfl⟩ := ownsRow_slice h
  obtain ⟨A4, n4, c4, w4, hrun4, hown4, hb4, ho4, ha4⟩ := Own.lay #[Value.int .u8 (n / 16777216 % 256), Value.int .u8 (n / 65536 % 256), Value.int .u8 (n / 256 % 256), Value.int .u8 (n % 256)] (be4 n) h (Below.refl _ w) hb (be4_cells n0) (by simp [be4]) (by simp [be4]; omega)
  have H := hid hown4
  simp only [show (be4 n).length = 4 from rfl] at hrun4
  clear h hown4
  have HR4 := hid hrun4
  clear hrun4
  go_enter Try.func48, Try.ntmps48
  go_wp2_with (at_builtin; refine wpList_append_run rfl _ _ 29 rfl rfl rfl HR4.out ?_)
  go_ret
  exact ⟨_, rfl, H.out, hb4, ho4, ha4⟩
end Go.Proofs.Ytkkmkkgjpmlhaaa
