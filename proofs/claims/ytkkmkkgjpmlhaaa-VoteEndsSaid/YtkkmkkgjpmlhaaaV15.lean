/- Slices of numbers and of structs that came in. few: are acts few, and their values short? -/
import Derived.Test.YtkkmkkgjpmlhaaaV03
import Derived.Test.YtkkmkkgjpmlhaaaV14
import Derived.Deep.Slices
import Derived.Test.YtkkmkkgjpmlhaaaV06
namespace Go.Proofs.Ytkkmkkgjpmlhaaa
open Go.ChangeShapes Go.WideShapes Go.ChangeAt Go.RowKit Go.Deep
set_option maxRecDepth 100000

/-- A slice of rows of k cells each. -/
def RowsAt {α : Type} (w : World) (O : Nat → Prop) (k : Nat) (R : α → List Value → Prop) (v : Value) (l : List α) : Prop :=
  ∃ A cap, v = .slice A l.length cap ∧ l.length ≤ 9223372036854775807 ∧ (0 < l.length → ∃ b off, A = some ⟨b, off, none⟩ ∧ O b ∧ ∀ (i : Nat) (a : α), l[i]? = some a → ∃ cs : List Value, cs.length = k ∧ R a cs ∧ ∀ (j : Nat) (u : Value), cs[j]? = some u → w.cell? ⟨b, off + i * k + j, none⟩ = some u)
section
variable {H : Type} {enc : TypeId × Value → H} {W : World} {base : Nat}
theorem addr_add (b off j : Nat) : (⟨b, off, none⟩ : Addr).add j = ⟨b, off + j, none⟩ := by
  unfold Addr.add
  split
  · rename_i e; subst e; rfl
  · rfl
theorem open_rows {α : Type} {t e : TypeId} {k : Nat} {R : α → List Value → Prop} {v : Value} {d : DataW H} {p : List MemPlace} (ht : Try.prog.underlying t = some (.slice e)) (hC : Try.prog.cellsOf e = k) (hk : 0 < k)
    (hread : ∀ (n : Nat) (cs : List Value) (y : DataW H × List MemPlace), DataW.trod enc Try.prog W 0 (fun _ => true) true n e cs = some y → ∃ a : α, R a cs)
    (hval : Value.okWide Try.prog W .any base t v) (h : DataW.Trod enc Try.prog W 0 (fun _ => true) true t v d p) : ∃ l : List α, RowsAt W (fun b => b < W.heap.size) k R v l := by
  obtain ⟨a, len, cap, rfl⟩ := okWide_slice ht hval
  obtain ⟨fuel, hf⟩ := h
  rcases open_slice ht hf with ⟨hcs, _⟩ | ⟨x, len', cap', m, n, D, Pl, hcs, _, hl, hm, hmm, _, hi⟩
  · simp [Value.cells] at hcs
    obtain ⟨rfl, rfl, rfl⟩ := hcs
    exact ⟨[], none, 0, rfl, by simp, fun h => absurd h (by simp)⟩
  · simp [Value.cells] at hcs
    obtain ⟨rfl, rfl, rfl⟩ := hcs
    have hall : ∀ i, i < len → ∃ (a : α) (cs : List Value), R a cs ∧ W.cells? 0 (x.add (i * k)) k = some cs := fun i hil => by
      obtain ⟨cs', hc, ht'⟩ := hi i (by simp at hmm; omega)
      rw [hC] at hc
      obtain ⟨a, ha⟩ := hread _ _ _ ht'
      exact ⟨a, cs', ha, hc⟩
    have hpick : ∀ m, m ≤ len → ∃ l : List α, l.length = m ∧ ∀ i a, l[i]? = some a → ∃ cs : List Value, R a cs ∧ W.cells? 0 (x.add (i * k)) k = some cs := fun m => by
      induction m with
      | zero => intro _; exact ⟨[], rfl, fun i a h => by simp at h⟩
      | succ m ih =>
        intro hm
        obtain ⟨l, hl, hg⟩ := ih (by omega)
        obtain ⟨a, cs, ha, hc⟩ := hall m (by omega)
        refine ⟨l ++ [a], by simp [hl], fun i b hb => ?_⟩
        by_cases e : i < m
        · rw [List.getElem?_append_left (by omega)] at hb; exact hg i b hb
        · have hi2 : i = m := by
            have := (List.getElem?_eq_some_iff.1 hb).1
            simp [hl] at this
            omega
          subst hi2
          rw [List.getElem?_append_right (by omega), hl] at hb
          simp at hb
          subst hb
          exact ⟨cs, ha, hc⟩
    obtain ⟨l, hl2, hg⟩ := hpick len (Nat.le_refl _)
    refine ⟨l, some x, cap, by rw [hl2], by unfold maxLen at hm; omega, fun h0 => ?_⟩
    obtain ⟨a0, _, cs0, ha0, hc0⟩ : ∃ a, l[0]? = some a ∧ ∃ cs, R a cs ∧ W.cells? 0 (x.add (0 * k)) k = some cs := ⟨l[0], List.getElem?_eq_getElem h0, hg 0 _ (List.getElem?_eq_getElem h0)⟩
    obtain ⟨_, hlen0, hat0⟩ := World.cells?_some hc0
    have hsp : x.spot = none := by
      have h1 := hat0 0 hk
      rw [List.getElem?_eq_getElem (by omega)] at h1
      have := World.cell?_spot h1
      simpa [Addr.add] using this
    obtain ⟨b, off, sp⟩ := x
    dsimp only at hsp
    subst hsp
    have hcell : ∀ i a, l[i]? = some a → ∃ cs : List Value, cs.length = k ∧ R a cs ∧ ∀ (j : Nat) (u : Value), cs[j]? = some u → W.cell? ⟨b, off + i * k + j, none⟩ = some u := fun i a ha => by
      obtain ⟨cs, hr, hc⟩ := hg i a ha
      obtain ⟨_, hlen, hat⟩ := World.cells?_some hc
      refine ⟨cs, hlen, hr, fun j u hu => ?_⟩
      have hj := (List.getElem?_eq_some_iff.1 hu).1
      have := hat j (by omega)
      rw [addr_add, addr_add] at this
      rw [this, hu]
    refine ⟨b, off, rfl, ?_, hcell⟩
    obtain ⟨cs, hlen, _, hat⟩ := hcell 0 _ (List.getElem?_eq_getElem h0)
    exact World.block_lt_of_cell? W _ (hat 0 _ (List.getElem?_eq_getElem (by omega)))

/-! ### What is read of each kind -/
theorem read_int {n : Nat} {cs : List Value} {y : DataW H × List MemPlace} (h : DataW.trod enc Try.prog W 0 (fun _ => true) true n 3 cs = some y) : ∃ m : Int, In64 m ∧ cs = [.int .i64 m] := by
  obtain ⟨m, rfl, _, hw⟩ := DataW.trod_int Try.underlying3 h
  exact ⟨_, in64_of_wf hw, rfl⟩
theorem read_bytes {n : Nat} {cs : List Value} {y : DataW H × List MemPlace} (h : DataW.trod enc Try.prog W 0 (fun _ => true) true n 29 cs = some y) :
    ∃ (s : Value) (l : List UInt8), cs = [s] ∧ Bs W (fun k => k < W.heap.size) s l ∧ l.length ≤ 9223372036854775807 := by
  rcases open_ints Try.underlying29 Try.underlying5 (by kernel_rfl) h with ⟨hcs, _⟩ | ⟨x, len, cap, zs, hcs, _, hl, hm, hz, _, hcell, hwz⟩
  · exact ⟨_, [], hcs, Bs.nil _ _, by simp⟩
  · obtain ⟨l, hl1, hl2⟩ := bs_of_ints hl hm (by simpa using hz) hcell hwz
    exact ⟨_, l, hcs, hl1, hl2⟩
theorem cells_int : Try.prog.cellsOf 3 = 1 := by kernel_rfl
theorem cells_bytes : Try.prog.cellsOf 29 = 1 := by kernel_rfl
theorem cells_vote : Try.prog.cellsOf 31 = 6 := by kernel_rfl
theorem cells_act : Try.prog.cellsOf 33 = 8 := by kernel_rfl
theorem cells_step : Try.prog.cellsOf 57 = 11 := by kernel_rfl

/-- A vote that came in, as cells. -/
structure VoteIn (W : World) (x : Vote) (s : Value) : Prop where
  bytes : Bs W (fun k => k < W.heap.size) s x.value
  nums : In64 x.kind ∧ In64 x.frm ∧ In64 x.slot ∧ In64 x.view ∧ In64 x.valid ∧ x.value.length ≤ 9223372036854775807
theorem read_vote {n : Nat} {cs : List Value} {y : DataW H × List MemPlace} (h : DataW.trod enc Try.prog W 0 (fun _ => true) true n 31 cs = some y) :
    ∃ (x : Vote) (s : Value), cs = [.int .i64 x.kind, .int .i64 x.frm, .int .i64 x.slot, .int .i64 x.view, .int .i64 x.valid, s] ∧ VoteIn W x s := by
  obtain ⟨xs, m, _, _, hlen, hxl, hf⟩ := DataW.trod_struct Try.underlying31 h
  rw [cells_vote] at hlen
  match cs, hlen with
  | [c0, c1, c2, c3, c4, c5], _ =>
    have hx6 : xs.length = 6 := hxl
    have g : ∀ i, i < 6 → ∃ z, xs[i]? = some z := fun i hi => ⟨_, List.getElem?_eq_getElem (by omega)⟩
    obtain ⟨z0, e0⟩ := g 0 (by decide)
    obtain ⟨z1, e1⟩ := g 1 (by decide)
    obtain ⟨z2, e2⟩ := g 2 (by decide)
    obtain ⟨z3, e3⟩ := g 3 (by decide)
    obtain ⟨z4, e4⟩ := g 4 (by decide)
    obtain ⟨z5, e5⟩ := g 5 (by decide)
    have h0 := (hf 0 _ rfl).trans e0
    have h1 := (hf 1 _ rfl).trans e1
    have h2 := (hf 2 _ rfl).trans e2
    have h3 := (hf 3 _ rfl).trans e3
    have h4 := (hf 4 _ rfl).trans e4
    have h5 := (hf 5 _ rfl).trans e5
    simp only [List.getElem_toArray, List.getElem_cons_zero, List.getElem_cons_succ] at h0 h1 h2 h3 h4 h5
    rw [cells_int] at h0 h1 h2 h3 h4
    rw [cells_bytes] at h5
    obtain ⟨m0, w0, f0⟩ := read_int h0
    obtain ⟨m1, w1, f1⟩ := read_int h1
    obtain ⟨m2, w2, f2⟩ := read_int h2
    obtain ⟨m3, w3, f3⟩ := read_int h3
    obtain ⟨m4, w4, f4⟩ := read_int h4
    obtain ⟨s, l, f5, hb, hl⟩ := read_bytes h5
    simp only [List.drop_zero, List.drop_succ_cons, List.take_succ_cons, List.take_zero, List.cons.injEq, and_true] at f0 f1 f2 f3 f4 f5
    subst f0 f1 f2 f3 f4 f5
    exact ⟨⟨m0, m1, m2, m3, m4, l⟩, _, rfl, hb, w0, w1, w2, w3, w4, hl⟩

/-- A step of what happens to one core, as data. -/
structure ActM where
  kind : Int
  vote : Vote
  value : List UInt8
/-- Its cells. -/
def ActIn (W : World) (a : ActM) (cs : List Value) : Prop :=
  ∃ s1 s2, cs = [.int .i64 a.kind, .int .i64 a.vote.kind, .int .i64 a.vote.frm, .int .i64 a.vote.slot, .int .i64 a.vote.view, .int .i64 a.vote.valid, s1, s2] ∧ In64 a.kind ∧ VoteIn W a.vote s1 ∧ Bs W (fun k => k < W.heap.size) s2 a.value ∧ a.value.length ≤ 9223372036854775807
theorem read_act {n : Nat} {cs : List Value} {y : DataW H × List MemPlace} (h : DataW.trod enc Try.prog W 0 (fun _ => true) true n 33 cs = some y) : ∃ a, ActIn W a cs := by
  obtain ⟨xs, m, _, _, hlen, hxl, hf⟩ := DataW.trod_struct Try.underlying33 h
  rw [cells_act] at hlen
  match cs, hlen with
  | [c0, c1, c2, c3, c4, c5, c6, c7], _ =>
    have hx3 : xs.length = 3 := hxl
    have g : ∀ i, i < 3 → ∃ z, xs[i]? = some z := fun i hi => ⟨_, List.getElem?_eq_getElem (by omega)⟩
    obtain ⟨z0, e0⟩ := g 0 (by decide)
    obtain ⟨z1, e1⟩ := g 1 (by decide)
    obtain ⟨z2, e2⟩ := g 2 (by decide)
    have h0 := (hf 0 _ rfl).trans e0
    have h1 := (hf 1 _ rfl).trans e1
    have h2 := (hf 2 _ rfl).trans e2
    simp only [List.getElem_toArray, List.getElem_cons_zero, List.getElem_cons_succ] at h0 h1 h2
    rw [cells_int] at h0
    rw [cells_vote] at h1
    rw [cells_bytes] at h2
    obtain ⟨m0, w0, f0⟩ := read_int h0
    obtain ⟨x, s1, f1, hv⟩ := read_vote h1
    obtain ⟨s, l, f2, hb, hl⟩ := read_bytes h2
    simp only [List.drop_zero, List.drop_succ_cons, List.take_succ_cons, List.take_zero, List.cons.injEq, and_true] at f0 f1 f2
    obtain ⟨rfl, rfl, rfl, rfl, rfl, rfl⟩ := f1
    subst f0 f2
    exact ⟨⟨m0, x, l⟩, _, _, rfl, w0, hv, hb, hl⟩

/-- A step of what happens among peers, as data. -/
structure StepM where
  kind : Int
  frm : Int
  dst : Int
  num : Int
  vote : Vote
  value : List UInt8
def StepIn (W : World) (a : StepM) (cs : List Value) : Prop :=
  ∃ s1 s2, cs = [.int .i64 a.kind, .int .i64 a.frm, .int .i64 a.dst, .int .i64 a.num, .int .i64 a.vote.kind, .int .i64 a.vote.frm, .int .i64 a.vote.slot, .int .i64 a.vote.view, .int .i64 a.vote.valid, s1, s2] ∧ (In64 a.kind ∧ In64 a.frm ∧ In64 a.dst ∧ In64 a.num) ∧ VoteIn W a.vote s1 ∧ Bs W (fun k => k < W.heap.size) s2 a.value ∧ a.value.length ≤ 9223372036854775807
theorem read_step {n : Nat} {cs : List Value} {y : DataW H × List MemPlace} (h : DataW.trod enc Try.prog W 0 (fun _ => true) true n 57 cs = some y) : ∃ a, StepIn W a cs := by
  obtain ⟨xs, m, _, _, hlen, hxl, hf⟩ := DataW.trod_struct Try.underlying57 h
  rw [cells_step] at hlen
  match cs, hlen with
  | [c0, c1, c2, c3, c4, c5, c6, c7, c8, c9, c10], _ =>
    have hx3 : xs.length = 6 := hxl
    have g : ∀ i, i < 6 → ∃ z, xs[i]? = some z := fun i hi => ⟨_, List.getElem?_eq_getElem (by omega)⟩
    obtain ⟨z0, e0⟩ := g 0 (by decide)
    obtain ⟨z1, e1⟩ := g 1 (by decide)
    obtain ⟨z2, e2⟩ := g 2 (by decide)
    obtain ⟨z3, e3⟩ := g 3 (by decide)
    obtain ⟨z4, e4⟩ := g 4 (by decide)
    obtain ⟨z5, e5⟩ := g 5 (by decide)
    have h0 := (hf 0 _ rfl).trans e0
    have h1 := (hf 1 _ rfl).trans e1
    have h2 := (hf 2 _ rfl).trans e2
    have h3 := (hf 3 _ rfl).trans e3
    have h4 := (hf 4 _ rfl).trans e4
    have h5 := (hf 5 _ rfl).trans e5
    simp only [List.getElem_toArray, List.getElem_cons_zero, List.getElem_cons_succ] at h0 h1 h2 h3 h4 h5
    rw [cells_int] at h0 h1 h2 h3
    rw [cells_vote] at h4
    rw [cells_bytes] at h5
    obtain ⟨m0, w0, f0⟩ := read_int h0
    obtain ⟨m1, w1, f1⟩ := read_int h1
    obtain ⟨m2, w2, f2⟩ := read_int h2
    obtain ⟨m3, w3, f3⟩ := read_int h3
    obtain ⟨x, s1, f4, hv⟩ := read_vote h4
    obtain ⟨s, l, f5, hb, hl⟩ := read_bytes h5
    simp only [List.drop_zero, List.drop_succ_cons, List.take_succ_cons, List.take_zero, List.cons.injEq, and_true] at f0 f1 f2 f3 f4 f5
    obtain ⟨rfl, rfl, rfl, rfl, rfl, rfl⟩ := f4
    subst f0 f1 f2 f3 f5
    exact ⟨⟨m0, m1, m2, m3, x, l⟩, _, _, rfl, ⟨w0, w1, w2, w3⟩, hv, hb, hl⟩

theorem open_acts {v : Value} {d : DataW H} {p : List MemPlace} (hval : Value.okWide Try.prog W .any base 22 v) (h : DataW.Trod enc Try.prog W 0 (fun _ => true) true 22 v d p) : ∃ l : List ActM, RowsAt W (fun b => b < W.heap.size) 8 (ActIn W) v l :=
  open_rows Try.underlying22 cells_act (by decide) (fun _ _ _ h => read_act h) hval h
theorem open_steps {v : Value} {d : DataW H} {p : List MemPlace} (hval : Value.okWide Try.prog W .any base 52 v) (h : DataW.Trod enc Try.prog W 0 (fun _ => true) true 52 v d p) : ∃ l : List StepM, RowsAt W (fun b => b < W.heap.size) 11 (StepIn W) v l :=
  open_rows Try.underlying52 cells_step (by decide) (fun _ _ _ h => read_step h) hval h
theorem open_nums {v : Value} {d : DataW H} {p : List MemPlace} (hval : Value.okWide Try.prog W .any base 51 v) (h : DataW.Trod enc Try.prog W 0 (fun _ => true) true 51 v d p) : ∃ l : List Int, RowsAt W (fun b => b < W.heap.size) 1 (fun m cs => In64 m ∧ cs = [.int .i64 m]) v l :=
  open_rows Try.underlying51 cells_int (by decide) (fun _ _ _ h => read_int h) hval h
end
end Go.Proofs.Ytkkmkkgjpmlhaaa
namespace Go.Proofs.Ytkkmkkgjpmlhaaa
open Go.RowKit Go.MapKept

def shortB (L : Nat) (a : ActM) : Bool := !(decide (L < a.value.length) || decide (L < a.vote.value.length))
def fewB (l : List ActM) : Bool := decide (l.length ≤ 100) && l.all (shortB 100)
theorem fewB_iff {l : List ActM} (h : fewB l = true) : l.length ≤ 100 ∧ ∀ a ∈ l, a.value.length ≤ 100 ∧ a.vote.value.length ≤ 100 := by
  unfold fewB shortB at h
  simp only [Bool.and_eq_true, decide_eq_true_eq, List.all_eq_true, Bool.not_eq_true', Bool.or_eq_false_iff, decide_eq_false_iff_not, Nat.not_lt] at h
  exact h
/-- The cells of the i-th act, in a later world. -/
theorem act_cells {O : Nat → Prop} {w W : World} {A : Option Addr} {n cap : Nat} {l : List ActM} (h : RowsAt w O 8 (ActIn w) (.slice A n cap) l) (hb : Below w.heap.size w W) {i : Nat} {a : ActM} (ha : l[i]? = some a) :
    ∃ b off A1 c1 A2 c2, A = some ⟨b, off, none⟩ ∧ n = l.length ∧ W.cell? ⟨b, off + i * 8, none⟩ = some (.int .i64 a.kind) ∧ W.cell? ⟨b, off + i * 8 + 1, none⟩ = some (.int .i64 a.vote.kind) ∧ W.cell? ⟨b, off + i * 8 + 2, none⟩ = some (.int .i64 a.vote.frm) ∧ W.cell? ⟨b, off + i * 8 + 3, none⟩ = some (.int .i64 a.vote.slot) ∧
      W.cell? ⟨b, off + i * 8 + 4, none⟩ = some (.int .i64 a.vote.view) ∧ W.cell? ⟨b, off + i * 8 + 5, none⟩ = some (.int .i64 a.vote.valid) ∧ W.cell? ⟨b, off + i * 8 + 6, none⟩ = some (.slice A1 a.vote.value.length c1) ∧ W.cell? ⟨b, off + i * 8 + 7, none⟩ = some (.slice A2 a.value.length c2) ∧
      Bs w (fun k => k < w.heap.size) (.slice A1 a.vote.value.length c1) a.vote.value ∧ Bs w (fun k => k < w.heap.size) (.slice A2 a.value.length c2) a.value ∧ (In64 a.vote.kind ∧ In64 a.vote.frm ∧ In64 a.vote.slot ∧ In64 a.vote.view ∧ In64 a.vote.valid ∧ a.vote.value.length ≤ 9223372036854775807) ∧ a.value.length ≤ 9223372036854775807 := by
  obtain ⟨A', cap', hv, _, hrow⟩ := h
  injection hv with h1 h2 h3
  subst h1 h2 h3
  obtain ⟨b, off, rfl, _, hat⟩ := hrow (by have := (List.getElem?_eq_some_iff.1 ha).1; omega)
  obtain ⟨cs, _, ⟨s1, s2, hcs, _, ⟨hv1, hn1⟩, hb2, hl2⟩, hc⟩ := hat i a ha
  obtain ⟨A1, c1, rfl, _⟩ := id hv1
  obtain ⟨A2, c2, rfl, _⟩ := id hb2
  subst hcs
  have f : ∀ (j : Nat) (u : Value), ([Value.int .i64 a.kind, .int .i64 a.vote.kind, .int .i64 a.vote.frm, .int .i64 a.vote.slot, .int .i64 a.vote.view, .int .i64 a.vote.valid, .slice A1 a.vote.value.length c1, .slice A2 a.value.length c2] : List Value)[j]? = some u → W.cell? ⟨b, off + i * 8 + j, none⟩ = some u := fun j u hu => by
    have := hc j u hu
    exact (hb.cell (p := ⟨b, off + i * 8 + j, none⟩) (World.block_lt_of_cell? _ _ this)).trans this
  exact ⟨b, off, A1, c1, A2, c2, rfl, rfl, f 0 _ rfl, f 1 _ rfl, f 2 _ rfl, f 3 _ rfl, f 4 _ rfl, f 5 _ rfl, f 6 _ rfl, f 7 _ rfl, hv1, hb2, hn1, hl2⟩

set_option maxRecDepth 100000 in
set_option maxHeartbeats 4000000 in
theorem few_any {O : Nat → Prop} {v : Value} {l : List ActM} (w0 w : World) (h : RowsAt w0 O 8 (ActIn w0) v l) (h0 : Below w0.heap.size w0 w) : Calls Try.prog 12 #[v] w fun e w' => e = .returned (.bool (fewB l)) ∧ Below w.heap.size w w' := by
  obtain ⟨A, cap, rfl, hlm, -⟩ := id h
  have H := hid h
  clear h
  by_cases hlen : 100 < l.length
  · have hl1 : decide ((100 : Int) < (l.length : Int)) = true := by simp; omega
    have hres : fewB l = false := by unfold fewB; simp; omega
    have HR := hid hres
    clear hres
    go_enter Try.func12, Try.ntmps12
    go_wp2
    go_ret
    exact ⟨by rw [HR.out]; rfl, Below.refl _ _⟩
  · have hl1 : decide ((100 : Int) < (l.length : Int)) = false := by simp; omega
    go_enter Try.func12, Try.ntmps12
    go_wp2
    go_loopw [10] (fun i wr => ∃ k : Nat, i = .int .i64 k ∧ k ≤ l.length ∧ (l.take k).all (shortB 100) = true ∧ Below w.heap.size w wr)
      (fun i _ => l.length - (intOf i).toNat)
    case atStart => exact ⟨0, rfl, Nat.zero_le _, rfl, Below.refl _ _⟩
    case round =>
      obtain ⟨k, rfl, hk, hall, hb⟩ := hrel
      by_cases hlt : k < l.length
      · obtain ⟨a, ha⟩ : ∃ a, l[k]? = some a := ⟨_, List.getElem?_eq_getElem hlt⟩
        obtain ⟨b, off, A1, c1, A2, c2, rfl, -, x0, x1, x2, x3, x4, x5, x6, x7, -, -, -, -⟩ := act_cells H.out (h0.trans (hb.mono h0.size)) ha
        have hsucc : (l.take (k + 1)).all (shortB 100) = shortB 100 a := by rw [List.take_add_one, ha]; simp [hall]
        have HS := hid hsucc
        have HA := hid ha
        clear hsucc ha hall
        by_cases q1 : 100 < a.value.length
        · have q1' : decide ((100 : Int) < (a.value.length : Int)) = true := by simp; omega
          have hres : fewB l = false := by
            have hm := List.mem_of_getElem? HA.out
            cases hf : fewB l with
            | false => rfl
            | true => have := ((fewB_iff hf).2 a hm).1; omega
          have HR := hid hres
          clear hres
          go_wp2
          go_ret
          exact ⟨by rw [HR.out]; rfl, hb.alloc hb.size _⟩
        · have q1' : decide ((100 : Int) < (a.value.length : Int)) = false := by simp; omega
          by_cases q2 : 100 < a.vote.value.length
          · have q2' : decide ((100 : Int) < (a.vote.value.length : Int)) = true := by simp; omega
            have hres : fewB l = false := by
              have hm := List.mem_of_getElem? HA.out
              cases hf : fewB l with
              | false => rfl
              | true => have := ((fewB_iff hf).2 a hm).2; omega
            have HR := hid hres
            clear hres
            go_wp2
            go_ret
            exact ⟨by rw [HR.out]; rfl, hb.alloc hb.size _⟩
          · have q2' : decide ((100 : Int) < (a.vote.value.length : Int)) = false := by simp; omega
            have hsh : shortB 100 a = true := by unfold shortB; simp; omega
            have HSH := hid hsh
            clear hsh
            go_wp2
            go_roundw
            case rel => exact ⟨k + 1, by go_num, hlt, by rw [HS.out]; exact HSH.out, hb.alloc hb.size _⟩
            case measure => simp [intOf]; omega
      · have hke : k = l.length := by omega
        subst hke
        have hres : fewB l = true := by
          unfold fewB
          rw [List.take_length] at hall
          simp only [Bool.and_eq_true, decide_eq_true_eq]
          exact ⟨by omega, hall⟩
        have HR := hid hres
        clear hres hall
        go_wp2
        go_ret
        exact ⟨by rw [HR.out]; rfl, hb⟩
end Go.Proofs.Ytkkmkkgjpmlhaaa
