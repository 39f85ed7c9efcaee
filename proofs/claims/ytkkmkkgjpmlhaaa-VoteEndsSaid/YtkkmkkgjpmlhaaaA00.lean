/- fewSteps: are steps few, and their values short? begin: peers, of whom at most a third are wrong. A step of what happens among peers: what it leaves. No program in sight. agree: where the invariant of peers holds it says yes. -/
import Derived.Test.YtkkmkkgjpmlhaaaV15
import Derived.Test.YtkkmkkgjpmlhaaaV06
import Derived.Test.YtkkmkkgjpmlhaaaV27
import Derived.Test.YtkkmkkgjpmlhaaaV28
import Derived.Laws.MakeOwn
import Derived.Deep.RegionLaw
import Derived.Test.YtkkmkkgjpmlhaaaV24
import Derived.Test.YtkkmkkgjpmlhaaaV03
import Derived.Test.YtkkmkkgjpmlhaaaV09
import Derived.Deep.DeepCutAuto
namespace Go.Proofs.Ytkkmkkgjpmlhaaa
open Go.RowKit Go.MapKept

def shortS (L : Nat) (a : StepM) : Bool := !(decide (L < a.value.length) || decide (L < a.vote.value.length))
def fewS (l : List StepM) : Bool := decide (l.length ≤ 250) && l.all (shortS 50)
theorem fewS_iff {l : List StepM} (h : fewS l = true) : l.length ≤ 250 ∧ ∀ a ∈ l, a.value.length ≤ 50 ∧ a.vote.value.length ≤ 50 := by
  unfold fewS shortS at h
  simp only [Bool.and_eq_true, decide_eq_true_eq, List.all_eq_true, Bool.not_eq_true', Bool.or_eq_false_iff, decide_eq_false_iff_not, Nat.not_lt] at h
  exact h
/-- The cells of the i-th act, in a later world. -/
theorem step_cells {O : Nat → Prop} {w W : World} {A : Option Addr} {n cap : Nat} {l : List StepM} (h : RowsAt w O 11 (StepIn w) (.slice A n cap) l) (hb : Below w.heap.size w W) {i : Nat} {a : StepM} (ha : l[i]? = some a) :
    ∃ b off A1 c1 A2 c2, A = some ⟨b, off, none⟩ ∧ n = l.length ∧ W.cell? ⟨b, off + i * 11, none⟩ = some (.int .i64 a.kind) ∧ W.cell? ⟨b, off + i * 11 + 1, none⟩ = some (.int .i64 a.frm) ∧ W.cell? ⟨b, off + i * 11 + 2, none⟩ = some (.int .i64 a.dst) ∧ W.cell? ⟨b, off + i * 11 + 3, none⟩ = some (.int .i64 a.num) ∧ W.cell? ⟨b, off + i * 11 + 4, none⟩ = some (.int .i64 a.vote.kind) ∧ W.cell? ⟨b, off + i * 11 + 5, none⟩ = some (.int .i64 a.vote.frm) ∧ W.cell? ⟨b, off + i * 11 + 6, none⟩ = some (.int .i64 a.vote.slot) ∧
      W.cell? ⟨b, off + i * 11 + 7, none⟩ = some (.int .i64 a.vote.view) ∧ W.cell? ⟨b, off + i * 11 + 8, none⟩ = some (.int .i64 a.vote.valid) ∧ W.cell? ⟨b, off + i * 11 + 9, none⟩ = some (.slice A1 a.vote.value.length c1) ∧ W.cell? ⟨b, off + i * 11 + 10, none⟩ = some (.slice A2 a.value.length c2) ∧
      Bs w (fun k => k < w.heap.size) (.slice A1 a.vote.value.length c1) a.vote.value ∧ Bs w (fun k => k < w.heap.size) (.slice A2 a.value.length c2) a.value ∧ (In64 a.vote.kind ∧ In64 a.vote.frm ∧ In64 a.vote.slot ∧ In64 a.vote.view ∧ In64 a.vote.valid ∧ a.vote.value.length ≤ 9223372036854775807) ∧ a.value.length ≤ 9223372036854775807 ∧ (In64 a.kind ∧ In64 a.frm ∧ In64 a.dst ∧ In64 a.num) := by
  obtain ⟨A', cap', hv, _, hrow⟩ := h
  injection hv with h1 h2 h3
  subst h1 h2 h3
  obtain ⟨b, off, rfl, _, hat⟩ := hrow (by have := (List.getElem?_eq_some_iff.1 ha).1; omega)
  obtain ⟨cs, _, ⟨s1, s2, hcs, hin, ⟨hv1, hn1⟩, hb2, hl2⟩, hc⟩ := hat i a ha
  obtain ⟨A1, c1, rfl, _⟩ := id hv1
  obtain ⟨A2, c2, rfl, _⟩ := id hb2
  subst hcs
  have f : ∀ (j : Nat) (u : Value), ([Value.int .i64 a.kind, .int .i64 a.frm, .int .i64 a.dst, .int .i64 a.num, .int .i64 a.vote.kind, .int .i64 a.vote.frm, .int .i64 a.vote.slot, .int .i64 a.vote.view, .int .i64 a.vote.valid, .slice A1 a.vote.value.length c1, .slice A2 a.value.length c2] : List Value)[j]? = some u → W.cell? ⟨b, off + i * 11 + j, none⟩ = some u := fun j u hu => by
    have := hc j u hu
    exact (hb.cell (p := ⟨b, off + i * 11 + j, none⟩) (World.block_lt_of_cell? _ _ this)).trans this
  exact ⟨b, off, A1, c1, A2, c2, rfl, rfl, f 0 _ rfl, f 1 _ rfl, f 2 _ rfl, f 3 _ rfl, f 4 _ rfl, f 5 _ rfl, f 6 _ rfl, f 7 _ rfl, f 8 _ rfl, f 9 _ rfl, f 10 _ rfl, hv1, hb2, hn1, hl2, hin⟩

set_option maxRecDepth 100000 in
set_option maxHeartbeats 4000000 in
theorem fewSteps_any {O : Nat → Prop} {v : Value} {l : List StepM} (w0 w : World) (h : RowsAt w0 O 11 (StepIn w0) v l) (h0 : Below w0.heap.size w0 w) : Calls Try.prog 26 #[v] w fun e w' => e = .returned (.bool (fewS l)) ∧ Below w.heap.size w w' := by
  obtain ⟨A, cap, rfl, hlm, -⟩ := id h
  have H := hid h
  clear h
  by_cases hlen : 250 < l.length
  · have hl1 : decide ((250 : Int) < (l.length : Int)) = true := by simp; omega
    have hres : fewS l = false := by unfold fewS; simp; omega
    have HR := hid hres
    clear hres
    go_enter Try.func26, Try.ntmps26
    go_wp2
    go_ret
    exact ⟨by rw [HR.out]; rfl, Below.refl _ _⟩
  · have hl1 : decide ((250 : Int) < (l.length : Int)) = false := by simp; omega
    go_enter Try.func26, Try.ntmps26
    go_wp2
    go_loopw [10] (fun i wr => ∃ k : Nat, i = .int .i64 k ∧ k ≤ l.length ∧ (l.take k).all (shortS 50) = true ∧ Below w.heap.size w wr)
      (fun i _ => l.length - (intOf i).toNat)
    case atStart => exact ⟨0, rfl, Nat.zero_le _, rfl, Below.refl _ _⟩
    case round =>
      obtain ⟨k, rfl, hk, hall, hb⟩ := hrel
      by_cases hlt : k < l.length
      · obtain ⟨a, ha⟩ : ∃ a, l[k]? = some a := ⟨_, List.getElem?_eq_getElem hlt⟩
        obtain ⟨b, off, A1, c1, A2, c2, rfl, -, x0, x1, x2, x3, x4, x5, x6, x7, x8, x9, x10, -, -, -, -, -⟩ := step_cells H.out (h0.trans (hb.mono h0.size)) ha
        have hsucc : (l.take (k + 1)).all (shortS 50) = shortS 50 a := by rw [List.take_add_one, ha]; simp [hall]
        have HS := hid hsucc
        have HA := hid ha
        clear hsucc ha hall
        by_cases q1 : 50 < a.value.length
        · have q1' : decide ((50 : Int) < (a.value.length : Int)) = true := by simp; omega
          have hres : fewS l = false := by
            have hm := List.mem_of_getElem? HA.out
            cases hf : fewS l with
            | false => rfl
            | true => have := ((fewS_iff hf).2 a hm).1; omega
          have HR := hid hres
          clear hres
          go_wp2
          go_ret
          exact ⟨by rw [HR.out]; rfl, hb.alloc hb.size _⟩
        · have q1' : decide ((50 : Int) < (a.value.length : Int)) = false := by simp; omega
          by_cases q2 : 50 < a.vote.value.length
          · have q2' : decide ((50 : Int) < (a.vote.value.length : Int)) = true := by simp; omega
            have hres : fewS l = false := by
              have hm := List.mem_of_getElem? HA.out
              cases hf : fewS l with
              | false => rfl
              | true => have := ((fewS_iff hf).2 a hm).2; omega
            have HR := hid hres
            clear hres
            go_wp2
            go_ret
            exact ⟨by rw [HR.out]; rfl, hb.alloc hb.size _⟩
          · have q2' : decide ((50 : Int) < (a.vote.value.length : Int)) = false := by simp; omega
            have hsh : shortS 50 a = true := by unfold shortS; simp; omega
            have HSH := hid hsh
            clear hsh
            go_wp2
            go_roundw
            case rel => exact ⟨k + 1, by go_num, hlt, by rw [HS.out]; exact HSH.out, hb.alloc hb.size _⟩
            case measure => simp [intOf]; omega
      · have hke : k = l.length := by omega
        subst hke
        have hres : fewS l = true := by
          unfold fewS
          rw [List.take_length] at hall
          simp only [Bool.and_eq_true, decide_eq_true_eq]
          exact ⟨by omega, hall⟩
        have HR := hid hres
        clear hres hall
        go_wp2
        go_ret
        exact ⟨by rw [HR.out]; rfl, hb⟩
end Go.Proofs.Ytkkmkkgjpmlhaaa
namespace Go.Proofs.Ytkkmkkgjpmlhaaa
open Go.RowKit Go.MapKept

theorem info_bool : (Try.prog.info? 4).map (fun i => (i.zero, i.size, i.bytes)) = some (some (.bool false), 1, 1) := by kernel_rfl

/-- Peers in memory: their number, their cores, which of them are wrong. -/
structure PeersAt (w : World) (Z : Nat → Prop) (pb n lb lc wb : Nat) (B : Nat → Nat) (wr : Nat → Bool) : Prop where
  c0 : w.cell? ⟨pb, 0, none⟩ = some (.int .i64 n)
  c1 : w.cell? ⟨pb, 1, none⟩ = some (.slice (some ⟨lb, 0, none⟩) n lc)
  c2 : w.cell? ⟨pb, 2, none⟩ = some (.slice (some ⟨wb, 0, none⟩) n n)
  cl : ∀ j, j < n → w.cell? ⟨lb, j, none⟩ = some (.pointer (some ⟨B j, 0, none⟩))
  cw : ∀ j, j < n → w.cell? ⟨wb, j, none⟩ = some (.bool (wr j))
  fl : ∀ j, w.frozen? ⟨lb, j, none⟩ = false
  zp : Z pb
  zl : Z lb
  zw : Z wb
  pl : pb ≠ lb
  wl : wb ≠ lb
theorem PeersAt.keep {w w' : World} {Z F : Nat → Prop} {pb n lb lc wb : Nat} {B : Nat → Nat} {wr : Nat → Bool} (h : PeersAt w Z pb n lb lc wb B wr) (h0 : 0 < n) (ho : Off F w w') (h1 : ¬ F pb) (h2 : ¬ F lb) (h3 : ¬ F wb) : PeersAt w' Z pb n lb lc wb B wr :=
  have hlt : lb < w.heap.size := World.block_lt_of_cell? _ _ (h.cl 0 h0)
  ⟨ho.cell_some h.c0 h1, ho.cell_some h.c1 h1, ho.cell_some h.c2 h1, fun j hj => ho.cell_some (h.cl j hj) h2, fun j hj => ho.cell_some (h.cw j hj) h3, fun j => (ho.frozen (a := ⟨lb, j, none⟩) hlt h2).trans (h.fl j), h.zp, h.zl, h.zw, h.pl, h.wl⟩

theorem push_run {w1 : World} {base k b cap : Nat} {A : Option Addr} {B : Nat → Nat} (hown : w1.ownsRow base 26 1 (.slice A k cap) k (ptrs B k)) (hk : k < 64) (hbase : base ≤ w1.heap.size) :
    ∃ g c' w2, (Builtin.append_ #[61, 61] 61 #[.slice A k cap, .slice (some ⟨w1.heap.size, 0, none⟩) 1 1]).run Try.prog (w1.alloc (.cells #[.pointer (some ⟨b, 0, none⟩)] 26)) = .ok (.slice (some ⟨g, 0, none⟩) (k + 1) c') w2 ∧
      w2.ownsRow base 26 1 (.slice (some ⟨g, 0, none⟩) (k + 1) c') (k + 1) (ptrs (updB B k b) (k + 1)) ∧ (w1.alloc (.cells #[.pointer (some ⟨b, 0, none⟩)] 26)).grownBy w2 (Value.slice A k cap).ownBlock ∧ ((Value.slice A k cap).ownBlock = some g ∨ g = (w1.alloc (.cells #[.pointer (some ⟨b, 0, none⟩)] 26)).heap.size) ∧ g < w2.heap.size := by
  obtain ⟨i0, hi0, hq0, hq1, hq2⟩ := info_parts info_pcore
  rw [ptrs_succ]
  exact run_append_lies (P := Try.prog) (w1.alloc (.cells #[.pointer (some ⟨b, 0, none⟩)] 26)) 61 61 base 26 i0 (.pointer none) 1 8 Try.underlying61 hi0 hq0 hq1 hq2 rfl (by decide) (.slice A k cap) k _ (hown.alloc _) ⟨w1.heap.size, 0, none⟩ 1 1 [.pointer (some ⟨b, 0, none⟩)] rfl (one_new w1 _ _) one_cell (by decide) (by unfold maxLen; omega) (by omega) (Nat.le_trans hbase (by simp)) _ rfl

theorem nums_cell {O : Nat → Prop} {w W : World} {A : Option Addr} {n cap : Nat} {l : List Int} (h : RowsAt w O 1 (fun m cs => In64 m ∧ cs = [.int .i64 m]) (.slice A n cap) l) (hb : Below w.heap.size w W) {i : Nat} {a : Int} (ha : l[i]? = some a) :
    ∃ b off, A = some ⟨b, off, none⟩ ∧ n = l.length ∧ W.cell? ⟨b, off + i, none⟩ = some (.int .i64 a) := by
  obtain ⟨A', cap', hv, _, hrow⟩ := h
  injection hv with h1 h2 h3
  subst h1 h2 h3
  obtain ⟨b, off, rfl, _, hat⟩ := hrow (by have := (List.getElem?_eq_some_iff.1 ha).1; omega)
  obtain ⟨cs, _, ⟨_, rfl⟩, hc⟩ := hat i a ha
  have := hc 0 _ rfl
  rw [Nat.mul_one, Nat.add_zero] at this
  exact ⟨b, off, rfl, rfl, (hb.cell (p := ⟨b, off + i, none⟩) (World.block_lt_of_cell? _ _ this)).trans this⟩

theorem own_off {w w1 : World} {base n size r : Nat} {e : TypeId} {v : Value} {xs : List Value} (h : w.ownsRow base e size v n xs) (ho : Off (fun k => k = r) w w1) (hr : v.ownBlock ≠ some r) : w1.ownsRow base e size v n xs :=
  h.kept (row := some r) ⟨ho.os, ho.tape, ho.output, ho.size, fun k hk e => ho.block k hk (fun e2 => e (by rw [e2]))⟩ (.inr hr)
/-- One more is wrong. -/
def mark (g : Nat → Bool) (m : Nat) : Nat → Bool := fun j => if j = m then true else g j
theorem mark_cnt (g : Nat → Bool) (m : Nat) : ∀ n, cnt n (mark g m) ≤ cnt n g + (if m < n then 1 else 0)
  | 0 => Nat.zero_le _
  | n + 1 => by
    have ih := mark_cnt g m n
    rw [cnt_succ, cnt_succ]
    by_cases e : n = m
    · subst e
      rw [if_neg (Nat.lt_irrefl n)] at ih
      rw [if_pos (Nat.lt_succ_self n)]
      have : ∀ b : Bool, (if b = true then 1 else 0) ≤ 1 := fun b => by cases b <;> simp
      have := this (mark g n n)
      generalize (if mark g n n = true then 1 else 0) = z at this ⊢
      omega
    · have e2 : mark g m n = g n := if_neg e
      rw [e2]
      generalize (if g n = true then 1 else 0) = z
      by_cases h1 : m < n
      · rw [if_pos h1] at ih; rw [if_pos (by omega)]; omega
      · rw [if_neg h1] at ih; rw [if_neg (by omega)]; omega
theorem mark_cells {w : World} {wb n m : Nat} {g : Nat → Bool} (h : ∀ j, j < n → w.cell? ⟨wb, j, none⟩ = some (.bool (g j))) (hm : m < n) : ∀ j, j < n → (w.setCell ⟨wb, m, none⟩ (.bool true)).cell? ⟨wb, j, none⟩ = some (.bool (mark g m j)) := fun j hj => by
  unfold mark
  by_cases e : j = m
  · subst e; rw [if_pos rfl]; exact World.cell?_setCell_same' _ _ _ (by rw [h j hj]; rfl)
  · rw [if_neg e]; rw [World.cell?_setCell_other (h := fun e2 => e (by injection e2 with _ e3; exact e3.symm))]; exact h j hj

/-- What begin leaves. -/
def BeginPost (n : Nat) (slot : Int) (l : List Int) (w : World) (e : Ending) (w' : World) : Prop :=
  ∃ (pb lb lc wb : Nat) (B : Nat → Nat) (wr : Nat → Bool) (Z : Nat → Prop), e = .returned (.pointer (some ⟨pb, 0, none⟩)) ∧ PeersAt w' Z pb n lb lc wb B wr ∧ Lot w' Z 14 n B (fun j => { n := n, me := (j : Int) + 1, slot := slot }) ∧ (∀ k, k < w.heap.size → Z k) ∧ w.heap.size ≤ lb ∧ cnt n wr ≤ (n - 1) / 3 ∧ (l = [] → ∀ j, wr j = false) ∧ Below w.heap.size w w'
set_option maxRecDepth 100000 in
set_option maxHeartbeats 1000000 in
theorem begin_any {O : Nat → Prop} {v : Value} {l : List Int} (n : Nat) (slot : Int) (w0 w : World) (h : RowsAt w0 O 1 (fun m cs => In64 m ∧ cs = [.int .i64 m]) v l) (h0 : Below w0.heap.size w0 w) (hn : 4 ≤ n ∧ n ≤ 12) (hs : 0 ≤ slot ∧ slot ≤ 256) :
    Calls Try.prog 27 #[.int .i64 n, .int .i64 slot, v] w (BeginPost n slot l w) := by
  obtain ⟨i0, hi0, hq0, hq1, hq2⟩ := info_parts info_bool
  obtain ⟨n4, n12⟩ := hn
  obtain ⟨A, cap, rfl, hlm, -⟩ := id h
  have H := hid h
  clear h
  have hmk := run_make (P := Try.prog) w 62 4 i0 (.bool false) Try.underlying62 hi0 hq0 .i64 .i64 n n (by omega) (Int.le_refl _) (by rw [hq2]; omega) (by omega)
  rw [hq1, Int.toNat_natCast, Nat.mul_one] at hmk
  obtain ⟨cs, hcs⟩ : ∃ cs, cs = madeCells (Value.bool false).cells n := ⟨_, rfl⟩
  have hcs0 : ∀ j, j < n → cs[j]? = some (.bool false) := fun j hj => by rw [hcs]; simp [madeCells, Value.cells, hj, Nat.mod_one]
  rw [← hcs] at hmk
  clear hcs hi0 hq0 hq1 hq2
  go_enter Try.func27, Try.ntmps27
  go_wp2
  obtain ⟨W0, hW0⟩ : ∃ W0 : World, W0 = (w.alloc (.cells cs 4)).alloc (.cells #[.int .i64 n, .slice none 0 0, .slice (some ⟨w.heap.size, 0, none⟩) n n] 64) := ⟨_, rfl⟩
  have hb0 : Below w.heap.size w W0 := by rw [hW0]; exact ((Below.refl _ w).alloc (Nat.le_refl _) _).alloc (by simp) _
  have hsz : W0.heap.size = w.heap.size + 2 := by rw [hW0]; simp
  have hp : ∀ (j : Nat) (u : Value), (#[Value.int .i64 n, .slice none 0 0, .slice (some ⟨w.heap.size, 0, none⟩) n n] : Array Value)[j]? = some u → W0.cell? ⟨w.heap.size + 1, j, none⟩ = some u := fun j u hu => by rw [hW0]; exact (cell_alloc_new _ _ _ _ j (by simp)).trans hu
  have hpf : W0.frozen? ⟨w.heap.size + 1, 1, none⟩ = false := by rw [hW0]; exact frozen_alloc_new _ _ _ _ _ (by simp)
  have hwb : ∀ j, j < n → W0.cell? ⟨w.heap.size, j, none⟩ = some (.bool false) := fun j hj => by rw [hW0]; exact ((cell_alloc_old _ _ _ j (by simp)).trans (cell_alloc_new w _ _ _ j rfl)).trans (hcs0 j hj)
  have hwf : ∀ j, W0.frozen? ⟨w.heap.size, j, none⟩ = false := fun j => by rw [hW0]; exact (frozen_alloc_old _ _ _ j (by simp)).trans (frozen_alloc_new w _ _ _ j rfl)
  rw [show (w.alloc (.cells cs 4)).alloc (.cells #[.int .i64 n, .slice none 0 0, .slice (some ⟨w.heap.size, 0, none⟩) n n] 64) = W0 from hW0.symm]
  clear hmk hW0
  obtain ⟨wb, hwbe⟩ : ∃ k, k = w.heap.size := ⟨_, rfl⟩
  obtain ⟨pb, hpbe⟩ : ∃ k, k = w.heap.size + 1 := ⟨_, rfl⟩
  rw [← hpbe] at hp hpf ⊢
  rw [← hwbe] at hp hwb hwf ⊢
  have hwp : wb ≠ pb := by omega
  have p0 := hp 0 _ rfl
  have p1 := hp 1 _ rfl
  have p2 := hp 2 _ rfl
  have hwlt : wb < W0.heap.size := by omega
  have hplt : pb < W0.heap.size := by omega
  have HB0 := hid hb0
  have HSZ := hid hsz
  have HWB := hid hwb
  have HWF := hid hwf
  have HP := hid (show _ ∧ _ ∧ _ from ⟨p0, p1, p2⟩)
  have HPF := hid hpf
  have HE := hid (show _ ∧ _ from ⟨hwbe, hpbe⟩)
  clear hb0 hsz hwb hwf hp hcs0 hwbe hpbe p0 p1 p2 hpf
  go_loopw [21] (fun i wr => ∃ (k : Nat) (g : Nat → Bool), i = .int .i64 k ∧ k ≤ l.length ∧ (∀ j, j < n → wr.cell? ⟨wb, j, none⟩ = some (.bool (g j))) ∧ (∀ j, wr.frozen? ⟨wb, j, none⟩ = false) ∧ cnt n g ≤ (n - 1) / 3 ∧ (k = 0 → ∀ j, g j = false) ∧ Off (fun k => k = wb) W0 wr)
    (fun i _ => l.length - (intOf i).toNat)
  case atStart => exact ⟨0, fun _ => false, rfl, Nat.zero_le _, HWB.out, HWF.out, by rw [show cnt n (fun _ => false) = 0 from by unfold cnt; simp]; exact Nat.zero_le _, fun _ _ => rfl, Off.refl _ _⟩
  case round =>
    obtain ⟨k, g, rfl, hk, hg, hgf, hcnt, hg0, hoff⟩ := hrel
    have p0 := hoff.cell_some HP.out.1 hwp.symm
    have p1 := hoff.cell_some HP.out.2.1 hwp.symm
    have p2 := hoff.cell_some HP.out.2.2 hwp.symm
    by_cases hlt : k < l.length
    · obtain ⟨a, ha⟩ : ∃ a, l[k]? = some a := ⟨_, List.getElem?_eq_getElem hlt⟩
      have hbw : Below w.heap.size w wr := HB0.out.trans ((hoff.mono (G := fun k => w.heap.size ≤ k) (fun k _ e => by rw [e, HE.out.1]; exact Nat.le_refl _)).low (by rw [HSZ.out]; omega))
      obtain ⟨ba, off, rfl, -, x0⟩ := nums_cell H.out (h0.trans (hbw.mono h0.size)) ha
      have HG := hid hg
      have HGF := hid hgf
      have HCNT := hid hcnt
      have HG0 := hid hg0
      have HOFF := hid hoff
      clear hg hgf hcnt hg0 hoff ha
      go_wp2
      obtain ⟨wo, rfl⟩ : ∃ wo : World, wo = wr := ⟨_, rfl⟩
      go_loopw [30, 10] (fun i f wi => ∃ m : Nat, i = .int .i64 m ∧ f = .int .i64 (cnt m g) ∧ m ≤ n ∧ wi = wo) (fun i _ _ => n - (intOf i).toNat)
      case atStart => exact ⟨0, rfl, rfl, Nat.zero_le _, rfl⟩
      case round =>
        obtain ⟨m, rfl, rfl, hm, rfl⟩ := hrel
        by_cases hmn : m < n
        · have y0 := HG.out m hmn
          have hcl : cnt m g ≤ m := cnt_le m g
          have hsc := cnt_succ m g
          cases hgm : g m with
          | true =>
            rw [hgm] at y0 hsc
            rw [if_pos rfl] at hsc
            have HSC := hid hsc
            clear hsc hgm
            go_wp2
            go_roundw
            case rel => exact ⟨m + 1, by go_num, by rw [HSC.out]; go_num, hmn, trivial⟩
            case measure => simp [intOf]; omega
          | false =>
            rw [hgm] at y0 hsc
            rw [if_neg (by decide)] at hsc
            have HSC := hid hsc
            clear hsc hgm
            go_wp2
            go_roundw
            case rel => exact ⟨m + 1, by go_num, by rw [HSC.out]; go_num, hmn, trivial⟩
            case measure => simp [intOf]; omega
        · have hme : m = n := by omega
          subst hme
          by_cases hf : (cnt m g : Int) < ((m : Int) - 1) / 3
          · obtain ⟨r, e1, r0, r1⟩ := umod a m (by omega)
            obtain ⟨q, rfl⟩ : ∃ q : Nat, r = q := ⟨r.toNat, by omega⟩
            have e2 : IntKind.u64.wrap (m : Int) = m := IntWalk.u64_in _ (by omega)
            have e5 : ((m : Int) == 0) = false := by simp; omega
            have hqm : q < m := by omega
            have y0 := HG.out q hqm
            have y1 := HGF.out q
            go_upto_region 13 with fail
            go_region
            all_goals
              go_wp2
              go_roundw
              case rel =>
                refine ⟨k + 1, mark g q, by go_num, hlt, fun j hj => mark_cells HG.out hqm j hj, fun j => (World.frozen?_setCell ..).trans (HGF.out j), ?_, fun e => absurd e (Nat.succ_ne_zero k), (HOFF.out.setCell (fun _ => rfl) _).drew⟩
                have h1 := mark_cnt g q m
                rw [if_pos hqm] at h1
                omega
              case measure => simp [intOf]; omega
          · go_wp2
            go_roundw
            case rel => exact ⟨k + 1, g, by go_num, hlt, HG.out, HGF.out, HCNT.out, fun e => absurd e (Nat.succ_ne_zero k), HOFF.out⟩
            case measure => simp [intOf]; omega
    · have hke : k = l.length := by omega
      subst hke
      have hbw : Below w.heap.size w wr := HB0.out.trans ((hoff.mono (G := fun k => w.heap.size ≤ k) (fun k _ e => by rw [e, HE.out.1]; exact Nat.le_refl _)).low (by rw [HSZ.out]; omega))
      have hpf := (hoff.frozen (a := ⟨pb, 1, none⟩) hplt hwp.symm).trans HPF.out
      obtain ⟨W1, hW1⟩ : ∃ W1 : World, W1 = wr := ⟨_, rfl⟩
      rw [← hW1] at hbw p0 p1 p2 hg hgf hpf ⊢
      have hsz1 : w.heap.size + 2 ≤ W1.heap.size := by rw [hW1]; have := hoff.size; rw [HSZ.out] at this; exact this
      have HBW := hid hbw
      have HG := hid hg
      have HP1 := hid (show _ ∧ _ from ⟨p0, p2⟩)
      have HPF1 := hid hpf
      have HP2 := hid p1
      have HCNT := hid hcnt
      have HG0 := hid (show l = [] → ∀ j, g j = false from fun e => hg0 (by rw [e]; rfl))
      clear hbw hg hgf p0 p1 p2 hpf hcnt hg0 hoff hW1 hwlt hplt
      go_wp2
      go_loopw [56] (fun i wi => ∃ (k : Nat) (A : Option Addr) (c : Nat) (B : Nat → Nat) (P : Nat → CoreM), i = .int .i64 k ∧ k ≤ n ∧ wi.cell? ⟨pb, 1, none⟩ = some (.slice A k c) ∧ wi.frozen? ⟨pb, 1, none⟩ = false ∧ (wi.cell? ⟨pb, 0, none⟩ = some (.int .i64 n) ∧ wi.cell? ⟨pb, 2, none⟩ = some (.slice (some ⟨wb, 0, none⟩) n n)) ∧ Lot wi (zrow W1.heap.size (.slice A k c)) 14 k B P ∧ (∀ j, j < k → P j = { n := n, me := (j : Int) + 1, slot := slot }) ∧ wi.ownsRow W1.heap.size 26 1 (.slice A k c) k (ptrs B k) ∧ Off (fun k => k = pb ∨ W1.heap.size ≤ k) W1 wi)
        (fun i _ => n - (intOf i).toNat)
      case atStart => exact ⟨0, none, 0, fun _ => 0, fun _ => { n := 0, me := 0, slot := 0 }, rfl, Nat.zero_le _, HP2.out, HPF1.out, HP1.out, (Lot.empty W1 _ _ _).mono (fun k hk => by unfold zrow at hk; rcases hk with hk | hk; { exact hk }; { simp [Value.ownBlock] at hk }), fun _ h => absurd h (by omega), World.ownsRow_nil .., Off.refl _ _⟩
      case round =>
        obtain ⟨k, A, c, B, P, rfl, hk, hc, hcf, hq02, hlot, hP, hown, hoff⟩ := hrel
        have hw1r : W1.heap.size ≤ wr.heap.size := hoff.size
        have hpb1 : pb < W1.heap.size := by rw [HE.out.2]; omega
        have hplt : pb < wr.heap.size := by omega
        by_cases hkn : k < n
        · have hdr : Below wr.heap.size wr wr.drew := (Off.refl (fun _ => False) wr).drew.below
          have hnew := ((hlot.below hdr).mono (fun _ h => .inl h) : Lot wr.drew (zrow W1.heap.size (.slice A k c)) 14 k B P).new (m := n) (me := (k : Int) + 1) (slot := slot) ⟨by omega, by omega, by omega, by omega, by omega, by omega⟩
          have hnp : (Value.slice A k c).ownBlock ≠ some pb := fun e => by have := (hown.lt pb e).1; omega
          have ek : IntKind.i64.wrap ((k : Int) + 1) = k + 1 := IntWalk.i64_in _ (by omega)
          have HP' := hid hP
          have HOWN := hid hown
          have HOFF := hid hoff
          have HNP := hid hnp
          have HPB := hid hpb1
          have HQ := hid hq02
          clear hP hown hoff hlot hnp hpb1 hq02
          go_upto_region 18 with fail
          go_region_law
            (first | (refine step_append_run (by rfl) _ _ 61 (by rfl) (by rfl) (by rfl) hrun ?_) | (go_simp; go_at_call 13; refine hnew.mono ?_; rintro e w1 ⟨b, rfl, hlot1, hb1'⟩; have hb1 : Below wr.heap.size wr w1 := below_drew_l hb1'; obtain ⟨g, c', w2, hrun, hown2, hgrow, hat, hlt2⟩ := push_run (b := b) (own_below HOWN.out hb1) (show k < 64 by omega) (Nat.le_trans hw1r hb1.size); have ho1 : Off (fun x => (Value.slice A k c).ownBlock = some x) wr w1 := Off.of_below hb1; have ho1a : Off (fun x => (Value.slice A k c).ownBlock = some x) wr (w1.alloc (.cells #[.pointer (some ⟨b, 0, none⟩)] 26)) := ho1.alloc _; have hc1 := ho1.cell_some hc HNP.out; have hc1a := ho1a.cell_some hc HNP.out; have ho2 : Off (fun x => (Value.slice A k c).ownBlock = some x) wr w2 := ((Off.of_below hb1).alloc _).grown hgrow (fun b e _ => e); have hc2 := ho2.cell_some hc HNP.out; have hcf2 := (ho2.frozen (a := ⟨pb, 1, none⟩) hplt HNP.out).trans hcf))
          all_goals
            go_wp2
            go_roundw
            case rel =>
              have hst : Off (fun x => x = pb) w2 (w2.setCell ⟨pb, 1, none⟩ (.slice (some ⟨g, 0, none⟩) (k + 1) c')) := Off.setOne w2 ⟨pb, 1, none⟩ _
              have hgp : g ≠ pb := fun e => by
                rcases hat with h1 | h1
                · exact HNP.out (by rw [h1, e])
                · have h2 := hb1.size; rw [World.size_alloc] at h1; omega
              have hlt2p : pb < w2.heap.size := by have := ho2.size; omega
              refine ⟨k + 1, some ⟨g, 0, none⟩, c', updB B k b, _, by go_num, hkn, World.cell?_setCell_same' _ _ _ (by rw [hc2]; rfl), (World.frozen?_setCell ..).trans hcf2, ⟨?_, ?_⟩, ((lot_push hlot1 hgrow hat hlt2).zone hst (fun x _ e => .inl (by rw [e]; exact HPB.out))).mono (fun x hx => .inl hx), fun j hj => ?_, own_off hown2 hst (fun e => hgp (by simpa [Value.ownBlock] using e)), ?_⟩
              · have := ho2.cell_some HQ.out.1 HNP.out
                rw [World.cell?_setCell_other _ _ _ _ (by simp)]; exact this
              · have := ho2.cell_some HQ.out.2 HNP.out
                rw [World.cell?_setCell_other _ _ _ _ (by simp)]; exact this
              · by_cases e : j = k
                · subst e; rw [upd_same]
                · rw [upd_other _ _ e]; exact HP'.out j (by omega)
              · have h1 : Off (fun x => x = pb ∨ W1.heap.size ≤ x) W1 w2 := HOFF.out.trans (ho2.mono (G := fun x => x = pb ∨ W1.heap.size ≤ x) (fun x _ e => .inr (HOWN.out.lt x e).1)) (fun _ _ e => e)
                exact h1.setCell (p := ⟨pb, 1, none⟩) (fun _ => .inl rfl) _
            case measure => simp [intOf]; omega
        · have hke : k = n := by omega
          subst hke
          have hpt := ptrs_own (Z := zrow W1.heap.size (.slice A k c)) hown (by omega) (fun x hx => .inr hx)
          obtain ⟨gl, cap', he, hzg, hcells⟩ := hpt
          injection he with he1 _ he2
          subst he1 he2
          have hglt := (hown.lt gl rfl).1
          have hFl := hown.frozenAt
          have hwe := HE.out.1
          have hpe := HE.out.2
          have hwbp : ¬ (wb = pb ∨ W1.heap.size ≤ wb) := by omega
          have hbw : Below w.heap.size w wr := HBW.out.trans ((hoff.mono (G := fun k => w.heap.size ≤ k) (fun x _ e => by rcases e with e | e; { rw [e, HE.out.2]; omega }; { omega })).low (by omega))
          have hres : PeersAt wr (zrow W1.heap.size (.slice (some ⟨gl, 0, none⟩) k c)) pb k gl c wb B g ∧ Lot wr (zrow W1.heap.size (.slice (some ⟨gl, 0, none⟩) k c)) 14 k B (fun j => { n := k, me := (j : Int) + 1, slot := slot }) :=
            ⟨⟨hq02.1, hc, hq02.2, hcells, fun j hj => hoff.cell_some (HG.out j hj) hwbp, hFl, .inl hpb1, .inr rfl, .inl (by omega), by omega, by omega⟩, hlot.congr (fun _ _ => rfl) (fun j hj => (hP j hj).symm)⟩
          have HRES := hid hres
          have HBW2 := hid hbw
          clear hres hbw hcells hFl hlot hP hown hoff hq02 hwe hpe
          go_wp2
          go_ret
          exact ⟨pb, gl, c, wb, B, g, _, rfl, HRES.out.1, HRES.out.2, fun x hx => .inl (by omega), by omega, HCNT.out, HG0.out, HBW2.out⟩
end Go.Proofs.Ytkkmkkgjpmlhaaa
namespace Go.Proofs.Ytkkmkkgjpmlhaaa

/-- A number as an index of n. -/
def idx (x : Int) (n : Nat) : Nat := ((IntKind.u64.wrap x).tmod n).toNat
theorem idx_lt (x : Int) {n : Nat} (hn : 0 < n) : idx x n < n := by
  unfold idx
  have h0 : 0 ≤ IntKind.u64.wrap x := wrap_u64_nonneg x
  have h1 : (IntKind.u64.wrap x).tmod n = (IntKind.u64.wrap x) % n := Int.tmod_eq_emod_of_nonneg h0
  rw [h1]
  have h2 := Int.emod_nonneg (IntKind.u64.wrap x) (show (n : Int) ≠ 0 by omega)
  have h3 := Int.emod_lt_of_pos (IntKind.u64.wrap x) (show (0 : Int) < n by omega)
  omega

theorem idx_eq (x : Int) {n : Nat} (hn : 0 < n) : (IntKind.u64.wrap x).tmod n = (idx x n : Nat) := by
  unfold idx
  have h0 : 0 ≤ IntKind.u64.wrap x := wrap_u64_nonneg x
  have h1 : (IntKind.u64.wrap x).tmod n = (IntKind.u64.wrap x) % n := Int.tmod_eq_emod_of_nonneg h0
  have h2 := Int.emod_nonneg (IntKind.u64.wrap x) (show (n : Int) ≠ 0 by omega)
  omega

/-- What a wrong peer tells: in its own name, of this slot. -/
def forged (s : StepM) (frm : Nat) (slot : Int) : Vote := { s.vote with frm := (frm : Int) + 1, slot := slot }
/-- The core that a step is told to, behind it. -/
def stepC (n : Nat) (slot : Int) (wr : Nat → Bool) (P : Nat → CoreM) (s : StepM) : CoreM :=
  if s.kind = 0 then (if wr (idx s.frm n) = true then P (idx s.dst n) else hear notB (P (idx s.dst n)) (P (idx s.frm n)).says)
  else if s.kind = 1 then (P (idx s.dst n)).late notB
  else if s.kind = 2 then (P (idx s.dst n)).anew
  else if s.kind = 3 then (if wr (idx s.frm n) = true then ((P (idx s.dst n)).take notB (forged s (idx s.frm n) slot)).2 else P (idx s.dst n))
  else if s.kind = 4 then (P (idx s.dst n)).ask notB s.value
  else if s.kind = 5 then (if wr (idx s.frm n) = true then P (idx s.dst n) else match (P (idx s.frm n)).says[idx s.num (P (idx s.frm n)).says.length]? with
    | some v => ((P (idx s.dst n)).take notB v).2
    | none => P (idx s.dst n))
  else P (idx s.dst n)
def stepP (n : Nat) (slot : Int) (wr : Nat → Bool) (P : Nat → CoreM) (s : StepM) : Nat → CoreM := upd P (idx s.dst n) (stepC n slot wr P s)

/-- Peers of whom few are wrong, whose values are short. -/
structure Crew (n : Nat) (slot : Int) (wr : Nat → Bool) (P : Nat → CoreM) : Prop where
  peers : Peers n slot wr notB P
  lim : ∀ j, j < n → CoreM.Lim 50 (P j)
section
variable {n : Nat} {slot : Int} {wr : Nat → Bool} {P : Nat → CoreM}
theorem says_len {L : Nat} {c : CoreM} (h : CoreM.Lim L c) {x : Vote} (hx : x ∈ c.says) : x.value.length ≤ L := by
  rcases says_cases hx with rfl | ⟨p, hp, _, _, rfl⟩ | hm | hm
  · unfold CoreM.word
    split
    · exact h.value
    · exact Nat.zero_le _
  · exact (h.props _ _ hp).1
  · exact (h.preps _ _ _ (mine_mem hm).2.2.2.2).1
  · exact (h.comms _ _ _ (mine_mem hm).2.2.2.2).1
theorem Crew.loc (h : Crew n slot wr P) {j : Nat} (hj : j < n) : CoreM.Loc notB (P j) := h.peers.loc j hj
theorem Crew.fine (h : Crew n slot wr P) {j : Nat} (hj : j < n) : (P j).Fine := (h.peers.loc j hj).fine
theorem lim_upd {L : Nat} {c : CoreM} {j : Nat} (h : ∀ j, j < n → CoreM.Lim L (P j)) (hc : CoreM.Lim L c) : ∀ k, k < n → CoreM.Lim L (upd P j c k) := fun k hk => by
  unfold upd
  split
  · exact hc
  · exact h k hk
theorem Crew.take (h : Crew n slot wr P) {j : Nat} (hj : j < n) {v : Vote} (hs : Sound n wr P v) (hl : v.value.length ≤ 50) : Crew n slot wr (upd P j ((P j).take notB v).2) ∧ CoreM.Next (P j) ((P j).take notB v).2 :=
  ⟨⟨h.peers.take hj hs, lim_upd h.lim ((h.lim j hj).take hl)⟩, (CoreM.take_loc (h.loc hj) v).2⟩
theorem Crew.hear {j : Nat} (hj : j < n) : ∀ (l : List Vote) {P : Nat → CoreM}, Crew n slot wr P → (∀ v ∈ l, Sound n wr P v ∧ v.value.length ≤ 50) → Crew n slot wr (upd P j (hear notB (P j) l)) ∧ CoreM.Next (P j) (hear notB (P j) l)
  | [], P, h, _ => ⟨by unfold Ytkkmkkgjpmlhaaa.hear; rw [List.foldl_nil, upd_self]; exact h, CoreM.Next.refl _⟩
  | v :: l, P, h, hl => by
    obtain ⟨h1, h2⟩ := h.take hj (hl v List.mem_cons_self).1 (hl v List.mem_cons_self).2
    obtain ⟨h3, h4⟩ := Crew.hear hj l h1 (fun u hu => ⟨(hl u (List.mem_cons_of_mem _ hu)).1.upd h2, (hl u (List.mem_cons_of_mem _ hu)).2⟩)
    rw [upd_same, upd_upd] at h3
    rw [upd_same] at h4
    exact ⟨h3, h2.trans h4⟩
theorem Crew.anew (h : Crew n slot wr P) {j : Nat} (hj : j < n) : (P j).anew.Fine ∧ ofM (P j).n (P j).me (P j).slot (P j).bytes = some (P j).anew := by
  have hl := h.loc hj
  have hm := h.lim j hj
  exact ⟨CoreM.anew_fine hl.fine hm (by decide) (fun v y e => hl.lp v y e) (fun v y e => hl.lc v y e), CoreM.anew_of hl.fine (fun v y e => hl.lp v y e) (fun v y e => hl.lc v y e) hm.view (Nat.le_trans (hm.bytes hl.fine (by decide)) (by decide))⟩
theorem Crew.stepC (h : Crew n slot wr P) (s : StepM) (h1 : s.value.length ≤ 50) (h2 : s.vote.value.length ≤ 50) : Crew n slot wr (stepP n slot wr P s) ∧ CoreM.Next (P (idx s.dst n)) (stepC n slot wr P s) := by
  have hn : 0 < n := by have := h.peers.n4; omega
  have hf := idx_lt s.frm hn
  have hd := idx_lt s.dst hn
  have hsame : Crew n slot wr (upd P (idx s.dst n) (P (idx s.dst n))) ∧ CoreM.Next (P (idx s.dst n)) (P (idx s.dst n)) := ⟨by rw [upd_self]; exact h, CoreM.Next.refl _⟩
  unfold stepP Ytkkmkkgjpmlhaaa.stepC
  split
  · split
    · exact hsame
    · exact Crew.hear hd _ h (fun v hv => ⟨h.peers.says_sound hf hv, says_len (h.lim _ hf) hv⟩)
  split
  · exact ⟨⟨h.peers.late hd, lim_upd h.lim (h.lim _ hd).late⟩, (CoreM.late_loc (h.loc hd)).2⟩
  split
  · exact ⟨⟨h.peers.anew hd (h.anew hd).1, lim_upd h.lim ((h.lim _ hd).anew (h.fine hd))⟩, CoreM.anew_next (h.fine hd)⟩
  split
  · split
    · rename_i hw
      exact h.take hd (wrong_sound hw rfl) h2
    · exact hsame
  split
  · exact ⟨⟨h.peers.ask hd _, lim_upd h.lim ((h.lim _ hd).ask h1)⟩, (CoreM.ask_loc (h.loc hd) _).2⟩
  split
  · split
    · exact hsame
    · split
      · rename_i v hv
        have hm := List.mem_of_getElem? hv
        exact h.take hd (h.peers.says_sound hf hm) (says_len (h.lim _ hf) hm)
      · exact hsame
  · exact hsame

/-! ### The beginning -/
def crew0 (n : Nat) (slot : Int) : Nat → CoreM := fun j => { n := n, me := (j : Int) + 1, slot := slot }
end
end Go.Proofs.Ytkkmkkgjpmlhaaa
namespace Go.Proofs.Ytkkmkkgjpmlhaaa
open Go.RowKit Go.MapKept

set_option maxRecDepth 100000 in
set_option maxHeartbeats 8000000 in
theorem agree_any {w : World} {Z : Nat → Prop} {pb n lb lc wb : Nat} {B : Nat → Nat} {wg : Nat → Bool} {P : Nat → CoreM} {slot : Int} (h : PeersAt w Z pb n lb lc wb B wg) (hl : Lot w Z 14 n B P) (hc : Crew n slot wg P) (hn : n ≤ 64) :
    Calls Try.prog 29 #[.pointer (some ⟨pb, 0, none⟩)] w fun e w' => e = .returned (.bool true) ∧ Below w.heap.size w w' := by
  have p1 := h.c1
  have H := hid h
  have HL := hid hl
  have HC := hid hc
  clear h hl hc
  go_enter Try.func29, Try.ntmps29
  go_wp2
  go_loopw [14, 3, 4] (fun i s t wi => ∃ (k : Nat) (sv : List UInt8) (th : Bool), i = .int .i64 k ∧ s = .string ⟨sv.toArray⟩ ∧ t = .bool th ∧ k ≤ n ∧ Hid (th = true → ∃ j, j < n ∧ (P j).decided = true ∧ (P j).value = sv) ∧ Below w.heap.size w wi)
    (fun i _ _ _ => n - (intOf i).toNat)
  case atStart => exact ⟨0, [], false, rfl, rfl, rfl, Nat.zero_le _, hid (fun e => by cases e), Below.refl _ _⟩
  case round =>
    obtain ⟨k, sv, th, rfl, rfl, rfl, hk, HT, hb⟩ := hrel
    by_cases hkn : k < n
    · have f : ∀ (b j : Nat) (u : Value), w.cell? ⟨b, j, none⟩ = some u → wr.cell? ⟨b, j, none⟩ = some u := fun b j u hu => (hb.cell (p := ⟨b, j, none⟩) (World.block_lt_of_cell? _ _ hu)).trans hu
      have x1 := f _ _ _ (H.out.cl k hkn)
      have x2 := f _ _ _ (H.out.cw k hkn)
      have q1 := f _ _ _ H.out.c1
      have q2 := f _ _ _ H.out.c2
      obtain ⟨ρ, ci, hcore⟩ := HL.out.core hkn
      have hval := (HC.out.lim k hkn).value
      have cD := decided_any wr (hcore.below hb) (Nat.le_trans hval (by decide))
      unfold DecidedPost at cD
      obtain ⟨d, hd⟩ : ∃ d, d = (P k).decided := ⟨_, rfl⟩
      rw [← hd] at cD
      obtain ⟨x, hx⟩ : ∃ x, x = (if d = true then (P k).value else []) := ⟨_, rfl⟩
      rw [← hx] at cD
      have HD := hid (show _ ∧ _ from ⟨hd, hx⟩)
      have HB := hid hb
      obtain ⟨g, hg⟩ : ∃ g, g = wg k := ⟨_, rfl⟩
      rw [← hg] at x2
      clear hd hx hcore hval f hb hg
      cases g with
      | true =>
        go_wp2_with (go_at_call 20; refine cD.mono ?_; rintro e w5 ⟨v5, rfl, hv5, hb5⟩; obtain ⟨A5, c5, rfl, -⟩ := id hv5; have q1 := (hb5.cell (p := ⟨pb, 1, none⟩) (World.block_lt_of_cell? _ _ q1)).trans q1; have q2 := (hb5.cell (p := ⟨pb, 2, none⟩) (World.block_lt_of_cell? _ _ q2)).trans q2; have x2 := (hb5.cell (p := ⟨wb, k, none⟩) (World.block_lt_of_cell? _ _ x2)).trans x2)
        go_roundw
        case rel => exact ⟨k + 1, sv, th, by go_num, rfl, rfl, hkn, HT, HB.out.trans (hb5.mono HB.out.size)⟩
        case measure => simp [intOf]; omega
      | false =>
        cases d with
        | false =>
          go_wp2_with (go_at_call 20; refine cD.mono ?_; rintro e w5 ⟨v5, rfl, hv5, hb5⟩; obtain ⟨A5, c5, rfl, -⟩ := id hv5; have q1 := (hb5.cell (p := ⟨pb, 1, none⟩) (World.block_lt_of_cell? _ _ q1)).trans q1; have q2 := (hb5.cell (p := ⟨pb, 2, none⟩) (World.block_lt_of_cell? _ _ q2)).trans q2; have x2 := (hb5.cell (p := ⟨wb, k, none⟩) (World.block_lt_of_cell? _ _ x2)).trans x2)
          go_roundw
          case rel => exact ⟨k + 1, sv, th, by go_num, rfl, rfl, hkn, HT, HB.out.trans (hb5.mono HB.out.size)⟩
          case measure => simp [intOf]; omega
        | true =>
          obtain ⟨hd, hx⟩ := HD.out
          rw [if_pos rfl] at hx
          have hacc : notB x = true := by rw [hx]; exact HC.out.peers.accepted hkn hd.symm
          have hnew : ∃ j, j < n ∧ (P j).decided = true ∧ (P j).value = x := ⟨k, hkn, hd.symm, hx.symm⟩
          have hsame : th = true → x = sv := fun e => by
            obtain ⟨j, hj, dj, vj⟩ := HT.out e
            rw [hx, ← vj]
            exact HC.out.peers.agree hkn hj hd.symm dj
          have cN := fun (W : World) (O : Nat → Prop) (v : Value) (hv : Bs W O v x) => not_accepts.2 W O v x hv
          rw [hacc] at cN
          have HNEW := hid hnew
          clear hd hx hacc hnew HT HD
          cases th with
          | true =>
            obtain rfl := hsame rfl
            clear hsame
            go_wp2_with (first | (go_at_call 20; refine cD.mono ?_; rintro e w5 ⟨v5, rfl, hv5, hb5⟩; obtain ⟨A5, c5, rfl, -⟩ := id hv5; have q1 := (hb5.cell (p := ⟨pb, 1, none⟩) (World.block_lt_of_cell? _ _ q1)).trans q1; have q2 := (hb5.cell (p := ⟨pb, 2, none⟩) (World.block_lt_of_cell? _ _ q2)).trans q2; have x2 := (hb5.cell (p := ⟨wb, k, none⟩) (World.block_lt_of_cell? _ _ x2)).trans x2) | (go_at_call 14; refine (cN _ _ _ hv5).mono ?_; rintro e w6 ⟨rfl, hb6⟩; have k6 := (hv5.below hb6).convert))
            go_roundw
            case rel => exact ⟨k + 1, x, true, by go_num, rfl, rfl, hkn, hid (fun _ => HNEW.out), (HB.out.trans (hb5.mono HB.out.size)).trans (hb6.mono (Nat.le_trans HB.out.size hb5.size))⟩
            case measure => simp [intOf]; omega
          | false =>
            clear hsame
            go_wp2_with (first | (go_at_call 20; refine cD.mono ?_; rintro e w5 ⟨v5, rfl, hv5, hb5⟩; obtain ⟨A5, c5, rfl, -⟩ := id hv5; have q1 := (hb5.cell (p := ⟨pb, 1, none⟩) (World.block_lt_of_cell? _ _ q1)).trans q1; have q2 := (hb5.cell (p := ⟨pb, 2, none⟩) (World.block_lt_of_cell? _ _ q2)).trans q2; have x2 := (hb5.cell (p := ⟨wb, k, none⟩) (World.block_lt_of_cell? _ _ x2)).trans x2) | (go_at_call 14; refine (cN _ _ _ hv5).mono ?_; rintro e w6 ⟨rfl, hb6⟩; have k6 := (hv5.below hb6).convert))
            go_roundw
            case rel => exact ⟨k + 1, x, true, by go_num, rfl, rfl, hkn, hid (fun _ => HNEW.out), (HB.out.trans (hb5.mono HB.out.size)).trans (hb6.mono (Nat.le_trans HB.out.size hb5.size))⟩
            case measure => simp [intOf]; omega
    · have hke : k = n := by omega
      subst hke
      go_wp2
      go_ret
      exact ⟨rfl, hb⟩
end Go.Proofs.Ytkkmkkgjpmlhaaa
