/- The walk of Of. -/
import Derived.Test.YtkkmkkgjpmlhaaaV24
import Derived.Test.YtkkmkkgjpmlhaaaV13
namespace Go.Proofs.Ytkkmkkgjpmlhaaa
open Go.RowKit Go.MapKept

/-- The start of the way: a new core and a reader of the bytes. -/
theorem Way.start {w w1 : World} {ρ : Roles} {i cb fid : Nat} {c : CoreM} {Ob : Nat → Prop} {vb : Value} {l : List UInt8} (h : Made w w1 ρ i cb fid c) (hb : Bs w Ob vb l) (hfresh : ∀ k, k < w.heap.size → (ρ k).1 ≠ i) :
    Way w (w1.alloc (.cells #[vb, .bool false] 116)) ρ i cb w1.heap.size fid c (fun k => k < w.heap.size) (l, false) := by
  obtain ⟨ρ1, ha, ⟨vw, vl, vv, bp, b1, b2, b3, bs, bd, hp⟩, hbw, hge, _⟩ := h
  have hpa := hp.apart
  have ha2 : Agr w ρ (ρ1.apart i w1.heap.size) := fun k hk => by unfold Roles.apart; rw [if_pos (Nat.lt_of_lt_of_le hk hbw.size)]; exact ha k hk
  refine ⟨⟨ρ1.apart i w1.heap.size, vw, vl, vv, bp, b1, b2, b3, bs, bd, ha2, hpa.below ((Below.refl _ w1).alloc (Nat.le_refl _) _), apart_new (Nat.le_refl _)⟩, ⟨vb, heap_alloc_new w1 _, ?_⟩, hbw.alloc hbw.size _, hge, hbw.size, fun k hk => hk, hfresh⟩
  have hb1 : Bs w (fun k => k < w.heap.size) vb l := hb.mono (fun k hk _ => hk)
  exact ((hb1.below hbw).mono (O' := fun k => k ≠ w1.heap.size ∧ k < w.heap.size) (fun k hk ho => ⟨by omega, ho⟩)).below ((Below.refl _ w1).alloc (Nat.le_refl _) _)

/-- The view is laid. -/
theorem Way.view {w W : World} {ρ : Roles} {i cb br fid : Nat} {c : CoreM} {O : Nat → Prop} {r : List UInt8 × Bool} (h : Way w W ρ i cb br fid c O r) (x : Int) : Way w (W.setCell ⟨cb, 4, none⟩ (.int .i64 x)) ρ i cb br fid { c with view := x } O r :=
  h.left (fun ρ1 h1 => by obtain ⟨vw, vl, vv, bp, b1, b2, b3, bs, bd, hp⟩ := h1; exact late_close hp x)

/-- The reader's functions on the way. -/
theorem Way.four {w W : World} {ρ : Roles} {i cb br fid : Nat} {c : CoreM} {O : Nat → Prop} {r : List UInt8 × Bool} (h : Way w W ρ i cb br fid c O r) (hl : r.1.length ≤ 268435456) :
    Calls Try.prog 56 #[.pointer (some ⟨br, 0, none⟩)] W fun e w' => e = .returned (.int .i64 (fourR r).1) ∧ Way w w' ρ i cb br fid c O (fourR r).2 ∧ Off (fun k => k = br) W w' :=
  (rfour_any br r W h.reader (by omega)).mono (by rintro e w' ⟨rfl, hr, ho⟩; exact ⟨rfl, h.read hr ho, ho⟩)
theorem Way.take {w W : World} {ρ : Roles} {i cb br fid : Nat} {c : CoreM} {O : Nat → Prop} {r : List UInt8 × Bool} (h : Way w W ρ i cb br fid c O r) (hl : r.1.length ≤ 268435456) (m : Nat) :
    Calls Try.prog 58 #[.pointer (some ⟨br, 0, none⟩), .int .i64 m] W fun e w' => ∃ v', e = .returned v' ∧ Bs w' (fun k => W.heap.size ≤ k) v' (takeR r m).1 ∧ Way w w' ρ i cb br fid c O (takeR r m).2 ∧ Reader w' O br (takeR r m).2.1 (takeR r m).2.2 ∧ Off (fun k => k = br) W w' :=
  (rtake_any br r m W h.reader (by omega)).mono (by rintro e w' ⟨v', rfl, hb, hr, ho⟩; exact ⟨v', rfl, hb, h.read hr ho, hr, ho⟩)
/-- A draw on the way. -/
theorem Way.drew {w W : World} {ρ : Roles} {i cb br fid : Nat} {c : CoreM} {O : Nat → Prop} {r : List UInt8 × Bool} (h : Way w W ρ i cb br fid c O r) : Way w W.drew ρ i cb br fid c O r := h.read h.reader (Off.refl _ W).drew

/-- Whether it is decided is laid. -/
theorem Way.decided {w W : World} {ρ : Roles} {i cb br fid : Nat} {c : CoreM} {O : Nat → Prop} {r : List UInt8 × Bool} (h : Way w W ρ i cb br fid c O r) (d : Bool) : Way w (W.setCell ⟨cb, 15, none⟩ (.bool d)) ρ i cb br fid { c with decided := d } O r :=
  h.left (fun ρ1 h1 => by
    obtain ⟨vw, vl, vv, bp, b1, b2, b3, bs, bd, hp⟩ := h1
    have e2 := Off.setOne W ⟨cb, 15, none⟩ (.bool d)
    exact ⟨ρ1, Agr.refl _ _, ⟨_, _, _, _, _, _, _, _, _, hp.set e2 (Agr.refl _ _) (heap_setCell_cells hp.cells _) (bytes_own hp.wish hp.role e2 (Agr.refl _ _)) (bytes_own hp.locked hp.role e2 (Agr.refl _ _)) (bytes_own hp.value hp.role e2 (Agr.refl _ _)) ⟨rfl, rfl, rfl, rfl, rfl, rfl⟩⟩,
      e2.mono (fun k _ e => by subst e; rw [hp.role])⟩)

theorem Way.below8 {w W W1 : World} {ρ : Roles} {i cb br fid : Nat} {c : CoreM} {O : Nat → Prop} {r : List UInt8 × Bool} (h : Way w W ρ i cb br fid c O r) (hb : Below W.heap.size W W1) : Way w W1 ρ i cb br fid c O r :=
  h.read (h.reader.keep (Off.of_below (F := fun _ => False) hb) (fun f => f) (fun _ _ _ f => f)) ((Off.of_below (F := fun _ => False) hb).mono (fun _ _ f => f.elim))
/-- What a look-up of a peer's value in a view gives, be it there or not. -/
theorem Outer.find3 {w : World} {ρ : Roles} {i kind b : Nat} {t : TM} (h : Outer w ρ i kind b t) (view who : Int) :
    ∃ tv A n m, (∀ W, Below w.heap.size w W → (Instr.lookup 95 (.map (some b)) (.int .i64 view) false).run Try.prog W = .ok tv W) ∧
      (∀ W, Below w.heap.size w W → (Instr.lookup 98 tv (.int .i64 who) false).run Try.prog W = .ok (.slice A n m) W) ∧
      Bs w (fun k => ρ k = (i, 2, 0)) (.slice A n m) (((inner t view).lookup who).getD []) := by
  obtain ⟨tv, h1, h2⟩ := h.find view
  rcases h2 w (Below.refl _ _) with ⟨rfl, hn⟩ | ⟨bi, rfl, zi, hi1, hi2, hi3⟩
  · refine ⟨_, none, 0, 0, h1, fun W _ => lookup_nil Try.underlying98 Try.underlying3 (zero_bytes W) who false, ?_⟩
    rw [hn]
    exact Bs.nil _ _
  · have e : ∀ W, Below w.heap.size w W → (Instr.lookup 98 (.map (some bi)) (.int .i64 who) false).run Try.prog W = .ok (((mv (·.1) zi).lookup who).getD (.slice none 0 0)) W := fun W hW => by
      simpa using (hi1.below hW).lookup (P := Try.prog) Try.underlying98 Try.underlying3 (zero_bytes W) who false
    cases hz : zi.lookup who with
    | none =>
      refine ⟨_, none, 0, 0, h1, fun W hW => by rw [e W hW, lookup_mv, hz]; rfl, ?_⟩
      rw [hi2, lookup_mv, hz]
      exact Bs.nil _ _
    | some x =>
      obtain ⟨A, cap, hx, _⟩ := id (hi3 _ (lookup_mem hz))
      dsimp only at hx
      refine ⟨_, A, x.2.length, cap, h1, fun W hW => by rw [e W hW, lookup_mv, hz, ← hx]; rfl, ?_⟩
      rw [hi2, lookup_mv, hz, ← hx]
      exact hi3 _ (lookup_mem hz)
/-- The lock, as far as the loop has come. -/
def CoreM.lockTo (c : CoreM) (k : Nat) : CoreM := match ((CoreM.keys c.comms).take k).getLast? with
  | none => c
  | some view => { c with lock := view, locked := ((inner c.comms view).lookup c.me).getD [] }
theorem CoreM.lockTo_zero (c : CoreM) : c.lockTo 0 = c := by unfold CoreM.lockTo; rw [List.take_zero]; rfl
theorem CoreM.lockTo_all (c : CoreM) : c.lockTo (CoreM.keys c.comms).length = c.withLock := by unfold CoreM.lockTo CoreM.withLock; rw [List.take_length]; rfl
theorem CoreM.lockTo_same (c : CoreM) (k : Nat) : (c.lockTo k).comms = c.comms ∧ (c.lockTo k).me = c.me := by unfold CoreM.lockTo; split <;> exact ⟨rfl, rfl⟩
theorem CoreM.lockTo_succ (c : CoreM) {k : Nat} {view : Int} (h : (CoreM.keys c.comms)[k]? = some view) : c.lockTo (k + 1) = { c.lockTo k with lock := view, locked := ((inner c.comms view).lookup c.me).getD [] } := by
  have hk : k < (CoreM.keys c.comms).length := (List.getElem?_eq_some_iff.1 h).1
  have e : ((CoreM.keys c.comms).take (k + 1)).getLast? = some view := by
    rw [List.take_add_one, h]
    simp
  unfold CoreM.lockTo
  rw [e]
  dsimp only
  split <;> rfl

theorem Way.go {w W W1 : World} {ρ ρ1 : Roles} {i cb br fid : Nat} {c c' : CoreM} {O : Nat → Prop} {r : List UInt8 × Bool} (h : Way w W ρ i cb br fid c O r) (ha : Agr w ρ ρ1) (hbr : (ρ1 br).1 ≠ i) (hl : Left W W1 ρ1 i cb fid c') : Way w W1 ρ i cb br fid c' O r := by
  obtain ⟨ρ2, k1, ⟨vw', vl', vv', bp', b1', b2', b3', bs', bd', k2⟩, k3⟩ := hl
  have hltr := h.reader.bad.2.2
  exact ⟨⟨ρ2, vw', vl', vv', bp', b1', b2', b3', bs', bd', ha.trans k1 h.below.size, k2, by rw [k1 br hltr]; exact hbr⟩,
    h.reader.keep k3 hbr (fun k _ hk e => h.fresh k (h.old k hk) (by rw [← ha k (h.old k hk)]; exact e)),
    h.below.trans ((k3.mono (G := fun k => w.heap.size ≤ k) (fun k _ e => Nat.not_lt.1 fun hk => h.fresh k hk (by rw [← ha k hk]; exact e))).low h.below.size), h.cb0, h.br0, h.old, h.fresh⟩
theorem lock_rel {w W : World} {ρ ρ2 : Roles} {i cb br fid : Nat} {c : CoreM} {O : Nat → Prop} {r : List UInt8 × Bool} {vw vl vv : Value} {bp b1 b2 b3 bs bd k : Nat} {view me : Int} {A : Option Addr} {n m : Nat} {ks : List Int}
    (hks : CoreM.keys c.comms = ks) (hme : c.me = me) (hk : ks[k]? = some view) (h : Way w W ρ i cb br fid (c.lockTo k) O r) (hp : Parts W ρ2 i cb fid (c.lockTo k) vw vl vv bp b1 b2 b3 bs bd) (ha : Agr w ρ ρ2 ∧ (ρ2 br).1 ≠ i)
    (hb : Bs W (fun k => ρ2 k = (i, 2, 0)) (.slice A n m) (((inner (c.lockTo k).comms view).lookup me).getD [])) :
    Way w ((W.setCell ⟨cb, 13, none⟩ (.int .i64 view)).setCell ⟨cb, 14, none⟩ (.slice A n m)) ρ i cb br fid (c.lockTo (k + 1)) O r := by
  subst hks hme
  rw [CoreM.lockTo_succ c hk]
  rw [(CoreM.lockTo_same c k).1] at hb
  refine h.go ha.1 ha.2 ?_
  have e2 : Off (fun k => k = cb) W ((W.setCell ⟨cb, 13, none⟩ (.int .i64 view)).setCell ⟨cb, 14, none⟩ (.slice A n m)) := Off.setCell (F := fun k => k = cb) (Off.setCell (F := fun k => k = cb) (Off.refl (fun k => k = cb) W) (fun _ => rfl) _) (fun _ => rfl) _
  exact ⟨ρ2, Agr.refl _ _, ⟨_, _, _, _, _, _, _, _, _, hp.set e2 (Agr.refl _ _) (heap_setCell_cells (heap_setCell_cells hp.cells _) _) (bytes_own hp.wish hp.role e2 (Agr.refl _ _)) (bytes_own hb hp.role e2 (Agr.refl _ _)) (bytes_own hp.value hp.role e2 (Agr.refl _ _)) ⟨rfl, rfl, rfl, rfl, rfl, rfl⟩⟩,
    e2.mono (fun k _ e => by subst e; rw [hp.role])⟩
/-- Other roles of blocks that aren't the owner's. -/
theorem Parts.more {W : World} {ρ ρ' : Roles} {i cb fid : Nat} {c : CoreM} {vw vl vv : Value} {bp b1 b2 b3 bs bd : Nat} (h : Parts W ρ i cb fid c vw vl vv bp b1 b2 b3 bs bd) (hr : ∀ k, (ρ k).1 = i → ρ' k = ρ k) : Parts W ρ' i cb fid c vw vl vv bp b1 b2 b3 bs bd := by
  have e : ∀ k x, ρ k = (i, x) → ρ' k = (i, x) := fun k x hk => (hr k (by rw [hk])).trans hk
  have out : ∀ kind b t, Outer W ρ i kind b t → Outer W ρ' i kind b t := fun kind b t ho => by
    obtain ⟨h0, z, h1, h2, h3⟩ := ho
    exact ⟨e b _ h0, z, h1, h2, fun p hp => ⟨e _ _ (h3 p hp).1, (h3 p hp).2.mono (fun k _ hk => e k _ hk)⟩⟩
  obtain ⟨h0, z, h1, h2, h3⟩ := h.props
  exact {
    role := e cb _ h.role
    cells := h.cells
    wish := h.wish.mono (fun k _ hk => e k _ hk)
    locked := h.locked.mono (fun k _ hk => e k _ hk)
    value := h.value.mono (fun k _ hk => e k _ hk)
    props := ⟨e bp _ h0, z, h1, h2, fun p hp => (h3 p hp).mono (fun k _ hk => e k _ hk)⟩
    preps := out _ _ _ h.preps
    comms := out _ _ _ h.comms
    turns := out _ _ _ h.turns
    seen := ⟨e bs _ h.seen.1, h.seen.2⟩
    decs := ⟨e bd _ h.decs.1, h.decs.2.mono (fun k _ hk => e k _ hk)⟩ }
/-- The new blocks all become the owner's. -/
def Roles.claim (ρ ρ' : Roles) (i n : Nat) : Roles := fun k => if k < n then ρ k else if (ρ' k).1 = i then ρ' k else (i, 99, 0)
theorem claim_old {ρ ρ' : Roles} {i n k : Nat} (h : k < n) : ρ.claim ρ' i n k = ρ k := if_pos h
theorem claim_new {ρ ρ' : Roles} {i n k : Nat} (h : n ≤ k) : (ρ.claim ρ' i n k).1 = i := by
  unfold Roles.claim
  rw [if_neg (Nat.not_lt.2 h)]
  split
  · assumption
  · rfl
theorem Parts.claim {W : World} {ρ ρ' : Roles} {i n cb fid : Nat} {c : CoreM} {vw vl vv : Value} {bp b1 b2 b3 bs bd : Nat} (h : Parts W ρ' i cb fid c vw vl vv bp b1 b2 b3 bs bd) (ha : ∀ k, k < n → ρ' k = ρ k) : Parts W (ρ.claim ρ' i n) i cb fid c vw vl vv bp b1 b2 b3 bs bd :=
  h.more (fun k hk => by
    unfold Roles.claim
    split
    · rename_i h1; exact (ha k h1).symm
    · rfl)
/-- What a thing that a core does leaves; the new blocks are its own. -/
theorem Left.norm {w w' : World} {ρ : Roles} {i b fid : Nat} {c : CoreM} (h : Left w w' ρ i b fid c) : ∃ ρ', Agr w ρ ρ' ∧ CoreAt w' ρ' i b fid c ∧ Off (fun k => (ρ k).1 = i) w w' ∧ ∀ k, w.heap.size ≤ k → (ρ' k).1 = i := by
  obtain ⟨ρ', ha, ⟨_, _, _, _, _, _, _, _, _, hp⟩, ho⟩ := h
  exact ⟨ρ.claim ρ' i w.heap.size, fun k hk => claim_old hk, ⟨_, _, _, _, _, _, _, _, _, hp.claim ha⟩, ho, fun k hk => claim_new hk⟩
theorem Way.made {w W : World} {ρ : Roles} {i cb br fid : Nat} {c : CoreM} {O : Nat → Prop} {r : List UInt8 × Bool} (h : Way w W ρ i cb br fid c O r) : Made w W ρ i cb fid c := by
  obtain ⟨ρ', _, _, _, _, _, _, _, _, _, ha, hp, _⟩ := h.core
  exact ⟨ρ.claim ρ' i w.heap.size, fun k hk => claim_old hk, ⟨_, _, _, _, _, _, _, _, _, hp.claim ha⟩, h.below, h.cb0, fun k hk => claim_new hk⟩
set_option maxRecDepth 100000 in
set_option maxHeartbeats 8000000 in
theorem of_slice (ρ : Roles) (i0 fid : Nat) (n me slot : Int) {Ob : Nat → Prop} {A : Option Addr} {m k : Nat} {l : List UInt8} (w : World) (h : 4 ≤ n ∧ n ≤ 64 ∧ 1 ≤ me ∧ me ≤ n ∧ 0 ≤ slot ∧ slot ≤ 256) (hb : Bs w Ob (.slice A m k) l) (hl : l.length ≤ 268435456) (hfresh : ∀ k, k < w.heap.size → (ρ k).1 ≠ i0) :
    Calls Try.prog 24 #[.int .i64 n, .int .i64 me, .int .i64 slot, .func (.func fid) #[] #[], .slice A m k] w (OfPost w ρ i0 fid (ofM n me slot l)) := by
  have H := hid h
  have HF := hid hfresh
  have HL := hid hl
  have hB := hid hb
  clear hb hfresh hl h
  go_enter Try.func24, Try.ntmps24
  go_wp2_with (go_at_call 13; refine (new_any ρ i0 fid n me slot w H.out).mono ?_; rintro e w1 ⟨cb, rfl, hmade⟩)
  have hs := Way.start hmade hB.out HF.out
  have hszb : w.heap.size ≤ w1.heap.size := by obtain ⟨_, _, _, hbw, _⟩ := hmade; exact hbw.size
  generalize (w1.alloc (Obj.cells #[Value.slice A m k, Value.bool false] 116)) = W at hs ⊢
  generalize w1.heap.size = br at hs hszb ⊢
  clear hmade
  have c1 := hs.four HL.out
  have hl1 : (fourR (l, false)).2.1.length ≤ 268435456 := Nat.le_trans (fourR_len _) HL.out
  have hlt1 := fourR_lt (l, false)
  have hme : 0 ≤ me ∧ me ≤ 4294967296 := by have := H.out; omega
  clear hs
  obtain ⟨a, ha⟩ : ∃ a, a = fourR (l, false) := ⟨_, rfl⟩
  have HA := hid ha
  rw [← ha] at c1 hl1 hlt1
  clear ha
  go_at_call 56
  refine c1.mono ?_
  rintro e W1 ⟨rfl, hw1, -⟩
  obtain ⟨g0, g1, -⟩ := hw1.cell
  dsimp only at g0
  have hv1 := hw1.view a.1
  have hf1 : ({ n := n, me := me, slot := slot, view := (a.1 : Int) } : CoreM).Fine := read_fine ⟨a.1, [], [], [], [], ([], false)⟩ H.out TMFine.nil TMFine.nil (Nat.zero_le _) hlt1
  obtain ⟨bm, hg, cP⟩ := hv1.preps hf1 hl1
  have g8 : W1.cell? ⟨cb, 8, none⟩ = some (.map (some bm)) := by rw [← hg]; exact (World.cell?_setCell_other _ _ _ _ (by simp)).symm
  obtain ⟨hp0, hp1⟩ := votesR_fine (me := me) (vmax := a.1) hme (fourR a.2).1 (-1) [] (fourR a.2).2 TMFine.nil (Nat.le_trans (fourR_len _) hl1)
  dsimp only at cP
  clear hv1 hw1 hg hf1 c1
  go_wp2_with fail
  obtain ⟨p, hp⟩ : ∃ p, p = votesR me a.1 (fourR a.2).1 (-1) [] (fourR a.2).2 := ⟨_, rfl⟩
  have HP := hid hp
  rw [← hp] at cP hp0 hp1
  clear hp
  have hlp : p.2.1.length ≤ 268435456 := by have := fourR_len a.2; have : tsize [] = 0 := rfl; omega
  go_at_call 57
  refine cP.mono ?_
  rintro e W2 ⟨rfl, hw2⟩
  have hf2 : ({ n := n, me := me, slot := slot, view := (a.1 : Int), preps := p.1 } : CoreM).Fine := read_fine ⟨a.1, p.1, [], [], [], ([], false)⟩ H.out hp0 TMFine.nil (Nat.zero_le _) hlt1
  obtain ⟨bn, g9, cQ⟩ := hw2.comms hf2 hlp
  obtain ⟨hq0, hq1⟩ := votesR_fine (me := me) (vmax := a.1) hme (fourR p.2).1 (-1) [] (fourR p.2).2 TMFine.nil (Nat.le_trans (fourR_len _) hlp)
  obtain ⟨q, hq⟩ : ∃ q, q = votesR me a.1 (fourR p.2).1 (-1) [] (fourR p.2).2 := ⟨_, rfl⟩
  have HQ := hid hq
  dsimp only at cQ
  rw [← hq] at cQ hq0 hq1
  clear hq
  have hlq : q.2.1.length ≤ 268435456 := by have := fourR_len p.2; have : tsize [] = 0 := rfl; omega
  clear hw2 hf2 cP
  go_wp2_with fail
  go_at_call 57
  refine cQ.mono ?_
  rintro e W3 ⟨rfl, hw3⟩
  clear cQ g9 g0 g1 g8
  have cT := hw3.take hlq 1
  have hcb3 : cb < W3.heap.size ∧ br < W3.heap.size ∧ cb ≠ br := by obtain ⟨_, _, _, _, _, _, _, _, _, _, _, hp3, h3⟩ := hw3.core; exact ⟨hp3.lt, hw3.reader.bad.2.2, fun e => by subst e; rw [hp3.role] at h3; exact h3 rfl⟩
  obtain ⟨⟨kd, t2⟩, ht⟩ : ∃ t, t = takeR q.2 1 := ⟨_, rfl⟩
  have HT := hid ht
  have hlt3 := takeR_len q.2 1
  have hkl : (takeR q.2 1).1.length ≤ 1 := by unfold takeR; split <;> simp <;> omega
  rw [← ht] at cT hlt3 hkl
  dsimp only at cT hlt3 hkl
  rw [show ((1 : Nat) : Int) = 1 from rfl] at cT
  clear hw3 ht
  go_wp2_with fail
  go_at_call 58
  refine cT.mono ?_
  rintro e W4 ⟨vk, rfl, hk4, hw4, -, ho4⟩
  obtain ⟨Ak, ck, rfl, -⟩ := id hk4
  have cF := hw4.four (Nat.le_trans hlt3.1 hlq)
  obtain ⟨d, hd⟩ : ∃ d, d = fourR t2 := ⟨_, rfl⟩
  have HD := hid hd
  have hld := fourR_len t2
  rw [← hd] at cF hld
  clear hd cT
  go_wp2_with fail
  go_at_call 56
  refine cF.mono ?_
  rintro e W5 ⟨rfl, hw5, ho5⟩
  have cV := hw5.take (Nat.le_trans hld (Nat.le_trans hlt3.1 hlq)) d.1
  obtain ⟨v, hv⟩ : ∃ v, v = takeR d.2 d.1 := ⟨_, rfl⟩
  have HV := hid hv
  have hlv := takeR_len d.2 d.1
  rw [← hv] at cV hlv
  clear hv cF
  have hR : readAll me l = ⟨a.1, p.1, q.1, kd, v.1, v.2⟩ := by
    unfold readAll
    dsimp only
    rw [← HA.out, ← HP.out, ← HQ.out, ← HT.out, ← HD.out, ← HV.out]
  have HR := hid hR
  clear hR
  go_wp2_with fail
  go_at_call 58
  refine cV.mono ?_
  rintro e W6 ⟨v6, rfl, hb6, hw6, hr6, ho6⟩
  obtain ⟨g4, -, g15, f15, ⟨vv0, g16⟩, f16, -, ⟨b2, g9⟩⟩ := hw6.cell
  dsimp only at g4 g15
  have r1 := hr6.bad
  obtain ⟨rb, rf, _⟩ := r1
  obtain ⟨A6, c6, rfl, -⟩ := id hb6
  have hway := hw5.value hb6 hr6 ho6
  dsimp only at hway
  have hk6 : Bs W6 (fun k => W3.heap.size ≤ k) (.slice Ak kd.length ck) kd := (hk4.keep ho5 (fun k _ hk e => by subst e; have := hcb3.2.1; omega)).keep ho6 (fun k _ hk e => by subst e; have := hcb3.2.1; omega)
  have hne1 := hcb3.2.2
  have hne2 : br ≠ cb := fun e => hne1 e.symm
  have HW := hid hway
  have HK := hid hk6
  clear hway hk6 hk4 hw4 hw5 hw6 hb6 hr6 ho6 ho5 ho4 cV
  cases hbad : v.2.2 with
  | true =>
    rw [hbad] at rb
    have hnone : ofM n me slot l = none := by unfold ofM; rw [if_pos]; unfold Read.wrong; rw [HR.out]; simp [hbad]
    have HN := hid hnone
    clear hnone hbad
    go_wp2
    go_ret2
    exact (by rw [HN.out]; exact ⟨rfl, HW.out.below⟩)
  | false =>
    rw [hbad] at rb
    by_cases hvw : (1048576 : Int) < (a.1 : Int)
    · have hvn : 1048576 < a.1 := by omega
      have hnone : ofM n me slot l = none := by unfold ofM; rw [if_pos]; unfold Read.wrong; rw [HR.out]; simp [hvw]
      have HN := hid hnone
      clear hnone hbad
      go_wp2
      go_ret2
      exact (by rw [HN.out]; exact ⟨rfl, HW.out.below⟩)
    · have hvn : ¬ 1048576 < a.1 := by omega
      rcases kd with _ | ⟨x, _ | ⟨y, kd⟩⟩
      · have hnone : ofM n me slot l = none := by unfold ofM; rw [if_pos]; unfold Read.wrong; rw [HR.out]; simp
        have HN := hid hnone
        clear hnone hbad
        go_wp2
        go_ret2
        exact (by rw [HN.out]; exact ⟨rfl, HW.out.below⟩)
      · obtain ⟨_, _, e0, -, -, hkc0⟩ := HK.out
        injection e0 with e1 e2 e3
        subst e1
        subst e3
        obtain ⟨gk, ok, rfl, hgk, hkc⟩ := hkc0 (by simp)
        clear hkc0 e2
        have k0 := hkc 0 x rfl
        have hn3 : gk ≠ cb := by have := hcb3.1; omega
        have hn4 : cb ≠ gk := fun e => hn3 e.symm
        have hxn : x.toNat < 256 := x.toNat_lt
        simp only [Nat.add_zero] at k0
        by_cases hx1 : (1 : Int) < (x.toNat : Int)
        · have hx2 : 1 < x.toNat := by omega
          have hnone : ofM n me slot l = none := by unfold ofM; rw [if_pos]; unfold Read.wrong; rw [HR.out]; simp [hx2]
          have HN := hid hnone
          clear hnone hbad hkc
          go_wp2
          go_ret2
          exact (by rw [HN.out]; exact ⟨rfl, HW.out.below⟩)
        · have hx2 : ¬ 1 < x.toNat := by omega
          have hnw : (readAll me l).wrong = false := by unfold Read.wrong; rw [HR.out]; simp [hbad, hvn]; omega
          have HNW := hid hnw
          have hx4 : decide ((1 : Int) < (x.toNat : Int)) = false := by simpa using hx1
          have hv4 : decide ((1048576 : Int) < (a.1 : Int)) = false := by simpa using hvw
          have hx3 : ((x.toNat : Int) == 1) = (x == 1) := by
            rw [Bool.eq_iff_iff]; simp only [beq_iff_eq]
            constructor
            · intro e; exact UInt8.toNat_inj.1 (by simpa using Int.ofNat.inj e)
            · rintro rfl; rfl
          obtain ⟨dv, hdv⟩ : ∃ dv, dv = (x == 1) := ⟨_, rfl⟩
          rw [← hdv] at hx3
          have HDV := hid hdv
          clear hkc hx1 hx2 hvw hvn hbad hnw hdv
          go_wp2_with fail
          have hc0 := HW.out.decided dv
          have g97 : ((W6.setCell ⟨cb, 16, none⟩ (.slice A6 v.1.length c6)).setCell ⟨cb, 15, none⟩ (.bool dv)).cell? ⟨cb, 9, none⟩ = some (.map (some b2)) := by rw [World.cell?_setCell_other _ _ _ _ (by simp), World.cell?_setCell_other _ _ _ _ (by simp)]; exact g9
          clear HW HK g9 g16 g15 g4 f16 f15 rb rf k0 hx3 hx4 hv4
          generalize ((W6.setCell ⟨cb, 16, none⟩ (.slice A6 v.1.length c6)).setCell ⟨cb, 15, none⟩ (.bool dv)) = W7 at g97 hc0 ⊢
          have hcore : ({ n := n, me := me, slot := slot, view := (a.1 : Int), preps := p.1, comms := q.1, decided := dv, value := v.1 } : CoreM) = (readAll me l).core n me slot := by rw [HR.out]; unfold Read.core; rw [HDV.out]; rfl
          dsimp only at hc0
          rw [hcore] at hc0
          have hf0 : ((readAll me l).core n me slot).Fine := core_fine H.out HL.out
          have hlen := ofCore_len H.out HL.out
          have hofm : ofM n me slot l = if ((readAll me l).core n me slot).withLock.bytes == l then some ((readAll me l).core n me slot).withLock else none := by unfold ofM; rw [HNW.out]; rfl
          have hB7 := (hB.out.mono (O' := fun k => k < w.heap.size) (fun k hk _ => hk)).below hc0.below
          have hme0 : ((readAll me l).core n me slot).me = me := rfl
          generalize (readAll me l).core n me slot = c0 at hc0 hf0 hlen hofm hme0
          obtain ⟨ρ1, vw7, vl7, vv7, bp7, b17, b27, b37, bs7, bd7, ha7, hp7, hbr7⟩ := id hc0.core
          have e9 := hp7.cell 9
          simp only [coreCells, List.getElem?_toArray, List.getElem?_cons_zero, List.getElem?_cons_succ] at e9
          rw [g97] at e9
          injection e9 with e9; injection e9 with e9; injection e9 with e9
          subst e9
          obtain ⟨hr7, z, h17, hz2, h37⟩ := id hp7.comms
          have hk0 : KeysOk z := by have := hf0.comms.1.ok; rw [hz2] at this; exact this.mv
          have cS := sortedM_any b2 _ W7 h17 (by simpa [mv] using hk0.1) hk0.to_mv.2
          rw [show SortedPost W7 (mv (fun x : Nat × List (Int × List UInt8) => Value.map (some x.1)) z) = SortedPost W7 z from by unfold SortedPost; rw [keys_mv]] at cS
          have hL : (CoreM.keys z).length ≤ 17592186044416 := by rw [length_keys]; exact hk0.1
          have hkk : CoreM.keys c0.comms = CoreM.keys z := by rw [hz2, keys_mv]
          have hcb7 := hp7.lt
          have HKK := hid hkk
          have HOFM := hid hofm
          have HLEN := hid hlen
          have HME := hid hme0
          have HC0 := hid hc0
          have HB7 := hid hB7
          clear h17 h37 hr7 ha7 hp7 hbr7 hkk hz2 hk0 g97 HR HNW HDV hcore hofm hlen hc0 hB7 HA HP HQ HT HD HV hme0
          go_wp2_with (first | (go_at_call 60; refine (keysM_any _ _).mono ?_; rintro e w' ⟨rfl, rfl⟩) | (go_at_call 59; refine cS.mono ?_; rintro e W8 ⟨vz, rfl, hz1, hb8⟩; obtain ⟨Az, cap, rfl, hcap, hcells⟩ := id hz1))
          have HZ := hid hcells
          clear hcells hz1 cS
          go_loopw [91] (fun i wr => ∃ k : Nat, i = .int .i64 k ∧ k ≤ (CoreM.keys z).length ∧ Way w wr ρ i0 cb br fid (c0.lockTo k) (fun k => k < w.heap.size) v.2 ∧ Off (fun k => k = cb) W8 wr)
            (fun i _ => (CoreM.keys z).length - (intOf i).toNat)
          case atStart => exact ⟨0, rfl, Nat.zero_le _, by rw [CoreM.lockTo_zero]; exact HC0.out.below8 hb8, Off.refl _ _⟩
          case round =>
            obtain ⟨k', rfl, hkl', hway, hoff⟩ := hrel
            by_cases hlt2 : k' < (CoreM.keys z).length
            · obtain ⟨bz, rfl, hbz, hcell⟩ := HZ.out (by omega)
              obtain ⟨view, hvw⟩ : ∃ view, (CoreM.keys z)[k']? = some view := ⟨_, List.getElem?_eq_getElem hlt2⟩
              have hbzn : ¬ bz = cb := fun e => by omega
              have gz : wr.cell? ⟨bz, k', none⟩ = some (.int .i64 view) := hoff.cell_some (hcell k' view hvw) hbzn
              obtain ⟨ρ2, vw9, vl9, vv9, bp9, b19, b29, b39, bs9, bd9, ha9, hp9, hbr9⟩ := id hway.core
              have d9 := hp9.cell 9
              have d13 := hp9.cell 13
              have d14 := hp9.cell 14
              have f13 := hp9.frozen 13
              have f14 := hp9.frozen 14
              simp only [coreCells, List.getElem?_toArray, List.getElem?_cons_zero, List.getElem?_cons_succ] at d9 d13 d14
              obtain ⟨tv, A9, n9, m9, hl1, hl2, hbs9⟩ := hp9.comms.find3 view me
              have l1 := hl1 wr (Below.refl _ _)
              have l2 := hl2 wr (Below.refl _ _)
              have hbr9' : Agr w ρ ρ2 ∧ (ρ2 br).1 ≠ i0 := ⟨ha9, hbr9⟩
              have HBS := hid hbs9
              have HWAY := hid hway
              have HOFF := hid hoff
              have HVW := hid hvw
              have HP9 := hid hp9
              have HA9 := hid hbr9'
              clear hcell hl1 hl2 hbs9 hway hp9 hbr9 hbr9' ha9 hoff hvw
              go_wp2_with fail
              go_roundw
              case rel => exact ⟨k' + 1, by go_num, hlt2, lock_rel HKK.out HME.out HVW.out HWAY.out HP9.out HA9.out HBS.out, Off.setCell (Off.setCell HOFF.out (fun _ => rfl) _) (fun _ => rfl) _⟩
              case measure => simp [intOf]; omega
            · have hke : k' = (CoreM.keys z).length := by omega
              subst hke
              have hfin : Way w wr ρ i0 cb br fid c0.withLock (fun k => k < w.heap.size) v.2 := by rw [← CoreM.lockTo_all, HKK.out]; exact hway
              obtain ⟨ρ2, vw9, vl9, vv9, bp9, b19, b29, b39, bs9, bd9, ha9, hp9, hbr9⟩ := id hfin.core
              have cB := bytes_any wr ⟨_, _, _, _, _, _, _, _, _, hp9⟩ (withLock_fine hf0) HLEN.out
              have HFIN := hid hfin
              have HBX := hid ((hB.out.mono (O' := fun k => k < w.heap.size) (fun k hk _ => hk)).below hfin.below)
              clear hway hfin hp9 ha9 hbr9 hoff
              cases heq : (c0.withLock.bytes == l) with
              | false =>
                have hnone : ofM n me slot l = none := by rw [HOFM.out, heq]; rfl
                have HN := hid hnone
                clear hnone
                go_wp2_with (first | (go_at_call 15; refine cB.mono ?_; rintro e W9 ⟨vB, rfl, hown, hbB⟩; have cE := equal_any W9 hown.bs (HBX.out.below hbB); rw [heq] at cE) | (go_at_call 61; refine cE.mono ?_; rintro e W10 ⟨rfl, rfl⟩))
                go_ret2
                exact (by rw [HN.out]; exact ⟨rfl, HFIN.out.below.trans (hbB.mono HFIN.out.below.size)⟩)
              | true =>
                have hsome : ofM n me slot l = some c0.withLock := by rw [HOFM.out, heq]; rfl
                have HN := hid hsome
                clear hsome
                go_wp2_with (first | (go_at_call 15; refine cB.mono ?_; rintro e W9 ⟨vB, rfl, hown, hbB⟩; have cE := equal_any W9 hown.bs (HBX.out.below hbB); rw [heq] at cE) | (go_at_call 61; refine cE.mono ?_; rintro e W10 ⟨rfl, rfl⟩))
                go_ret2
                exact (by rw [HN.out]; exact ⟨cb, rfl, (HFIN.out.below8 hbB).made⟩)
      · simp at hkl
theorem of_any (ρ : Roles) (i fid : Nat) (n me slot : Int) {Ob : Nat → Prop} {v : Value} {l : List UInt8} (w : World) (h : 4 ≤ n ∧ n ≤ 64 ∧ 1 ≤ me ∧ me ≤ n ∧ 0 ≤ slot ∧ slot ≤ 256) (hb : Bs w Ob v l) (hl : l.length ≤ 268435456) (hfresh : ∀ k, k < w.heap.size → (ρ k).1 ≠ i) :
    Calls Try.prog 24 #[.int .i64 n, .int .i64 me, .int .i64 slot, .func (.func fid) #[] #[], v] w (OfPost w ρ i fid (ofM n me slot l)) := by
  obtain ⟨A, k, rfl, _⟩ := id hb
  exact of_slice ρ i fid n me slot w h hb hl hfresh
end Go.Proofs.Ytkkmkkgjpmlhaaa
