/- Of: a core that begins anew. -/
import Derived.Test.YtkkmkkgjpmlhaaaOfk
namespace Go.Proofs.Ytkkmkkgjpmlhaaa
open Go.RowKit Go.MapKept

def OfPost (w : World) (ρ : Roles) (i fid : Nat) (o : Option CoreM) (e : Ending) (w' : World) : Prop :=
  match o with
  | none => e = .returned (.tuple #[.pointer none, .int .i64 3]) ∧ Below w.heap.size w w'
  | some c => ∃ b, e = .returned (.tuple #[.pointer (some ⟨b, 0, none⟩), .int .i64 0]) ∧ Made w w' ρ i b fid c

/-- A core and a reader on the way: what has changed since w is new. -/
structure Way (w W : World) (ρ : Roles) (i cb br fid : Nat) (c : CoreM) (O : Nat → Prop) (r : List UInt8 × Bool) : Prop where
  core : ∃ ρ1 vw vl vv bp b1 b2 b3 bs bd, Agr w ρ ρ1 ∧ Parts W ρ1 i cb fid c vw vl vv bp b1 b2 b3 bs bd ∧ (ρ1 br).1 ≠ i
  reader : Reader W O br r.1 r.2
  below : Below w.heap.size w W
  cb0 : w.heap.size ≤ cb
  br0 : w.heap.size ≤ br
  old : ∀ k, O k → k < w.heap.size
  fresh : ∀ k, k < w.heap.size → (ρ k).1 ≠ i

section
variable {w W W1 : World} {ρ : Roles} {i cb br fid : Nat} {c c' : CoreM} {O : Nat → Prop} {r r' : List UInt8 × Bool}
/-- The reader has read. -/
theorem Way.read (h : Way w W ρ i cb br fid c O r) (hr : Reader W1 O br r'.1 r'.2) (ho : Off (fun k => k = br) W W1) : Way w W1 ρ i cb br fid c O r' := by
  obtain ⟨ρ1, vw, vl, vv, bp, b1, b2, b3, bs, bd, ha, hp, hbr⟩ := h.core
  exact ⟨⟨ρ1, vw, vl, vv, bp, b1, b2, b3, bs, bd, ha, hp.keep ho (Agr.refl _ _) (fun k _ e => by subst e; exact hbr), hbr⟩, hr,
    h.below.trans ((ho.mono (G := fun k => w.heap.size ≤ k) (fun k _ e => by subst e; exact h.br0)).low h.below.size), h.cb0, h.br0, h.old, h.fresh⟩
/-- The core has changed. -/
theorem Way.left (h : Way w W ρ i cb br fid c O r) (hl : ∀ ρ1, CoreAt W ρ1 i cb fid c → Left W W1 ρ1 i cb fid c') : Way w W1 ρ i cb br fid c' O r := by
  obtain ⟨ρ1, vw, vl, vv, bp, b1, b2, b3, bs, bd, ha, hp, hbr⟩ := h.core
  obtain ⟨ρ2, k1, ⟨vw', vl', vv', bp', b1', b2', b3', bs', bd', k2⟩, k3⟩ := hl ρ1 ⟨vw, vl, vv, bp, b1, b2, b3, bs, bd, hp⟩
  have hltr := h.reader.bad.2.2
  exact ⟨⟨ρ2, vw', vl', vv', bp', b1', b2', b3', bs', bd', ha.trans k1 h.below.size, k2, by rw [k1 br hltr]; exact hbr⟩,
    h.reader.keep k3 hbr (fun k _ hk e => h.fresh k (h.old k hk) (by rw [← ha k (h.old k hk)]; exact e)),
    h.below.trans ((k3.mono (G := fun k => w.heap.size ≤ k) (fun k _ e => Nat.not_lt.1 fun hk => h.fresh k hk (by rw [← ha k hk]; exact e))).low h.below.size), h.cb0, h.br0, h.old, h.fresh⟩
theorem Way.cell (h : Way w W ρ i cb br fid c O r) : W.cell? ⟨cb, 4, none⟩ = some (.int .i64 c.view) ∧ W.frozen? ⟨cb, 4, none⟩ = false ∧ W.cell? ⟨cb, 15, none⟩ = some (.bool c.decided) ∧ W.frozen? ⟨cb, 15, none⟩ = false ∧ (∃ vv, W.cell? ⟨cb, 16, none⟩ = some vv) ∧ W.frozen? ⟨cb, 16, none⟩ = false ∧
    (∃ b1, W.cell? ⟨cb, 8, none⟩ = some (.map (some b1))) ∧ (∃ b2, W.cell? ⟨cb, 9, none⟩ = some (.map (some b2))) := by
  obtain ⟨ρ1, vw, vl, vv, bp, b1, b2, b3, bs, bd, ha, hp, hbr⟩ := h.core
  exact ⟨hp.cell 4, hp.frozen 4, hp.cell 15, hp.frozen 15, ⟨vv, hp.cell 16⟩, hp.frozen 16, ⟨b1, hp.cell 8⟩, ⟨b2, hp.cell 9⟩⟩
/-- Votes are read into a map. -/
theorem Way.preps (h : Way w W ρ i cb br fid c O r) (hf : c.Fine) (hl : r.1.length ≤ 16777216) : ∃ bm, W.cell? ⟨cb, 8, none⟩ = some (.map (some bm)) ∧
    Calls Try.prog 57 #[.pointer (some ⟨br, 0, none⟩), .pointer (some ⟨cb, 0, none⟩), .map (some bm)] W fun e w' => e = .returned (.tuple #[]) ∧
      Way w w' ρ i cb br fid { c with preps := (votesR c.me c.view (fourR r).1 (-1) c.preps (fourR r).2).1 } O (votesR c.me c.view (fourR r).1 (-1) c.preps (fourR r).2).2 := by
  obtain ⟨ρ1, vw, vl, vv, bp, b1, b2, b3, bs, bd, ha, hp, hbr⟩ := h.core
  refine ⟨b1, hp.cell 8, (votes_any (O := O) r W (by omega) hp.cells hp.role rfl rfl hp.preps h.reader hbr (fun k hk => ⟨Nat.lt_of_lt_of_le (h.old k hk) h.below.size, by rw [ha k (h.old k hk)]; exact h.fresh k (h.old k hk)⟩) hl ⟨by have := hf.ok.view0; omega, hf.ok.view1⟩).mono ?_⟩
  rintro e w' ⟨rfl, ρ', k1, k2, k3, k4⟩
  have hltr := h.reader.bad.2.2
  have hpn := hp.preps_read k4 k1 (fun k _ hk e => by rcases hk with rfl | ⟨_, e2⟩; { exact absurd e hbr }; { exact e2 }) k2
  exact ⟨rfl, ⟨ρ', vw, vl, vv, bp, b1, b2, b3, bs, bd, ha.trans k1 h.below.size, hpn, by rw [k1 br hltr]; exact hbr⟩, k3,
    h.below.trans ((k4.mono (G := fun k => w.heap.size ≤ k) (fun k _ e => Nat.not_lt.1 fun hk => by rcases e with rfl | ⟨e, _⟩; { have := h.br0; omega }; { exact h.fresh k hk (by rw [← ha k hk]; exact e) })).low h.below.size), h.cb0, h.br0, h.old, h.fresh⟩
/-- Votes are read into a map. -/
theorem Way.comms (h : Way w W ρ i cb br fid c O r) (hf : c.Fine) (hl : r.1.length ≤ 16777216) : ∃ bm, W.cell? ⟨cb, 9, none⟩ = some (.map (some bm)) ∧
    Calls Try.prog 57 #[.pointer (some ⟨br, 0, none⟩), .pointer (some ⟨cb, 0, none⟩), .map (some bm)] W fun e w' => e = .returned (.tuple #[]) ∧
      Way w w' ρ i cb br fid { c with comms := (votesR c.me c.view (fourR r).1 (-1) c.comms (fourR r).2).1 } O (votesR c.me c.view (fourR r).1 (-1) c.comms (fourR r).2).2 := by
  obtain ⟨ρ1, vw, vl, vv, bp, b1, b2, b3, bs, bd, ha, hp, hbr⟩ := h.core
  refine ⟨b2, hp.cell 9, (votes_any (O := O) r W (by omega) hp.cells hp.role rfl rfl hp.comms h.reader hbr (fun k hk => ⟨Nat.lt_of_lt_of_le (h.old k hk) h.below.size, by rw [ha k (h.old k hk)]; exact h.fresh k (h.old k hk)⟩) hl ⟨by have := hf.ok.view0; omega, hf.ok.view1⟩).mono ?_⟩
  rintro e w' ⟨rfl, ρ', k1, k2, k3, k4⟩
  have hltr := h.reader.bad.2.2
  have hpn := hp.comms_read k4 k1 (fun k _ hk e => by rcases hk with rfl | ⟨_, e2⟩; { exact absurd e hbr }; { exact e2 }) k2
  exact ⟨rfl, ⟨ρ', vw, vl, vv, bp, b1, b2, b3, bs, bd, ha.trans k1 h.below.size, hpn, by rw [k1 br hltr]; exact hbr⟩, k3,
    h.below.trans ((k4.mono (G := fun k => w.heap.size ≤ k) (fun k _ e => Nat.not_lt.1 fun hk => by rcases e with rfl | ⟨e, _⟩; { have := h.br0; omega }; { exact h.fresh k hk (by rw [← ha k hk]; exact e) })).low h.below.size), h.cb0, h.br0, h.old, h.fresh⟩
/-- What the reader took becomes the value. -/
theorem Way.value (h : Way w W ρ i cb br fid c O r) {v : Value} {val : List UInt8} (hv : Bs W1 (fun k => W.heap.size ≤ k) v val) (hr : Reader W1 O br r'.1 r'.2) (ho : Off (fun k => k = br) W W1) :
    Way w (W1.setCell ⟨cb, 16, none⟩ v) ρ i cb br fid { c with value := val } O r' := by
  obtain ⟨ρ1, vw, vl, vv, bp, b1, b2, b3, bs, bd, ha, hp, hbr⟩ := h.core
  have hltr := h.reader.bad.2.2
  have hag : Agr W ρ1 (ρ1.fresh i W.heap.size W1.heap.size) := agr_fresh _ _ _ _
  have hp1 : Parts W1 (ρ1.fresh i W.heap.size W1.heap.size) i cb fid c vw vl vv bp b1 b2 b3 bs bd := hp.keep ho hag (fun k _ e => by subst e; exact hbr)
  have hv1 : Bs W1 (fun k => ρ1.fresh i W.heap.size W1.heap.size k = (i, 2, 0)) v val := hv.mono (fun k hk hwk => by unfold Roles.fresh; rw [if_pos ⟨hwk, hk⟩])
  have hcl : Left W1 (W1.setCell ⟨cb, 16, none⟩ v) (ρ1.fresh i W.heap.size W1.heap.size) i cb fid { c with value := val } := by
    have e2 := Off.setOne W1 ⟨cb, 16, none⟩ v
    exact ⟨_, Agr.refl _ _, ⟨_, _, _, _, _, _, _, _, _, hp1.set e2 (Agr.refl _ _) (heap_setCell_cells hp1.cells _) (bytes_own hp1.wish hp1.role e2 (Agr.refl _ _)) (bytes_own hp1.locked hp1.role e2 (Agr.refl _ _)) (bytes_own hv1 hp1.role e2 (Agr.refl _ _)) ⟨rfl, rfl, rfl, rfl, rfl, rfl⟩⟩,
      e2.mono (fun k _ e => by subst e; rw [hp1.role])⟩
  have hbelow := h.below.trans ((ho.mono (G := fun k => w.heap.size ≤ k) (fun k _ e => by subst e; exact h.br0)).low h.below.size)
  have hway : Way w W1 ρ i cb br fid c O r' := ⟨⟨_, vw, vl, vv, bp, b1, b2, b3, bs, bd, ha.trans hag h.below.size, hp1, by rw [hag br hltr]; exact hbr⟩, hr, hbelow, h.cb0, h.br0, h.old, h.fresh⟩
  obtain ⟨ρ2, k1, ⟨vw', vl', vv', bp', b1', b2', b3', bs', bd', k2⟩, k3⟩ := hcl
  have hltr1 := hr.bad.2.2
  have hbr1 : (ρ1.fresh i W.heap.size W1.heap.size br).1 ≠ i := by rw [hag br hltr]; exact hbr
  have hold : ∀ k, k < w.heap.size → (ρ1.fresh i W.heap.size W1.heap.size k).1 ≠ i := fun k hk => by rw [hag k (Nat.lt_of_lt_of_le hk h.below.size), ha k hk]; exact h.fresh k hk
  exact ⟨⟨ρ2, vw', vl', vv', bp', b1', b2', b3', bs', bd', (ha.trans hag h.below.size).trans k1 hbelow.size, k2, by rw [k1 br hltr1]; exact hbr1⟩,
    hr.keep k3 hbr1 (fun k _ hk e => hold k (h.old k hk) e),
    hbelow.trans ((k3.mono (G := fun k => w.heap.size ≤ k) (fun k _ e => Nat.not_lt.1 fun hk => hold k hk e)).low hbelow.size), h.cb0, h.br0, h.old, h.fresh⟩
end
end Go.Proofs.Ytkkmkkgjpmlhaaa
