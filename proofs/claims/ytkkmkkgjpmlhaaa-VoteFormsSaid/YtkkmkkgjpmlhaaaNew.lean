/- New: a core. -/
import Derived.Test.YtkkmkkgjpmlhaaaMem
namespace Go.Proofs.Ytkkmkkgjpmlhaaa
open Go.RowKit Go.MapKept

/-- What the making of a core leaves: it, of an owner of its own. -/
def Made (w w' : World) (ρ : Roles) (i b fid : Nat) (c : CoreM) : Prop := ∃ ρ', Agr w ρ ρ' ∧ CoreAt w' ρ' i b fid c ∧ Below w.heap.size w w' ∧ w.heap.size ≤ b ∧ ∀ k, w.heap.size ≤ k → (ρ' k).1 = i
def NewPost (w : World) (ρ : Roles) (i fid : Nat) (c : CoreM) (e : Ending) (w' : World) : Prop := ∃ b, e = .returned (.pointer (some ⟨b, 0, none⟩)) ∧ Made w w' ρ i b fid c

theorem heap_alloc_at' (w : World) (o : Obj) (k : Nat) (h : k = w.heap.size) : (w.alloc o).heap[k]? = some o := by subst h; exact heap_alloc_new w o

def newRoles (ρ : Roles) (i s : Nat) : Roles := fun k =>
  if k < s then ρ k else if k = s then (i, 3, 0) else if k = s + 1 then (i, 10, 0) else if k = s + 2 then (i, 11, 0) else if k = s + 3 then (i, 12, 0) else if k = s + 4 then (i, 4, 0) else if k = s + 5 then (i, 5, 0) else (i, 1, 0)

theorem imap_at (w : World) (k : Nat) (h : k = w.heap.size) : IMap (w.alloc (.map #[] 0)) k [] := by subst h; exact IMap.made w

theorem new_close (ρ : Roles) (i fid : Nat) (n me slot : Int) (w : World) :
    Made w (((((((w.alloc (Obj.map #[] 0)).alloc (Obj.map #[] 0)).alloc (Obj.map #[] 0)).alloc (Obj.map #[] 0)).alloc (Obj.map #[] 0)).alloc (Obj.map #[] 0)).alloc
      (Obj.cells #[Value.int IntKind.i64 n, Value.int IntKind.i64 me, Value.int IntKind.i64 slot, Value.func (Fn.func fid) #[] #[], Value.int IntKind.i64 0, Value.slice none 0 0, Value.bool false,
          Value.map (some w.heap.size), Value.map (some (w.heap.size + 1)), Value.map (some (w.heap.size + 1 + 1)), Value.map (some (w.heap.size + 1 + 1 + 1)), Value.map (some (w.heap.size + 1 + 1 + 1 + 1)),
          Value.map (some (w.heap.size + 1 + 1 + 1 + 1 + 1)), Value.int IntKind.i64 (-1), Value.slice none 0 0, Value.bool false, Value.slice none 0 0] 100)) ρ i (w.heap.size + 1 + 1 + 1 + 1 + 1 + 1) fid { n := n, me := me, slot := slot } := by
  have r0 : newRoles ρ i w.heap.size w.heap.size = (i, 3, 0) := by unfold newRoles; repeat (first | rw [if_pos (by omega)] | rw [if_neg (by omega)])
  have r1 : newRoles ρ i w.heap.size (w.heap.size + 1) = (i, 10, 0) := by unfold newRoles; repeat (first | rw [if_pos (by omega)] | rw [if_neg (by omega)])
  have r2 : newRoles ρ i w.heap.size (w.heap.size + 1 + 1) = (i, 11, 0) := by unfold newRoles; repeat (first | rw [if_pos (by omega)] | rw [if_neg (by omega)])
  have r3 : newRoles ρ i w.heap.size (w.heap.size + 1 + 1 + 1) = (i, 12, 0) := by unfold newRoles; repeat (first | rw [if_pos (by omega)] | rw [if_neg (by omega)])
  have r4 : newRoles ρ i w.heap.size (w.heap.size + 1 + 1 + 1 + 1) = (i, 4, 0) := by unfold newRoles; repeat (first | rw [if_pos (by omega)] | rw [if_neg (by omega)])
  have r5 : newRoles ρ i w.heap.size (w.heap.size + 1 + 1 + 1 + 1 + 1) = (i, 5, 0) := by unfold newRoles; repeat (first | rw [if_pos (by omega)] | rw [if_neg (by omega)])
  have r6 : newRoles ρ i w.heap.size (w.heap.size + 1 + 1 + 1 + 1 + 1 + 1) = (i, 1, 0) := by unfold newRoles; repeat (first | rw [if_pos (by omega)] | rw [if_neg (by omega)])
  refine ⟨newRoles ρ i w.heap.size, fun k hk => by unfold newRoles; rw [if_pos hk], ⟨.slice none 0 0, .slice none 0 0, .slice none 0 0, w.heap.size, w.heap.size + 1, w.heap.size + 1 + 1, w.heap.size + 1 + 1 + 1, w.heap.size + 1 + 1 + 1 + 1, w.heap.size + 1 + 1 + 1 + 1 + 1, ?_⟩, ?_, by omega, fun k hk => ?_⟩
  · exact {
      role := r6
      cells := by rw [heap_alloc_at' _ _ _ (by simp)]; rfl
      wish := Bs.nil _ _
      locked := Bs.nil _ _
      value := Bs.nil _ _
      props := ⟨r0, [], ((((((imap_at w _ rfl).alloc _).alloc _).alloc _).alloc _).alloc _).alloc _, rfl, by simp⟩
      preps := ⟨r1, [], (((((imap_at _ _ (by simp)).alloc _).alloc _).alloc _).alloc _).alloc _, rfl, by simp⟩
      comms := ⟨r2, [], ((((imap_at _ _ (by simp)).alloc _).alloc _).alloc _).alloc _, rfl, by simp⟩
      turns := ⟨r3, [], (((imap_at _ _ (by simp)).alloc _).alloc _).alloc _, rfl, by simp⟩
      seen := ⟨r4, ((imap_at _ _ (by simp)).alloc _).alloc _⟩
      decs := ⟨r5, [], (imap_at _ _ (by simp)).alloc _, rfl, by simp⟩ }
  · exact (((((((Below.refl w.heap.size w).alloc (by simp) _).alloc (by simp <;> omega) _).alloc (by simp <;> omega) _).alloc (by simp <;> omega) _).alloc (by simp <;> omega) _).alloc (by simp <;> omega) _).alloc (by simp <;> omega) _
  · unfold newRoles
    rw [if_neg (by omega)]
    repeat' split
    all_goals rfl

set_option maxRecDepth 100000 in
set_option maxHeartbeats 2000000 in
theorem new_any (ρ : Roles) (i fid : Nat) (n me slot : Int) (w : World) (h : 4 ≤ n ∧ n ≤ 64 ∧ 1 ≤ me ∧ me ≤ n ∧ 0 ≤ slot ∧ slot ≤ 256) :
    Calls Try.prog 13 #[.int .i64 n, .int .i64 me, .int .i64 slot, .func (.func fid) #[] #[]] w (NewPost w ρ i fid { n := n, me := me, slot := slot }) := by
  obtain ⟨n0, n1, m0, m1, s0, s1⟩ := h
  have q1 : decide (n < 4) = false := decide_eq_false (by omega)
  have q2 : decide (64 < n) = false := decide_eq_false (by omega)
  have q3 : decide (me < 1) = false := decide_eq_false (by omega)
  have q4 : decide (n < me) = false := decide_eq_false (by omega)
  have q5 : decide (slot < 0) = false := decide_eq_false (by omega)
  have q6 : decide (256 < slot) = false := decide_eq_false (by omega)
  have hm : (binOp .eql 28 (.func (.func fid) #[] #[]) .nilFunc).run Try.prog w = .ok (.bool false) w := by kernel_rfl
  have hmm := @run_makeMap Try.prog
  go_enter Try.func13, Try.ntmps13
  go_wp2
  go_ret
  exact ⟨_, rfl, new_close ρ i fid n me slot w⟩
end Go.Proofs.Ytkkmkkgjpmlhaaa
