/- A core of layer 18 as plain data, and what its functions do to it: no program in sight. -/
import Derived.Test.YtkkmkkgjpmlhaaaBase
namespace Go.Proofs.Ytkkmkkgjpmlhaaa

/-! ### Sorting, so that the kernel can run it -/
def insZ (x : Int) : List Int → List Int
  | [] => [x]
  | y :: l => if x ≤ y then x :: y :: l else y :: insZ x l
def sortZ : List Int → List Int
  | [] => []
  | x :: l => insZ x (sortZ l)
theorem insZ_perm (x : Int) : ∀ l : List Int, (insZ x l).Perm (x :: l)
  | [] => List.Perm.refl _
  | y :: l => by
    unfold insZ
    split
    · exact List.Perm.refl _
    · exact ((insZ_perm x l).cons y).trans (List.Perm.swap _ _ _)
theorem sortZ_perm : ∀ l : List Int, (sortZ l).Perm l
  | [] => List.Perm.refl _
  | x :: l => (insZ_perm x _).trans ((sortZ_perm l).cons x)
@[simp] theorem length_sortZ (l : List Int) : (sortZ l).length = l.length := (sortZ_perm l).length_eq
theorem insZ_sorted (x : Int) : ∀ l : List Int, l.Pairwise (· ≤ ·) → (insZ x l).Pairwise (· ≤ ·)
  | [], _ => by simp [insZ]
  | y :: l, h => by
    unfold insZ
    split
    · rename_i hxy
      refine List.pairwise_cons.2 ⟨fun z hz => ?_, h⟩
      rcases List.mem_cons.1 hz with rfl | hz
      · exact hxy
      · exact Int.le_trans hxy ((List.pairwise_cons.1 h).1 z hz)
    · rename_i hxy
      have h2 := List.pairwise_cons.1 h
      refine List.pairwise_cons.2 ⟨fun z hz => ?_, insZ_sorted x l h2.2⟩
      rcases List.mem_cons.1 ((insZ_perm x l).mem_iff.1 hz) with rfl | hz
      · omega
      · exact h2.1 z hz
theorem sortZ_sorted : ∀ l : List Int, (sortZ l).Pairwise (· ≤ ·)
  | [] => List.Pairwise.nil
  | x :: l => insZ_sorted x _ (sortZ_sorted l)
theorem sortZ_eq (l : List Int) : sortZ l = l.mergeSort (fun x y => decide (x ≤ y)) := by
  have tr : ∀ a b c : Int, decide (a ≤ b) = true → decide (b ≤ c) = true → decide (a ≤ c) = true := fun a b c h1 h2 => by simp only [decide_eq_true_eq] at *; exact Int.le_trans h1 h2
  have to : ∀ a b : Int, (decide (a ≤ b) || decide (b ≤ a)) = true := fun a b => by simp only [Bool.or_eq_true, decide_eq_true_eq]; exact Int.le_total a b
  refine List.Perm.eq_of_pairwise (le := fun a b => a ≤ b) (fun a b _ _ h1 h2 => Int.le_antisymm h1 h2) (sortZ_sorted l) ?_ ((sortZ_perm l).trans (List.mergeSort_perm l _).symm)
  exact (List.pairwise_mergeSort tr to l).imp (fun h => by simpa using h)

abbrev TM := List (Int × List (Int × List UInt8))
def inner (t : TM) (view : Int) : List (Int × List UInt8) := (t.lookup view).getD []
def setT (t : TM) (view who : Int) (l : List UInt8) : TM := put t view (put (inner t view) who l)
def hasT (t : TM) (view who : Int) : Bool := ((inner t view).lookup who).isSome

/-- A vote as a Go value: its five numbers and its bytes. -/
structure Vote where
  kind : Int
  frm : Int
  slot : Int
  view : Int
  valid : Int
  value : List UInt8
  deriving DecidableEq

/-- A vote that can be. -/
def Vote.okB (x : Vote) : Bool :=
  decide (1 ≤ x.kind) && decide (x.kind ≤ 5) && decide (1 ≤ x.frm) && decide (x.frm ≤ 64) && decide (0 ≤ x.slot) && decide (x.slot ≤ 256) && decide (0 ≤ x.view) && decide (x.view ≤ 1048576) &&
    decide (-1 ≤ x.valid) && decide (x.valid ≤ 1048576) && decide (x.value.length ≤ 4096)

structure CoreM where
  n : Int
  me : Int
  slot : Int
  view : Int := 0
  wish : List UInt8 := []
  wishes : Bool := false
  props : List (Int × (List UInt8 × Int)) := []
  preps : TM := []
  comms : TM := []
  turns : TM := []
  seen : List (Int × Int) := []
  decs : List (Int × List UInt8) := []
  lock : Int := -1
  locked : List UInt8 := []
  decided : Bool := false
  value : List UInt8 := []
  deriving DecidableEq

namespace CoreM
def f (c : CoreM) : Int := (c.n - 1) / 3
def quorum (c : CoreM) : Int := c.n - (c.n - 1) / 3
def proposer (c : CoreM) (view : Int) : Int := 1 + (c.slot + view) % c.n

/-- The keys, rising. -/
def keys {α : Type} (m : List (Int × α)) : List Int := sortZ (m.map (·.1))

/-- How many of the values are this one. -/
def votes (t : List (Int × List UInt8)) (v : List UInt8) : Nat := (t.filter fun p => p.2 == v).length

/-- The value of a peer, if at least so many told it. -/
def cand (t : List (Int × List UInt8)) (least who : Int) : Option (List UInt8) :=
  match t.lookup who with
  | some v => if (votes t v : Int) ≥ least then some v else none
  | none => none
/-- told.count. -/
def count (t : List (Int × List UInt8)) (least : Int) : Option (List UInt8) := (keys t).findSome? (cand t least)

/-- know: was it new? And the core behind it. -/
def know (c : CoreM) (v : Vote) : Bool × CoreM :=
  if v.kind = 1 then
    if (c.props.lookup v.view).isSome || v.frm != c.proposer v.view then (false, c) else (true, { c with props := put c.props v.view (v.value, v.valid) })
  else if v.kind = 2 then (!hasT c.preps v.view v.frm, if hasT c.preps v.view v.frm then c else { c with preps := setT c.preps v.view v.frm v.value })
  else if v.kind = 3 then (!hasT c.comms v.view v.frm, if hasT c.comms v.view v.frm then c else { c with comms := setT c.comms v.view v.frm v.value })
  else if v.kind = 5 then (!hasT c.turns v.view v.frm, if hasT c.turns v.view v.frm then c else { c with turns := setT c.turns v.view v.frm v.value })
  else if (c.decs.lookup v.frm).isSome then (false, c) else (true, { c with decs := put c.decs v.frm v.value })

def prepared (c : CoreM) (view : Int) : Option (List UInt8) := count (inner c.preps view) c.quorum

/-- The value that is prepared in a view below another one. -/
def bestAt (c : CoreM) (below view : Int) : Option (Int × List UInt8) :=
  match c.prepared view with
  | some v => if view < below then some (view, v) else none
  | none => none
def best (c : CoreM) (below : Int) : Option (Int × List UInt8) := (keys c.preps).reverse.findSome? (c.bestAt below)

/-- The views of what others told, rising. -/
def views (c : CoreM) : List Int := sortZ (c.seen.map (·.2))
/-- The view to which more than f others have come. -/
def reach (c : CoreM) : Option Int :=
  if (c.views.length : Int) ≤ c.f then none else c.views[(c.views.length - 1 - c.f).toNat]?

def turn (c : CoreM) : Option CoreM :=
  match c.reach with
  | some v => if v ≤ c.view then none else some { c with view := v }
  | none => none

def propose (c : CoreM) : Option CoreM :=
  if (c.props.lookup c.view).isSome || c.proposer c.view != c.me then none else
  match c.best c.view with
  | some (view, v) => some { c with props := put c.props c.view (v, view) }
  | none => if c.wishes then some { c with props := put c.props c.view (c.wish, -1) } else none

def fit (acc : List UInt8 → Bool) (c : CoreM) (p : List UInt8 × Int) : Bool :=
  if !acc p.1 then false else
  if c.lock < 0 || p.1 == c.locked then true else
  decide (p.2 ≥ c.lock) && decide (p.2 < c.view) && c.prepared p.2 == some p.1

def prepare (acc : List UInt8 → Bool) (c : CoreM) : Option CoreM :=
  match c.props.lookup c.view with
  | none => none
  | some p => if hasT c.preps c.view c.me || !c.fit acc p then none else some { c with preps := setT c.preps c.view c.me p.1 }

def commit (c : CoreM) : Option CoreM :=
  match c.prepared c.view with
  | none => none
  | some v => if hasT c.comms c.view c.me then none else some { c with lock := c.view, locked := v, comms := setT c.comms c.view c.me v }

/-- How many peers told this value as a Commit of the view, or as Decided. -/
def backers (c : CoreM) (view : Int) (v : List UInt8) : Nat :=
  ((List.range c.n.toNat).filter fun (p : Nat) => (inner c.comms view).lookup (Int.ofNat p + 1) == some v || c.decs.lookup (Int.ofNat p + 1) == some v).length

/-- A peer's Commit of a view, if enough back it. -/
def backed (c : CoreM) (view who : Int) : Option (List UInt8) :=
  match (inner c.comms view).lookup who with
  | some v => if (c.backers view v : Int) ≥ c.quorum then some v else none
  | none => none
def agreed (c : CoreM) (view : Int) : Option (List UInt8) := (keys (inner c.comms view)).findSome? (c.backed view)

def decide_ (c : CoreM) : Option CoreM :=
  match (keys c.comms).findSome? c.agreed with
  | some v => some { c with decided := true, value := v }
  | none => match count c.decs (c.f + 1) with
    | some v => some { c with decided := true, value := v }
    | none => none

/-- decide leaves no value where it decides nothing. -/
def undecided (c : CoreM) : CoreM := { c with decided := false, value := [] }

/-- The first thing that can be done. -/
def step (acc : List UInt8 → Bool) (c : CoreM) : Option CoreM :=
  c.turn.or (c.propose.or ((c.prepare acc).or (c.commit.or c.decide_)))

/-- All that it can do, in at most so many steps. -/
def acts (acc : List UInt8 → Bool) : Nat → CoreM → CoreM
  | 0, c => c
  | k + 1, c => if c.decided then c else match c.step acc with
    | some c' => acts acc k c'
    | none => c.undecided

end CoreM
end Go.Proofs.Ytkkmkkgjpmlhaaa
