/- The plain words of a hall: who is admitted, who waits, what is right. No program in sight. -/
import Derived.Test.YthhfhgkkfaghoaaSet
namespace Go.Proofs.Ythhfhgkkfaghoaa

structure T where
  who : Int
  claim : Int
  deriving DecidableEq
structure Hall where
  frames : Int
  budget : Int
  cs : List C
  q : List T
  deriving DecidableEq

def Hall.least (h : Hall) : Int := if h.frames < h.budget then h.frames else h.budget
/-- what all hold, and claim -/
def heldS (l : List C) : Int := (l.map C.held).sum
def claimS (l : List C) : Int := (l.map C.claim).sum
theorem heldS_snoc {l : List C} {k : Nat} {c : C} (h : l[k]? = some c) : heldS (l.take (k + 1)) = heldS (l.take k) + c.held := by
  rw [heldS, heldS, List.take_add_one, h]; simp
theorem claimS_snoc {l : List C} {k : Nat} {c : C} (h : l[k]? = some c) : claimS (l.take (k + 1)) = claimS (l.take k) + c.claim := by
  rw [claimS, claimS, List.take_add_one, h]; simp
theorem claimS_app (a b : List C) : claimS (a ++ b) = claimS a + claimS b := by simp [claimS]
theorem heldS_app (a b : List C) : heldS (a ++ b) = heldS a + heldS b := by simp [heldS]
def Hall.left (h : Hall) : Int := h.frames - heldS h.cs
/-- may the first ticket be admitted? -/
def openQ (frames : Int) (cs : List C) : List T → Bool
  | [] => false
  | t :: _ => decide (cs.length ≤ 7) && decide (t.claim + claimS cs ≤ 2 * frames)
def Hall.open (h : Hall) : Bool := openQ h.frames h.cs h.q
def inC (l : List C) (who : Int) : Bool := l.any (fun c => decide (c.who = who))
def inT (l : List T) (who : Int) : Bool := l.any (fun t => decide (t.who = who))
theorem inC_iff {l : List C} {who : Int} : inC l who = true ↔ ∃ c ∈ l, c.who = who := by simp [inC]
theorem inT_iff {l : List T} {who : Int} : inT l who = true ↔ ∃ t ∈ l, t.who = who := by simp [inT]
def okClaim (h : Hall) (n : Int) : Bool := decide (1 ≤ n) && decide (n ≤ h.least)
/-- is the ticket at that place right? -/
def okT (h : Hall) (k : Nat) : Bool := match h.q[k]? with
  | some t => decide (0 ≤ t.who) && decide (t.who ≤ 2147483647) && okClaim h t.claim && !inC h.cs t.who && !inT (h.q.take k) t.who
  | none => false
def Hall.heads (h : Hall) : Bool := decide (1 ≤ h.frames) && decide (h.frames ≤ 8) && decide (1 ≤ h.budget) && decide (h.budget ≤ 100) && decide (h.cs.length + h.q.length ≤ 40)
def Hall.right (h : Hall) : Bool :=
  h.heads && rightB h.cs && h.cs.all (fun c => okClaim h c.claim) && (List.range h.q.length).all (okT h) && decide (0 ≤ h.left) && safeB h.left h.cs && !h.open
theorem heads_iff {h : Hall} : h.heads = true ↔ 1 ≤ h.frames ∧ h.frames ≤ 8 ∧ 1 ≤ h.budget ∧ h.budget ≤ 100 ∧ h.cs.length + h.q.length ≤ 40 := by
  simp [Hall.heads, and_assoc]

/-- tickets let in -/
def letIn (frames : Int) : List C → List T → List C × List T × List Int
  | cs, [] => (cs, [], [])
  | cs, t :: q => if openQ frames cs (t :: q) = true then
      ((letIn frames (cs ++ [⟨t.who, t.claim, 0⟩]) q).1, (letIn frames (cs ++ [⟨t.who, t.claim, 0⟩]) q).2.1, t.who :: (letIn frames (cs ++ [⟨t.who, t.claim, 0⟩]) q).2.2)
    else (cs, t :: q, [])
def enterM (h : Hall) : Hall × List Int := (⟨h.frames, h.budget, (letIn h.frames h.cs h.q).1, (letIn h.frames h.cs h.q).2.1⟩, (letIn h.frames h.cs h.q).2.2)
def findC (l : List C) (who : Int) : Option Nat := l.findIdx? (fun c => decide (c.who = who))
def findT (l : List T) (who : Int) : Option Nat := l.findIdx? (fun t => decide (t.who = who))

def beginM (h : Hall) (who claim : Int) : Hall × List Int × Int :=
  if h.right = false ∨ who < 0 ∨ 2147483647 < who then (h, [], 1) else if okClaim h claim = false then (h, [], 11) else
  if inC h.cs who = true ∨ inT h.q who = true then (h, [], 4) else if 40 ≤ h.cs.length + h.q.length then (h, [], 7) else
  ((enterM { h with q := h.q ++ [⟨who, claim⟩] }).1, (enterM { h with q := h.q ++ [⟨who, claim⟩] }).2, 0)
def moreAt (l : List C) (i : Nat) (n : Int) : List C := match l[i]? with
  | some c => l.set i ⟨c.who, c.claim, c.held + n⟩
  | none => l
def pinM (h : Hall) (who : Int) : Hall × Int :=
  if h.right = false then (h, 1) else match findC h.cs who with
  | none => (h, 3)
  | some i => match h.cs[i]? with
    | none => (h, 3)
    | some c => if c.claim ≤ c.held then (h, 10) else if h.left = 0 then (h, 6) else
      if safeB (h.left - 1) (moreAt h.cs i 1) = false then (h, 6) else ({ h with cs := moreAt h.cs i 1 }, 0)
def unpinM (h : Hall) (who : Int) : Hall × Int :=
  if h.right = false then (h, 1) else match findC h.cs who with
  | none => (h, 3)
  | some i => match h.cs[i]? with
    | none => (h, 3)
    | some c => if c.held = 0 then (h, 12) else ({ h with cs := moreAt h.cs i (-1) }, 0)
def goneC (l : List C) (who : Int) : List C := l.filter (fun c => !decide (c.who = who))
def goneT (l : List T) (who : Int) : List T := l.filter (fun t => !decide (t.who = who))
def endM (h : Hall) (who : Int) : Hall × List Int × Int :=
  if h.right = false then (h, [], 1) else if inC h.cs who = false ∧ inT h.q who = false then (h, [], 3) else
  ((enterM { h with cs := goneC h.cs who, q := goneT h.q who }).1, (enterM { h with cs := goneC h.cs who, q := goneT h.q who }).2, 0)
end Go.Proofs.Ythhfhgkkfaghoaa
