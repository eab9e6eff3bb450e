/- The plain side: what the panel's functions come to, as functions on numbers and lists. No Go and no memory here. -/
namespace Go.Proofs.Ytllkokcknlefgaa.S

structure Life where
  on : Bool
  lit : Bool
  acked : Bool
  since : Int
  stage : Int
  deriving DecidableEq, Inhabited
structure Light where
  cond : Int
  prio : Int
  life : Life
  deriving DecidableEq, Inhabited
structure Lamp where
  cond : Int
  prio : Int
  stage : Int
  cause : Bool
  acked : Bool
  deriving DecidableEq, Inhabited

def Life.loud (x : Life) : Bool := x.lit && !x.acked

def topOf (p : Life → Bool) (l : List Light) : Int := l.foldl (fun m x => if p x.life then (if m < x.prio then x.prio else m) else m) 0

def heldS (t : Int) : Int := if t < 0 then 0 else if 1099511627776 < t then 1099511627776 else t
def sinceS (now t : Int) : Int := if now ≤ t then 0 else heldS (now - t)

structure Hush where
  untl : Int
  off : Int
  mark : Int
  deriving DecidableEq, Inhabited
def Hush.paused (h : Hush) (now : Int) : Bool := decide (now < h.untl)
def Hush.isOff (h : Hush) (now : Int) : Bool := decide (now < h.off)
def Hush.silent (h : Hush) (now : Int) : Bool := h.paused now || h.isOff now

def patB (p : Int) : ByteArray :=
  if p = 3 then ⟨#[49, 48, 49, 48, 49, 48, 48, 49, 48, 49, 48, 48, 48, 48, 48, 48, 49, 48, 49, 48, 49, 48, 48, 49, 48, 49, 48, 48, 48, 48, 48, 48]⟩
  else if p = 2 then ⟨#[49, 48, 48, 49, 48, 48, 49, 48, 48, 48, 48, 48, 48, 48, 48, 48, 48, 48, 48, 48, 48, 48, 48, 48]⟩
  else if p = 1 then ⟨#[49, 48, 48, 48, 49, 48, 48, 48, 48, 48, 48, 48, 48, 48, 48, 48, 48, 48, 48, 48, 48, 48, 48, 48, 48, 48, 48, 48, 48, 48, 48, 48, 48, 48, 48, 48, 48, 48, 48, 48]⟩
  else ⟨#[]⟩
/-- The sign at a place of a pattern, as a number; 0 beyond it. -/
def patAt (p : Int) (i : Nat) : Int := ((patB p).data[i]?.getD 0).toNat
def soundS (p ph : Int) : Bool := decide (0 < (patB p).size) && (decide (0 ≤ ph) && patAt p (ph % ((patB p).size : Int)).toNat == 49)
theorem patB_size (p : Int) : (patB p).size ≤ 40 := by
  unfold patB
  split
  · decide
  · split
    · decide
    · split <;> decide

def cmpI (x y : Int) : Int := if x < y then -1 else if y < x then 1 else 0
def orI (x y : Int) : Int := if x = 0 then y else x
def cmpLamp (a b : Lamp) : Int := orI (cmpI b.prio a.prio) (cmpI a.cond b.cond)

def lampOf (x : Light) : Lamp := ⟨x.cond, x.prio, x.life.stage, x.life.on, x.life.acked⟩
def lampsOf (l : List Light) : List Lamp := (l.filter (fun x => x.life.lit)).map lampOf
theorem lampsOf_snoc (l : List Light) (x : Light) : lampsOf (l ++ [x]) = if x.life.lit then lampsOf l ++ [lampOf x] else lampsOf l := by
  unfold lampsOf
  rw [List.filter_append, List.map_append]
  cases h : x.life.lit <;> simp [h]
theorem lampsOf_le (l : List Light) : (lampsOf l).length ≤ l.length := by
  unfold lampsOf
  rw [List.length_map]
  exact List.length_filter_le _ _
end Go.Proofs.Ytllkokcknlefgaa.S
