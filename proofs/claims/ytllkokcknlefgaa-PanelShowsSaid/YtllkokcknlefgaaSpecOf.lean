/- The plain side of the statements' own lights: by numbers. -/
import Derived.Test.YtllkokcknlefgaaSpec
namespace Go.Proofs.Ytllkokcknlefgaa.S

/-- A light, by numbers. -/
structure One where
  p : Int
  state : Int
  stage : Int
  since : Int
  deriving Inhabited
def One.fits (x : One) : Prop := 0 ≤ x.p ∧ x.p ≤ 255 ∧ 0 ≤ x.state ∧ x.state ≤ 255 ∧ 0 ≤ x.stage ∧ x.stage ≤ 255 ∧ 0 ≤ x.since ∧ x.since ≤ 65535
def ofOne (turn : Bool) (i : Nat) (x : One) : Light := ⟨if turn then 40 - (i : Int) else i, 1 + x.p % 3, ⟨x.state % 2 == 1, decide (0 < x.state % 4), decide (4 < x.state % 8), x.since, x.stage % 4⟩⟩
def ofL (turn : Bool) (l : List One) : List Light := l.mapIdx (ofOne turn)
theorem ofL_snoc (turn : Bool) (l : List One) (x : One) : ofL turn (l ++ [x]) = ofL turn l ++ [ofOne turn l.length x] := by
  unfold ofL
  rw [List.mapIdx_concat]
theorem ofL_len (turn : Bool) (l : List One) : (ofL turn l).length = l.length := by simp [ofL]
theorem ofL_get (turn : Bool) (l : List One) (i : Nat) (h : i < (ofL turn l).length) : ((ofL turn l)[i]).cond = if turn then 40 - (i : Int) else i := by
  have h' : i < l.length := by rw [ofL_len] at h; exact h
  have e : (ofL turn l)[i]? = some (ofOne turn i l[i]) := by
    unfold ofL
    rw [List.getElem?_mapIdx, List.getElem?_eq_getElem h']
    rfl
  rw [List.getElem?_eq_getElem h] at e
  rw [Option.some.inj e]
  rfl
theorem ofL_nodup (turn : Bool) (l : List One) : ((ofL turn l).map (·.cond)).Nodup := by
  rw [List.nodup_iff_pairwise_ne, List.pairwise_map, List.pairwise_iff_getElem]
  intro i j hi hj hij
  rw [ofL_get, ofL_get]
  cases turn <;> simp <;> omega
end Go.Proofs.Ytllkokcknlefgaa.S
