/- The plain side of PanelOrder: lights told backwards and turned round are the same lights. -/
import Derived.Test.YtllkokcknlefgaaSpecOf
import Derived.Test.YtllkokcknlefgaaSorted
namespace Go.Proofs.Ytllkokcknlefgaa.S

/-- The first i of the lights in the other order. -/
def turned (l : List Light) (t i : Nat) : List Light := (List.range i).map (fun j => l[(l.length - 1 - j + t) % l.length]?.getD default)
theorem turned_snoc {l : List Light} {t i : Nat} {x : Light} (h : l[(l.length - 1 - i + t) % l.length]? = some x) : turned l t (i + 1) = turned l t i ++ [x] := by
  unfold turned
  rw [List.range_succ, List.map_append]
  simp [h]
theorem turned_len (l : List Light) (t i : Nat) : (turned l t i).length = i := by simp [turned]
theorem turned_all (l : List Light) (t : Nat) : turned l t l.length = (l.drop (t % l.length) ++ l.take (t % l.length)).reverse := by
  rcases Nat.eq_zero_or_pos l.length with h0 | hpos
  · have : l = [] := List.eq_nil_of_length_eq_zero h0
    subst this
    simp [turned]
  have hs : t % l.length < l.length := Nat.mod_lt _ hpos
  have hlen : (l.drop (t % l.length) ++ l.take (t % l.length)).length = l.length := by simp; omega
  apply List.ext_getElem?
  intro j
  rcases Nat.lt_or_ge j l.length with hj | hj
  · rw [List.getElem?_reverse (by omega), hlen]
    unfold turned
    rw [List.getElem?_map, List.getElem?_range hj, Option.map_some]
    have e1 : (l.length - 1 - j + t) % l.length = (l.length - 1 - j + t % l.length) % l.length := by
      rw [Nat.add_mod (l.length - 1 - j) (t % l.length), Nat.mod_mod, ← Nat.add_mod]
    rw [e1, List.getElem?_append]
    have hd : (l.drop (t % l.length)).length = l.length - t % l.length := by simp
    rw [hd]
    generalize t % l.length = s at *
    split
    · rename_i h
      rw [List.getElem?_drop, Nat.mod_eq_of_lt (by omega), show l.length - 1 - j + s = s + (l.length - 1 - j) by omega]
      rw [List.getElem?_eq_getElem (by omega)]
      rfl
    · rename_i h
      rw [List.getElem?_take_of_lt (by omega), Nat.mod_eq_sub_mod (by omega), Nat.mod_eq_of_lt (by omega)]
      rw [show l.length - 1 - j + s - l.length = l.length - 1 - j - (l.length - s) by omega]
      rw [List.getElem?_eq_getElem (by omega)]
      rfl
  · rw [List.getElem?_eq_none (by rw [turned_len]; omega), List.getElem?_eq_none (by rw [List.length_reverse]; omega)]
theorem turned_perm (l : List Light) (t : Nat) : l.Perm (turned l t l.length) := by
  rw [turned_all]
  refine List.Perm.symm ((List.reverse_perm _).trans ?_)
  refine List.perm_append_comm.trans ?_
  rw [List.take_append_drop]
theorem topOf_perm (p : Life → Bool) {l m : List Light} (h : l.Perm m) : topOf p m = topOf p l := by
  unfold topOf
  refine (List.Perm.foldl_eq' h ?_ 0).symm
  intro x _ y _ z
  cases p x.life <;> cases p y.life <;> simp only [if_true, if_false, Bool.false_eq_true] <;> (repeat' split) <;> omega
end Go.Proofs.Ytllkokcknlefgaa.S
