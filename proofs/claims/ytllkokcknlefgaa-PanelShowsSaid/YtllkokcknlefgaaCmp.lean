/- The walk of the comparison of two lamps. -/
import Derived.Test.YtllkokcknlefgaaSmall
import Derived.Sort.Grow
namespace Go.Proofs.Ytllkokcknlefgaa
open Go.RowKit Go.Shelf Go.Sort S

theorem cmpI_lt {x y : Int} (h : x < y) : cmpI x y = -1 := by unfold cmpI; rw [if_pos h]
theorem cmpI_gt {x y : Int} (h : y < x) : cmpI x y = 1 := by unfold cmpI; rw [if_neg (by omega), if_pos h]
theorem cmpI_eq {x y : Int} (h : x = y) : cmpI x y = 0 := by unfold cmpI; rw [if_neg (by omega), if_neg (by omega)]

theorem cmpB_any (x y : Int) (w : World) : Calls Try.prog 22 #[.int .u8 x, .int .u8 y] w fun e w' => e = .returned (.int .i64 (cmpI x y)) ∧ w = w' := by
  rcases (by omega : x < y ∨ y < x ∨ x = y) with h | h | h
  · have hc := Lib.hid (cmpI_lt h)
    go_enter Try.func22, Try.ntmps22
    go_wp2
    go_ret
    exact ⟨by rw [hc.out]; rfl, rfl⟩
  · have hc := Lib.hid (cmpI_gt h)
    go_enter Try.func22, Try.ntmps22
    go_wp2
    go_ret
    exact ⟨by rw [hc.out]; rfl, rfl⟩
  · subst h
    have hc := Lib.hid (cmpI_eq (rfl : x = x))
    go_enter Try.func22, Try.ntmps22
    go_wp2
    go_ret
    exact ⟨by rw [hc.out]; rfl, rfl⟩

theorem cmpN_any (x y : Int) (w : World) : Calls Try.prog 23 #[.int .i64 x, .int .i64 y] w fun e w' => e = .returned (.int .i64 (cmpI x y)) ∧ w = w' := by
  rcases (by omega : x < y ∨ y < x ∨ x = y) with h | h | h
  · have hc := Lib.hid (cmpI_lt h)
    go_enter Try.func23, Try.ntmps23
    go_wp2
    go_ret
    exact ⟨by rw [hc.out]; rfl, rfl⟩
  · have hc := Lib.hid (cmpI_gt h)
    go_enter Try.func23, Try.ntmps23
    go_wp2
    go_ret
    exact ⟨by rw [hc.out]; rfl, rfl⟩
  · subst h
    have hc := Lib.hid (cmpI_eq (rfl : x = x))
    go_enter Try.func23, Try.ntmps23
    go_wp2
    go_ret
    exact ⟨by rw [hc.out]; rfl, rfl⟩

/-- Of two numbers: the first that is not 0. -/
theorem or_any (x y : Int) (b c : Nat) (w : World) (h0 : w.cell? ⟨b, 0, none⟩ = some (.int .i64 x)) (h1 : w.cell? ⟨b, 1, none⟩ = some (.int .i64 y)) :
    Calls Try.prog 21 #[.slice (some ⟨b, 0, none⟩) 2 c] w fun e w' => e = .returned (.int .i64 (orI x y)) ∧ w = w' := by
  by_cases hx : x = 0
  · subst hx
    by_cases hy : y = 0
    · subst hy
      go_enter Try.func21, Try.ntmps21
      go_wp2
      refine wp_loop_rounds 3 ?_
      rw [rounds_succ]
      go_wp2
      rw [rounds_succ]
      go_wp2
      rw [rounds_succ]
      go_wp2
      go_ret
      exact ⟨rfl, rfl⟩
    · have hyb : (y != 0) = true := by simpa using hy
      go_enter Try.func21, Try.ntmps21
      go_wp2
      refine wp_loop_rounds 2 ?_
      rw [rounds_succ]
      go_wp2
      rw [rounds_succ]
      go_wp2
      go_ret
      exact ⟨rfl, rfl⟩
  · have hxb : (x != 0) = true := by simpa using hx
    have hif : Hid (orI x y = x) := if_neg hx
    go_enter Try.func21, Try.ntmps21
    go_wp2
    refine wp_loop_rounds 1 ?_
    rw [rounds_succ]
    go_wp2
    go_ret
    exact ⟨by rw [hif.out]; rfl, rfl⟩

theorem grow_drewN (w : World) (os : Array Obj) (n : Nat) : (grow w os).drewN n = grow (w.drewN n) os := rfl

/-- The comparison of two lamps, in whatever world: it draws and lays blocks, no more. -/
theorem less_any (x y : Lamp) (w : World) : Calls Try.prog 20 #[.agg #[.int .i64 x.cond, .int .u8 x.prio, .int .i64 x.stage, .bool x.cause, .bool x.acked], .agg #[.int .i64 y.cond, .int .u8 y.prio, .int .i64 y.stage, .bool y.cause, .bool y.acked]] w
    fun e w' => e = .returned (.int .i64 (cmpLamp x y)) ∧ ∃ q os', w' = Sort.grow (w.drewN q) os' := by
  go_enter Try.func20, Try.ntmps20
  go_wp2_with fail
  refine wp_region_class_tail (C := fun w' => ∃ n, w' = (World.drewN _ n)) 10 (by kernel_rfl) (by kernel_rfl) ⟨1, rfl⟩ ?_
  simp only [List.take_succ_cons, List.take_zero, List.drop_succ_cons, List.drop_zero]
  repeat (go_big_quiet_step (first | (go_at_call 22; exact Calls.quiet_of_same (Calls.mono (cmpB_any _ _ _) fun _ _ h => ⟨h.1, h.2.symm⟩)) | (go_at_call 23; exact Calls.quiet_of_same (Calls.mono (cmpN_any _ _ _) fun _ _ h => ⟨h.1, h.2.symm⟩))))
  refine wpQuiet_nil ?_
  rintro w1 ⟨nq, rfl⟩
  go_wp2_with fail
  refine (or_any (cmpI y.prio x.prio) (cmpI x.cond y.cond) _ _ _ (by go_simp) (by go_simp)).mono ?_
  rintro e w1 ⟨rfl, rfl⟩
  go_wp2
  go_ret
  exact ⟨rfl, nq, _, by rw [alloc_eq_grow, alloc_eq_grow, alloc_eq_grow, grow_drewN, grow_drewN, Sort.grow_grow, Sort.grow_grow]⟩
end Go.Proofs.Ytllkokcknlefgaa
