/- The walks of clock.Since, hush, burst and panel.New. -/
import Derived.Test.YtllkokcknlefgaaShapes
import Derived.Test.YtllkokcknlefgaaRegion
import Derived.Test.YtllkokcknlefgaaProg
import Derived.WalkKit
import Derived.BigQuiet
import Derived.Lib.Hide
import Derived.Shelf.Abstract
namespace Go.Proofs.Ytllkokcknlefgaa
open Go.RowKit Go.Shelf S

theorem ret_num {k : IntKind} {a b : Int} (h : a = b) : Ending.returned (.int k a) = .returned (.int k b) := by rw [h]

theorem held_neg {t : Int} (h : t < 0) : heldS t = 0 := by unfold heldS; rw [if_pos h]
theorem held_mid {t : Int} (h0 : 0 ≤ t) (h1 : t ≤ 1099511627776) : heldS t = t := by unfold heldS; rw [if_neg (by omega), if_neg (by omega)]
theorem held_big {t : Int} (h : 1099511627776 < t) : heldS t = 1099511627776 := by unfold heldS; rw [if_neg (by omega), if_pos h]
theorem since_le {now t : Int} (h : now ≤ t) : sinceS now t = 0 := by unfold sinceS; rw [if_pos h]
theorem since_gt {now t : Int} (h : ¬ now ≤ t) : sinceS now t = heldS (now - t) := by unfold sinceS; rw [if_neg h]

theorem held_any (t : Int) (w : World) : Calls Try.prog 42 #[.int .i64 t] w fun e w' => e = .returned (.int .i64 (heldS t)) ∧ w = w' := by
  by_cases h0 : t < 0
  · go_enter Try.func42, Try.ntmps42
    go_wp2
    go_ret
    exact ⟨ret_num (held_neg h0).symm, rfl⟩
  · by_cases h1 : t ≤ 1099511627776
    · have h0' : 0 ≤ t := by omega
      clear h0
      go_enter Try.func42, Try.ntmps42
      go_wp2
      go_ret
      exact ⟨ret_num (held_mid h0' h1).symm, rfl⟩
    · have h1' : 1099511627776 < t := by omega
      clear h0 h1
      go_enter Try.func42, Try.ntmps42
      go_wp2
      go_ret
      exact ⟨ret_num (held_big h1').symm, rfl⟩

theorem since_any (now t : Int) (h0 : -2305843009213693952 ≤ now) (h1 : now ≤ 2305843009213693952) (h2 : -2305843009213693952 ≤ t) (h3 : t ≤ 2305843009213693952) (w : World) :
    Calls Try.prog 33 #[.int .i64 now, .int .i64 t] w fun e w' => e = .returned (.int .i64 (sinceS now t)) ∧ w = w' := by
  by_cases h : now ≤ t
  · go_enter Try.func33, Try.ntmps33
    go_wp2
    go_ret
    exact ⟨ret_num (since_le (by omega)).symm, rfl⟩
  · go_enter Try.func33, Try.ntmps33
    go_wp2_with fail
    refine (held_any _ _).mono ?_
    rintro e w1 ⟨rfl, rfl⟩
    go_wp2
    go_ret
    exact ⟨ret_num (since_gt (by omega)).symm, rfl⟩

theorem paused_any (h : Hush) (now : Int) (w : World) : Calls Try.prog 29 #[.agg #[.int .i64 h.untl, .int .i64 h.off, .int .u8 h.mark], .int .i64 now] w fun e w' => e = .returned (.bool (h.paused now)) ∧ Below w.heap.size w w' := by
  go_enter Try.func29, Try.ntmps29
  go_wp2
  go_ret
  exact ⟨rfl, (Below.refl _ _).alloc (Nat.le_refl _) _⟩

theorem isOff_any (h : Hush) (now : Int) (w : World) : Calls Try.prog 30 #[.agg #[.int .i64 h.untl, .int .i64 h.off, .int .u8 h.mark], .int .i64 now] w fun e w' => e = .returned (.bool (h.isOff now)) ∧ Below w.heap.size w w' := by
  go_enter Try.func30, Try.ntmps30
  go_wp2
  go_ret
  exact ⟨rfl, (Below.refl _ _).alloc (Nat.le_refl _) _⟩

theorem silent_any (h : Hush) (now : Int) (w : World) : Calls Try.prog 31 #[.agg #[.int .i64 h.untl, .int .i64 h.off, .int .u8 h.mark], .int .i64 now] w fun e w' => e = .returned (.bool (h.silent now)) ∧ Below w.heap.size w w' := by
  unfold Hush.silent
  go_enter Try.func31, Try.ntmps31
  go_wp2_with fail
  refine (paused_any h now _).mono ?_
  rintro e w1 ⟨rfl, hb1⟩
  have hb : Below w.heap.size w w1 := ((Below.refl _ _).alloc (Nat.le_refl _) _).trans (hb1.mono (by simp))
  have hk := (Blk.new w 51 #[.int .i64 h.untl, .int .i64 h.off, .int .u8 h.mark]).below hb1 (by simp)
  have c0 : w1.cell? ⟨w.heap.size, 0, none⟩ = some (.int .i64 h.untl) := hk.cell 0
  have c1 : w1.cell? ⟨w.heap.size, 1, none⟩ = some (.int .i64 h.off) := hk.cell 1
  have c2 : w1.cell? ⟨w.heap.size, 2, none⟩ = some (.int .u8 h.mark) := hk.cell 2
  clear hb1 hk
  cases hp : h.paused now
  · have hp' := Lib.hid hp
    clear hp
    go_wp2_with fail
    refine (isOff_any h now _).mono ?_
    rintro e w2 ⟨rfl, hb2⟩
    go_wp2
    go_ret
    exact ⟨by rw [hp'.out]; rfl, hb.trans (hb2.mono hb.size)⟩
  · have hp' := Lib.hid hp
    clear hp
    go_wp2
    go_ret
    exact ⟨by rw [hp'.out]; rfl, hb⟩

theorem pat_other {p : Int} (h3 : p ≠ 3) (h2 : p ≠ 2) (h1 : p ≠ 1) : patB p = ⟨#[]⟩ := by unfold patB; rw [if_neg h3, if_neg h2, if_neg h1]

theorem pattern_any (p : Int) (w : World) : Calls Try.prog 41 #[.int .u8 p] w fun e w' => e = .returned (.string (patB p)) ∧ w = w' := by
  by_cases h3 : p = 3
  · subst h3
    go_enter Try.func41, Try.ntmps41
    go_wp2
    go_ret
    exact ⟨rfl, rfl⟩
  · by_cases h2 : p = 2
    · subst h2
      go_enter Try.func41, Try.ntmps41
      go_wp2
      go_ret
      exact ⟨rfl, rfl⟩
    · by_cases h1 : p = 1
      · subst h1
        go_enter Try.func41, Try.ntmps41
        go_wp2
        go_ret
        exact ⟨rfl, rfl⟩
      · have hp := Lib.hid (pat_other h3 h2 h1)
        go_enter Try.func41, Try.ntmps41
        go_wp2
        go_ret
        exact ⟨by rw [hp.out]; rfl, rfl⟩

theorem period_any (p : Int) (w : World) : Calls Try.prog 40 #[.int .u8 p] w fun e w' => e = .returned (.int .i64 (patB p).size) ∧ w = w' := by
  have hs := patB_size p
  go_enter Try.func40, Try.ntmps40
  go_wp2_with fail
  refine (pattern_any p _).mono ?_
  rintro e w1 ⟨rfl, rfl⟩
  go_wp2
  go_ret
  exact ⟨rfl, rfl⟩

theorem patAt_eq (p : Int) (i : Nat) (h : i < (patB p).size) : patAt p i = (((patB p)[i]'h).toNat : Int) := by
  unfold patAt
  have h' : i < (patB p).data.size := h
  rw [Array.getElem?_eq_getElem h']
  rfl

theorem sound_no {p ph : Int} (h : (patB p).size = 0 ∨ ph < 0) : soundS p ph = false := by
  unfold soundS
  rcases h with h | h
  · simp [h]
  · simp [show ¬ (0 ≤ ph) by omega]
theorem sound_yes {p ph : Int} (h0 : 0 < (patB p).size) (h1 : 0 ≤ ph) : soundS p ph = (patAt p (ph % ((patB p).size : Int)).toNat == 49) := by
  unfold soundS
  simp [h0, h1]

theorem sound_any (p ph : Int) (w : World) : Calls Try.prog 32 #[.int .u8 p, .int .i64 ph] w fun e w' => e = .returned (.bool (soundS p ph)) ∧ Below w.heap.size w w' := by
  have hs := patB_size p
  by_cases h0 : 0 < (patB p).size
  · by_cases h1 : 0 ≤ ph
    · have HF := Lib.hid (sound_yes h0 h1)
      go_enter Try.func32, Try.ntmps32
      go_wp2_with fail
      refine (period_any p _).mono ?_
      rintro e w1 ⟨rfl, rfl⟩
      go_wp2_with fail
      refine wp_region_lay (by kernel_rfl) (by kernel_rfl) ?_
      have hm0 : 0 ≤ ph % ((patB p).size : Int) := Int.emod_nonneg _ (by omega)
      have hm1 : ph % ((patB p).size : Int) < ((patB p).size : Int) := Int.emod_lt_of_pos _ (by omega)
      repeat (go_big_quiet_step ((go_at_call 41; exact calls_lay_same (pattern_any _ _))))
      refine wpQuiet_nil ?_
      rintro w1 ⟨p1, rfl⟩
      have hb := lay_below w p1.n p1.os
      generalize lay w p1.n p1.os = w1 at *
      go_wp2
      go_ret
      exact ⟨by rw [HF.out, patAt_eq _ _ (by omega)]; rfl, hb⟩
    · have HF := Lib.hid (sound_no (p := p) (.inr (by omega : ph < 0)))
      have hneg : decide (0 ≤ ph) = false := by simpa using h1
      go_enter Try.func32, Try.ntmps32
      go_wp2_with fail
      refine (period_any p _).mono ?_
      rintro e w1 ⟨rfl, rfl⟩
      go_wp2_with fail
      refine wp_region_lay (by kernel_rfl) (by kernel_rfl) ?_
      repeat (go_big_quiet_step (fail))
      refine wpQuiet_nil ?_
      rintro w1 ⟨p1, rfl⟩
      have hb := lay_below w p1.n p1.os
      generalize lay w p1.n p1.os = w1 at *
      go_wp2
      go_ret
      exact ⟨by rw [HF.out]; rfl, hb⟩
  · have HF := Lib.hid (sound_no (p := p) (ph := ph) (.inl (by omega)))
    have h0' : Hid ((patB p).size = 0) := by unfold Hid; omega
    clear h0
    go_enter Try.func32, Try.ntmps32
    go_wp2_with fail
    refine (period_any p _).mono ?_
    rintro e w1 ⟨rfl, rfl⟩
    rw [h0'.out]
    go_wp2_with fail
    refine wp_region_lay (by kernel_rfl) (by kernel_rfl) ?_
    repeat (go_big_quiet_step (fail))
    refine wpQuiet_nil ?_
    rintro w1 ⟨p1, rfl⟩
    have hb := lay_below w p1.n p1.os
    generalize lay w p1.n p1.os = w1 at *
    go_wp2
    go_ret
    exact ⟨by rw [HF.out]; rfl, hb⟩

theorem pnew_any (w : World) : Calls Try.prog 16 #[] w fun e w' => e = .returned (.pointer (some ⟨w.heap.size, 0, none⟩)) ∧ w' = w.alloc (.cells #[.int .u8 0, .int .i64 0] 74) := by
  go_enter Try.func16, Try.ntmps16
  go_wp2
  go_ret
  exact ⟨rfl, rfl⟩
end Go.Proofs.Ytllkokcknlefgaa
