/- The walk of panel.top, Loudest, Highest and the two tests that they ask. -/
import Derived.Test.YtllkokcknlefgaaShapes
import Derived.Test.YtllkokcknlefgaaProg
import Derived.WalkKit
import Derived.KernelRfl
import Derived.Deep.QuietTactic
import Derived.BigQuiet
import Derived.Lib.Hide
import Derived.Shelf.Abstract
namespace Go.Proofs.Ytllkokcknlefgaa
open Go.RowKit Go.Shelf S

theorem loud_any (x : Life) (w : World) : Calls Try.prog 26 #[.agg #[.bool x.on, .bool x.lit, .bool x.acked, .int .i64 x.since, .int .i64 x.stage]] w fun e w' => e = .returned (.bool x.loud) ∧ Below w.heap.size w w' := by
  obtain ⟨on, lit, acked, since, stage⟩ := x
  unfold Life.loud
  cases lit
  all_goals
    go_enter Try.func26, Try.ntmps26
    go_wp2
    go_ret
    exact ⟨by simp, (Below.refl _ _).alloc (Nat.le_refl _) _⟩

theorem isLit_any (x : Life) (w : World) : Calls Try.prog 25 #[.agg #[.bool x.on, .bool x.lit, .bool x.acked, .int .i64 x.since, .int .i64 x.stage]] w fun e w' => e = .returned (.bool x.lit) ∧ Below w.heap.size w w' := by
  obtain ⟨on, lit, acked, since, stage⟩ := x
  go_enter Try.func25, Try.ntmps25
  go_wp2
  go_ret
  exact ⟨rfl, (Below.refl _ _).alloc (Nat.le_refl _) _⟩

theorem topOf_snoc (p : Life → Bool) (l : List Light) (x : Light) : topOf p (l ++ [x]) = if p x.life then (if topOf p l < x.prio then x.prio else topOf p l) else topOf p l := by
  unfold topOf
  rw [List.foldl_append]
  rfl

set_option maxHeartbeats 400000 in
theorem top_any (g : Nat) (p : Life → Bool) (eg : ∀ args w, (callFunc g args).run Try.prog w = .ok (.enter g args) w)
    (hp : ∀ (x : Life) (W : World), Calls Try.prog g #[.agg #[.bool x.on, .bool x.lit, .bool x.acked, .int .i64 x.since, .int .i64 x.stage]] W fun e w' => e = .returned (.bool (p x)) ∧ Below W.heap.size W w')
    (l : List Light) (A : Option Addr) (n c : Nat) (w : World) (hr : Rd w shLight A n l) :
    Calls Try.prog 24 #[.slice A n c, .func (.func g) #[] #[]] w fun e w' => e = .returned (.int .u8 (topOf p l)) ∧ Below w.heap.size w w' := by
  have hn : n ≤ 9223372036854775807 := hr.2.1
  have hl : l.length = n := hr.1
  have HP := hide hp
  clear hp
  have HL := hide hl
  clear hl
  go_enter Try.func24, Try.ntmps24
  go_wp2
  go_loopw [5, 10] (fun v i wr => ∃ k : Nat, k ≤ n ∧ i = .int .i64 k ∧ v = .int .u8 (topOf p (l.take k)) ∧ Below w.heap.size w wr) (fun _ i _ => n - (intOf i).toNat)
  case atStart => exact ⟨0, Nat.zero_le _, rfl, rfl, Below.refl _ _⟩
  case round =>
    obtain ⟨k, hk, rfl, rfl, hb⟩ := hrel
    by_cases hlt : k < n
    · obtain ⟨b, off, x, rfl, had, hx, c0, c1, c2, c3, c4, c5, c6⟩ := light_cells (hr.below hb) hlt
      go_wp2_with fail
      refine (HP.out x.life _).mono ?_
      rintro e w1 ⟨rfl, hb1⟩
      have hc1 : w1.cell? ⟨wr.heap.size, 1, none⟩ = some (.int .u8 x.prio) := ((Blk.new wr 40 _).below hb1 (by simp)).cell 1
      have hT := hide (topOf_snoc p (l.take k) x)
      have hbw : Below w.heap.size w w1 := hb.trans (((Below.refl _ _).alloc hb.size _).trans (hb1.mono (by simp; have := hb.size; omega)))
      have hts : Hid (l.take (k + 1) = l.take k ++ [x]) := by rw [List.take_add_one, hx]; rfl
      clear c0 c1 c2 c3 c4 c5 c6 hb1 had hx hb
      cases hpx : p x.life
      · have hpx' := hide hpx
        clear hpx
        go_wp2
        go_roundw
        case rel => exact ⟨k + 1, by omega, by go_num, by rw [hts.out, hT.out, hpx'.out]; rfl, hbw⟩
        case measure => simp [intOf]; omega
      · have hpx' := hide hpx
        clear hpx
        go_wp2
        go_roundw
        case rel => exact ⟨k + 1, by omega, by go_num, by rw [hts.out, hT.out, hpx'.out]; rfl, hbw⟩
        case measure => simp [intOf]; omega
    · go_wp2
      go_ret
      exact ⟨by rw [List.take_of_length_le (by rw [HL.out]; omega)]; rfl, hb⟩

theorem loudest_any (l : List Light) (A : Option Addr) (n c : Nat) (w : World) (hr : Rd w shLight A n l) :
    Calls Try.prog 15 #[.slice A n c] w fun e w' => e = .returned (.int .u8 (topOf Life.loud l)) ∧ Below w.heap.size w w' := by
  have h := fun W (hW : Rd W shLight A n l) => top_any 26 Life.loud (enters_of Try.func26 (by kernel_rfl) rfl) loud_any l A n c W hW
  have H := hide h
  clear h
  go_enter Try.func15, Try.ntmps15
  go_wp2_with fail
  refine (H.out _ hr).mono ?_
  rintro e w1 ⟨rfl, hb⟩
  go_wp2
  go_ret
  exact ⟨rfl, hb⟩

theorem highest_any (l : List Light) (A : Option Addr) (n c : Nat) (w : World) (hr : Rd w shLight A n l) :
    Calls Try.prog 13 #[.slice A n c] w fun e w' => e = .returned (.int .u8 (topOf (fun x => x.lit) l)) ∧ Below w.heap.size w w' := by
  have h := fun W (hW : Rd W shLight A n l) => top_any 25 (fun x => x.lit) (enters_of Try.func25 (by kernel_rfl) rfl) isLit_any l A n c W hW
  have H := hide h
  clear h
  go_enter Try.func13, Try.ntmps13
  go_wp2_with fail
  refine (H.out _ hr).mono ?_
  rintro e w1 ⟨rfl, hb⟩
  go_wp2
  go_ret
  exact ⟨rfl, hb⟩
end Go.Proofs.Ytllkokcknlefgaa
