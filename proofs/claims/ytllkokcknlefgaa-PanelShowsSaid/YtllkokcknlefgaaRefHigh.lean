/- The walk of the document's Highest. -/
import Derived.Test.YtllkokcknlefgaaTop
namespace Go.Proofs.Ytllkokcknlefgaa
open Go.RowKit Go.Shelf S

def heard (loud : Bool) (x : Life) : Bool := x.lit && !(loud && x.acked)

set_option maxHeartbeats 1000000 in
theorem rhigh_any (loud : Bool) (l : List Light) (A : Option Addr) (n c : Nat) (w : World) (hr : Rd w shLight A n l) :
    Calls Try.prog 14 #[.slice A n c, .bool loud] w fun e w' => e = .returned (.int .u8 (topOf (heard loud) l)) ∧ w = w' := by
  have hn : n ≤ 9223372036854775807 := hr.2.1
  have HL := hide hr.1
  go_enter Try.func14, Try.ntmps14
  go_wp2
  go_loop [5, 6] (fun v i => ∃ k : Nat, k ≤ n ∧ i = .int .i64 k ∧ v = .int .u8 (topOf (heard loud) (l.take k))) (fun _ i => n - (intOf i).toNat)
  case atStart => exact ⟨0, Nat.zero_le _, rfl, rfl⟩
  case round =>
    obtain ⟨k, hk, rfl, rfl⟩ := hrel
    by_cases hlt : k < n
    · obtain ⟨b, off, x, rfl, _, hx, c0, c1, c2, c3, c4, c5, c6⟩ := light_cells hr hlt
      have hT := hide (topOf_snoc (heard loud) (l.take k) x)
      have hts : Hid (l.take (k + 1) = l.take k ++ [x]) := by rw [List.take_add_one, hx]; rfl
      have hq : Hid (heard loud x.life = (x.life.lit && !(loud && x.life.acked))) := rfl
      clear hx hr
      cases hlit : x.life.lit
      · have hlit' := hide hlit
        go_wp2
        go_round
        case rel => exact ⟨k + 1, by omega, by go_num, by rw [hts.out, hT.out, hq.out, hlit'.out]; rfl⟩
        case measure => simp [intOf]; omega
      · have hlit' := hide hlit
        cases loud
        · by_cases hp : topOf (heard false) (l.take k) < x.prio
          · go_wp2
            go_round
            case rel => exact ⟨k + 1, by omega, by go_num, by rw [hts.out, hT.out, hq.out, hlit'.out]; simp [hp]⟩
            case measure => simp [intOf]; omega
          · have hp' : decide (topOf (heard false) (l.take k) < x.prio) = false := by simpa using hp
            go_wp2
            go_round
            case rel => exact ⟨k + 1, by omega, by go_num, by rw [hts.out, hT.out, hq.out, hlit'.out]; simp [hp]⟩
            case measure => simp [intOf]; omega
        · cases hack : x.life.acked
          · have hack' := hide hack
            by_cases hp : topOf (heard true) (l.take k) < x.prio
            · go_wp2
              go_round
              case rel => exact ⟨k + 1, by omega, by go_num, by rw [hts.out, hT.out, hq.out, hlit'.out, hack'.out]; simp [hp]⟩
              case measure => simp [intOf]; omega
            · have hp' : decide (topOf (heard true) (l.take k) < x.prio) = false := by simpa using hp
              go_wp2
              go_round
              case rel => exact ⟨k + 1, by omega, by go_num, by rw [hts.out, hT.out, hq.out, hlit'.out, hack'.out]; simp [hp]⟩
              case measure => simp [intOf]; omega
          · have hack' := hide hack
            go_wp2
            go_round
            case rel => exact ⟨k + 1, by omega, by go_num, by rw [hts.out, hT.out, hq.out, hlit'.out, hack'.out]; rfl⟩
            case measure => simp [intOf]; omega
    · go_wp2
      go_ret
      exact ⟨by rw [List.take_of_length_le (by rw [HL.out]; omega)]; rfl, rfl⟩
end Go.Proofs.Ytllkokcknlefgaa
