/- The walk of the document's Sound. -/
import Derived.Test.YtllkokcknlefgaaRefSmall
namespace Go.Proofs.Ytllkokcknlefgaa
open Go.RowKit Go.Shelf S

theorem any_take {q : Int → Bool} {l : List Int} {k : Nat} {x : Int} (h : (l.take k).any q = false) (hx : l[k]? = some x) : (l.take (k + 1)).any q = q x := by
  rw [List.take_add_one, hx, List.any_append, h]
  simp
theorem any_hit {q : Int → Bool} {l : List Int} {k : Nat} {x : Int} (hx : l[k]? = some x) (hq : q x = true) : l.any q = true :=
  List.any_eq_true.2 ⟨x, List.mem_of_getElem? hx, hq⟩

theorem pulses_le (p : Int) : (pulsesL p).length ≤ 10 := by
  unfold pulsesL
  split
  · decide
  · split
    · decide
    · split <;> decide

set_option maxHeartbeats 400000 in
theorem rsound_in (p ph : Int) (w : World) (hp : p = 3 ∨ p = 2 ∨ p = 1) (h1 : 0 ≤ ph) : Calls Try.prog 27 #[.int .u8 p, .int .i64 ph] w fun e w' => e = .returned (.bool (soundS p ph)) ∧ Below w.heap.size w w' := by
  have h0 : 0 < (patB p).size := by rcases hp with rfl | rfl | rfl <;> decide
  have HF := Lib.hid (sound_pulses h0 h1)
  have hs := patB_size p
  have hl := pulses_le p
  have hPU := hide (pulses_any p w hp)
  clear hp
  have hm0 : 0 ≤ ph % ((patB p).size : Int) := Int.emod_nonneg _ (by omega)
  have hz : (((patB p).size : Int) == 0) = false := by rw [beq_eq_false_iff_ne]; omega
  have hd : decide (ph < 0) = false := by rw [decide_eq_false_iff_not]; omega
  generalize hN : (patB p).size = N at *
  clear hN
  generalize hL : pulsesL p = L at *
  clear hL
  go_enter Try.func27, Try.ntmps27
  go_wp2_with fail
  refine (unhide hPU).mono ?_
  rintro e w1 ⟨rfl, rfl⟩
  have hb : Below w.heap.size w (w.alloc (.cells (L.map (Value.int .i64)).toArray 2)) := (Below.refl _ _).alloc (Nat.le_refl _) _
  have hk := Blk.new w 2 (L.map (Value.int .i64)).toArray
  generalize w.alloc (.cells (L.map (Value.int .i64)).toArray 2) = w1 at *
  go_wp2_with fail
  go_loopw [7] (fun i wr => ∃ k : Nat, k ≤ L.length ∧ i = .int .i64 k ∧ Hid ((L.take k).any (fun x => ph % (N : Int) == x) = false) ∧ ∃ q, wr = w1.drewN q) (fun i _ => L.length - (intOf i).toNat)
  case atStart => exact ⟨0, Nat.zero_le _, rfl, rfl, 0, rfl⟩
  case round =>
    obtain ⟨k, hkn, rfl, hany, q, rfl⟩ := hrel
    by_cases hlt : k < L.length
    · have hx : L[k]? = some L[k] := List.getElem?_eq_getElem hlt
      generalize L[k] = x at hx
      have hc : w1.cell? ⟨w.heap.size, k, none⟩ = some (.int .i64 x) := by
        rw [hk.cell k]
        simp [hx]
      have HX := hide hx
      clear hx
      by_cases hq : ph % (N : Int) = x
      · have hq' : (ph % (N : Int) == x) = true := by simpa using hq
        have hres : Hid (L.any (fun x => ph % (N : Int) == x) = true) := any_hit HX.out hq'
        clear hq
        go_wp2_with fail
        go_quiet (fail)
        go_wp2
        go_ret
        exact ⟨by rw [HF.out, hres.out]; rfl, pw (pw hb _) _⟩
      · have hq' : (ph % (N : Int) == x) = false := by simpa using hq
        have hres : Hid ((L.take (k + 1)).any (fun x => ph % (N : Int) == x) = false) := by unfold Hid; rw [any_take hany.out HX.out]; exact hq'
        clear hq
        go_wp2_with fail
        go_quiet (fail)
        go_wp2
        go_roundw
        case rel => exact ⟨k + 1, by omega, by go_num, hres, q + nq, rfl⟩
        case measure => simp [intOf]; omega
    · have hres : Hid (L.any (fun x => ph % (N : Int) == x) = false) := by
        have := hany.out
        rwa [List.take_of_length_le (by omega)] at this
      go_wp2
      go_ret
      exact ⟨by rw [HF.out, hres.out]; rfl, pw hb _⟩

theorem rsound_any (p ph : Int) (w : World) : Calls Try.prog 27 #[.int .u8 p, .int .i64 ph] w fun e w' => e = .returned (.bool (soundS p ph)) ∧ Below w.heap.size w w' := by
  by_cases hp : p = 3 ∨ p = 2 ∨ p = 1
  · by_cases h1 : 0 ≤ ph
    · exact rsound_in p ph w hp h1
    · have HF := Lib.hid (sound_no (p := p) (ph := ph) (.inr (by omega)))
      have hPU := hide (pulses_any p w hp)
      have hz : (((patB p).size : Int) == 0) = false := by rcases hp with rfl | rfl | rfl <;> rfl
      have hd : decide (ph < 0) = true := by rw [decide_eq_true_iff]; omega
      clear hp
      generalize hN : (patB p).size = N at *
      clear hN
      generalize hL : pulsesL p = L at *
      clear hL
      go_enter Try.func27, Try.ntmps27
      go_wp2_with fail
      refine (unhide hPU).mono ?_
      rintro e w1 ⟨rfl, rfl⟩
      go_wp2
      go_ret
      exact ⟨by rw [HF.out]; rfl, (Below.refl _ _).alloc (Nat.le_refl _) _⟩
  · have h3 : p ≠ 3 := fun h => hp (.inl h)
    have h2 : p ≠ 2 := fun h => hp (.inr (.inl h))
    have h1 : p ≠ 1 := fun h => hp (.inr (.inr h))
    have HF := Lib.hid (sound_no (p := p) (ph := ph) (.inl (by rw [pat_other h3 h2 h1]; rfl)))
    have hPU := hide (pulses_none p w h3 h2 h1)
    clear hp
    go_enter Try.func27, Try.ntmps27
    go_wp2_with fail
    refine (unhide hPU).mono ?_
    rintro e w1 ⟨rfl, rfl⟩
    go_wp2
    go_ret
    exact ⟨by rw [HF.out]; rfl, Below.refl _ _⟩
end Go.Proofs.Ytllkokcknlefgaa
