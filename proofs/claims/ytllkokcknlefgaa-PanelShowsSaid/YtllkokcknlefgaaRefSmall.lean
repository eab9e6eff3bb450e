/- The walks of the document's clock and burst, as far as the panel needs them. -/
import Derived.Test.YtllkokcknlefgaaSmall
namespace Go.Proofs.Ytllkokcknlefgaa
open Go.RowKit Go.Shelf S

theorem rheld_any (t : Int) (w : World) : Calls Try.prog 39 #[.int .i64 t] w fun e w' => e = .returned (.int .i64 (heldS t)) ∧ w = w' := by
  by_cases h0 : t < 0
  · go_enter Try.func39, Try.ntmps39
    go_wp2
    go_ret
    exact ⟨ret_num (held_neg h0).symm, rfl⟩
  · by_cases h1 : t ≤ 1099511627776
    · have h0' : 0 ≤ t := by omega
      clear h0
      go_enter Try.func39, Try.ntmps39
      go_wp2
      go_ret
      exact ⟨ret_num (held_mid h0' h1).symm, rfl⟩
    · have h1' : 1099511627776 < t := by omega
      clear h0 h1
      go_enter Try.func39, Try.ntmps39
      go_wp2
      go_ret
      exact ⟨ret_num (held_big h1').symm, rfl⟩

theorem rsince_any (now t : Int) (h0 : 0 ≤ now) (h1 : now ≤ 2199023255552) (h2 : 0 ≤ t) (h3 : t ≤ 2199023255552) (w : World) :
    Calls Try.prog 28 #[.int .i64 now, .int .i64 t] w fun e w' => e = .returned (.int .i64 (sinceS now t)) ∧ w = w' := by
  have e : Hid (sinceS now t = heldS (now - t)) := by
    unfold Hid
    by_cases h : now ≤ t
    · rw [since_le h]
      by_cases h' : now - t < 0
      · rw [held_neg h']
      · rw [held_mid (by omega) (by omega)]; omega
    · rw [since_gt h]
  have b0 : now / 2 - t / 2 ≤ 1099511627776 := by omega
  have b1 : -1099511627776 ≤ now / 2 - t / 2 := by omega
  go_enter Try.func28, Try.ntmps28
  go_wp2_with fail
  refine (rheld_any _ _).mono ?_
  rintro e1 w1 ⟨rfl, rfl⟩
  go_wp2
  go_ret
  exact ⟨ret_num (by rw [e.out]), rfl⟩

def shInt : Shape Int := ⟨1, fun x => [.int .i64 x], fun _ => rfl, fun x v hv => by
  simp only [List.mem_cons, List.not_mem_nil, or_false] at hv
  rw [hv]; rfl⟩

/-- At which ticks of a period there is a pulse; and the period. -/
def pulsesL (p : Int) : List Int := if p = 3 then [0, 2, 4, 7, 9, 16, 18, 20, 23, 25] else if p = 2 then [0, 3, 6] else if p = 1 then [0, 4] else []
theorem sound_pulses {p ph : Int} (h0 : 0 < (patB p).size) (h1 : 0 ≤ ph) : soundS p ph = (pulsesL p).any (fun x => ph % ((patB p).size : Int) == x) := by
  rw [sound_yes h0 h1]
  have key : ∀ (n : Nat) (q : Int) (L : List Int), (∀ r : Fin n, (patAt q r.val == 49) = L.any (fun x => (r.val : Int) == x)) → ∀ ph : Int, 0 ≤ ph → 0 < n → (patAt q (ph % (n : Int)).toNat == 49) = L.any (fun x => ph % (n : Int) == x) := by
    intro n q L h ph hph hn
    have hm0 : 0 ≤ ph % (n : Int) := Int.emod_nonneg _ (by omega)
    have hm1 : ph % (n : Int) < (n : Int) := Int.emod_lt_of_pos _ (by omega)
    have := h ⟨(ph % (n : Int)).toNat, by omega⟩
    rw [this]
    simp only [Int.toNat_of_nonneg hm0]
  by_cases h3 : p = 3
  · subst h3
    exact key 32 3 _ (by decide) ph h1 (by omega)
  · by_cases h2 : p = 2
    · subst h2
      exact key 24 2 _ (by decide) ph h1 (by omega)
    · by_cases h1' : p = 1
      · subst h1'
        exact key 40 1 _ (by decide) ph h1 (by omega)
      · rw [pat_other h3 h2 h1'] at h0
        exact absurd h0 (by decide)

theorem pulses_any (p : Int) (w : World) (hp : p = 3 ∨ p = 2 ∨ p = 1) :
    Calls Try.prog 38 #[.int .u8 p] w fun e w' => e = .returned (.tuple #[.slice (some ⟨w.heap.size, 0, none⟩) (pulsesL p).length (pulsesL p).length, .int .i64 (patB p).size]) ∧ w' = w.alloc (.cells ((pulsesL p).map (Value.int .i64)).toArray 2) := by
  rcases hp with rfl | rfl | rfl
  all_goals
    go_enter Try.func38, Try.ntmps38
    go_wp2
    go_ret2
    exact ⟨rfl, rfl⟩

theorem pulses_none (p : Int) (w : World) (h3 : p ≠ 3) (h2 : p ≠ 2) (h1 : p ≠ 1) :
    Calls Try.prog 38 #[.int .u8 p] w fun e w' => e = .returned (.tuple #[.slice none 0 0, .int .i64 0]) ∧ w = w' := by
  go_enter Try.func38, Try.ntmps38
  go_wp2
  go_ret2
  exact ⟨rfl, rfl⟩
end Go.Proofs.Ytllkokcknlefgaa
