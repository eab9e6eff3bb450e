/- The walk of PanelLamps. -/
import Derived.Test.YtllkokcknlefgaaDark
import Derived.Test.YtllkokcknlefgaaRefShow
namespace Go.Proofs.Ytllkokcknlefgaa
open Go.RowKit Go.Shelf S

theorem ofL_short (turn : Bool) (l : List One) : (ofL turn (l.take 20)).length ≤ 65536 := by
  rw [ofL_len, List.length_take]
  omega
theorem heard_all : heard false = fun x => x.lit := by
  funext x
  simp [heard]

set_option maxRecDepth 100000 in
theorem law_lamps (turn : Bool) (l : List One) (hf : ∀ x ∈ l, x.fits) (A : Option Addr) (n c : Nat) (w : World) (hr : Rd w shOne A n l) :
    Calls Try.prog 3 #[.slice A n c, .bool turn] w fun e w' => e = .returned (.bool true) ∧ Below w.heap.size w w' := by
  have hn : n ≤ 9223372036854775807 := hr.2.1
  have HF := hide hf
  clear hf
  by_cases hbig : 40 < n
  · go_enter Try.func3, Try.ntmps3
    go_wp2_with fail
    refine (dark_any _).mono ?_
    rintro e w1 ⟨rfl, hb1⟩
    go_wp2_with fail
    refine (dark_any _).mono ?_
    rintro e w2 ⟨rfl, hb2⟩
    go_wp2
    go_ret
    exact ⟨rfl, below_then hb1 hb2⟩
  · go_enter Try.func3, Try.ntmps3
    go_wp2_with fail
    refine (dark_any _).mono ?_
    rintro e w1 ⟨rfl, hb1⟩
    have hr1 := hr.below hb1
    go_wp2_with fail
    refine (of_any turn l HF.out A n c w1 hr1).mono ?_
    rintro e w2 ⟨v, v', rfl, hv, hv', hb2⟩
    have hd := hide (ofL_nodup turn (l.take 20))
    have hs := ofL_short turn (l.take 20)
    rw [List.take_take, Nat.min_self] at hs
    obtain ⟨A1, c1, rfl, R1⟩ := hv.slice_
    obtain ⟨A2, c2, rfl, R2⟩ := hv'.slice_
    have hb12 := below_then hb1 hb2
    clear hv hv' hb1 hb2 hr1 hr
    generalize ofL turn (l.take 20) = L at *
    go_wp2_with fail
    refine (lamps_any L hd.out _ _ _ _ R1 hs).mono ?_
    rintro e w3 ⟨v, rfl, A3, m3, c3, rfl, R3, hb3, -⟩
    go_wp2_with fail
    refine (rlamps_any L _ _ _ _ (R2.below hb3) hs).mono ?_
    rintro e w4 ⟨v, rfl, A4, m4, c4, rfl, R4, hb4, -⟩
    have R3' := R3.below hb4
    have hm : m4 = m3 := by rw [← R4.1, ← R3.1]
    subst hm
    have hm4 : m4 ≤ 65536 := by
      rw [← R3.1, (sortL_perm _).length_eq]
      exact Nat.le_trans (lampsOf_le _) hs
    go_wp2_with fail
    refine (same_eq ⟨0, sortL (lampsOf L), 0, false, false, false⟩ (sortL (lampsOf L)) A3 A4 m4 c3 c4 _ R3' R4 hm4).mono ?_
    rintro e w5 ⟨rfl, hb5⟩
    have hsame : decide ((⟨0, sortL (lampsOf L), 0, false, false, false⟩ : Out).lamps = sortL (lampsOf L)) = true := by simp
    rw [hsame]
    have hb35 := below_then hb3 (below_then hb4 hb5)
    clear R3 R3' R4 hb3 hb4 hb5 hsame
    go_wp2_with fail
    refine (highest_any L _ _ _ _ (R1.below hb35)).mono ?_
    rintro e w6 ⟨rfl, hb6⟩
    have hb36 := below_then hb35 hb6
    go_wp2_with fail
    refine (rhigh_any false L _ _ _ _ (R2.below hb36)).mono ?_
    rintro e w7 ⟨rfl, rfl⟩
    rw [heard_all]
    go_wp2_with fail
    refine (loudest_any L _ _ _ _ (R1.below hb36)).mono ?_
    rintro e w8 ⟨rfl, hb8⟩
    have hb38 := below_then hb36 hb8
    go_wp2_with fail
    refine (rhigh_any true L _ _ _ _ (R2.below hb38)).mono ?_
    rintro e w9 ⟨rfl, rfl⟩
    rw [heard_loud]
    go_wp2
    go_ret
    exact ⟨rfl, below_then hb12 hb38⟩
end Go.Proofs.Ytllkokcknlefgaa
