/- The walk of PanelOrder. -/
import Derived.Test.YtllkokcknlefgaaLawLamps
import Derived.Test.YtllkokcknlefgaaSpecOrder
namespace Go.Proofs.Ytllkokcknlefgaa
open Go.RowKit Go.Shelf S

theorem perm_nodup {l m : List Light} (hd : (l.map (·.cond)).Nodup) (hp : l.Perm m) : (m.map (·.cond)).Nodup := (hp.map _).nodup_iff.1 hd

set_option maxRecDepth 100000 in
set_option maxHeartbeats 1000000 in
theorem law_order (turn : Int) (b0 : 0 ≤ turn) (b1 : turn ≤ 255) (l : List One) (hf : ∀ x ∈ l, x.fits) (A : Option Addr) (n c : Nat) (w : World) (hr : Rd w shOne A n l) :
    Calls Try.prog 4 #[.slice A n c, .int .u8 turn] w fun e w' => e = .returned (.bool true) ∧ Below w.heap.size w w' := by
  have hn : n ≤ 9223372036854775807 := hr.2.1
  have HF := hide hf
  clear hf
  by_cases hbig : 20 < n
  · go_enter Try.func4, Try.ntmps4
    go_wp2_with fail
    refine (dark_any _).mono ?_
    rintro e w1 ⟨rfl, hb1⟩
    go_wp2_with fail
    refine (dark_any _).mono ?_
    rintro e w2 ⟨rfl, hb2⟩
    go_wp2
    go_ret
    exact ⟨rfl, below_then hb1 hb2⟩
  · go_enter Try.func4, Try.ntmps4
    go_wp2_with fail
    refine (dark_any _).mono ?_
    rintro e w1 ⟨rfl, hb1⟩
    have hr1 := hr.below hb1
    go_wp2_with fail
    refine (of_any false l HF.out A n c w1 hr1).mono ?_
    rintro e w2 ⟨v, v', rfl, hv, -, hb2⟩
    have hd := hide (ofL_nodup false (l.take 20))
    have hs := ofL_short false (l.take 20)
    rw [List.take_take, Nat.min_self] at hs
    have hs20 : (ofL false (l.take 20)).length ≤ 20 := by rw [ofL_len, List.length_take]; omega
    obtain ⟨A1, c1, rfl, R1⟩ := hv.slice_
    have hb12 := below_then hb1 hb2
    clear hv hb1 hb2 hr1 hr
    generalize ofL false (l.take 20) = L at *
    obtain ⟨B, hB⟩ : ∃ B, B = w2.heap.size := ⟨_, rfl⟩
    have HB := hide hB
    obtain ⟨k, hk⟩ : ∃ k, L.length = k := ⟨_, rfl⟩
    rw [hk] at R1 hs hs20 ⊢
    have HK := hide hk
    obtain ⟨t, rfl⟩ : ∃ t : Nat, turn = t := ⟨turn.toNat, by omega⟩
    have hb12' : Below w.heap.size w w2 := hb12
    clear hB hk
    go_wp2_with fail
    go_loopw [7, 8] (fun v i wr => ∃ j : Nat, j ≤ k ∧ i = .int .i64 j ∧ Own wr shLight B 40 v (turned L t j) ∧ Below B w2 wr) (fun _ i _ => k - (intOf i).toNat)
    case atStart => exact ⟨0, Nat.zero_le _, rfl, Own.nil_ _ _ _ _, Below.refl _ _⟩
    case round =>
      obtain ⟨j, hj, rfl, hown, hb⟩ := hrel
      by_cases hlt : j < k
      · have hb' : Below w2.heap.size w2 wr := by rw [← HB.out]; exact hb
        have hix : (k - 1 - j + t) % k < k := Nat.mod_lt _ (by omega)
        have hI : Int.tmod ((k : Int) - 1 - j + t) k = (((k - 1 - j + t) % k : Nat) : Int) := by
          rw [Int.tmod_eq_emod_of_nonneg (by omega), Int.natCast_emod]
          congr 1
          omega
        have hsn : ∀ x, L[(k - 1 - j + t) % k]? = some x → turned L t (j + 1) = turned L t j ++ [x] := fun x hx => turned_snoc (by rw [HK.out]; exact hx)
        have HSN := hide hsn
        clear hsn
        generalize (k - 1 - j + t) % k = idx at *
        obtain ⟨b, off, x, rfl, hbl, hx, d0, d1, d2, d3, d4, d5, d6⟩ := light_cells (R1.below hb') hix
        have hsn : Hid (turned L t (j + 1) = turned L t j ++ [x]) := HSN.out x hx
        have hl1 : (turned L t j).length ≤ 68719476736 := by rw [turned_len]; omega
        have hsz := hb.size
        have hBw : B ≤ wr.heap.size := by have := HB.out; omega
        clear hb' hx HSN
        generalize turned L t j = M at *
        go_wp2_with (first | (at_builtin; refine app_one eltLight B rfl _ _ rfl u7 M x rfl _ rfl rfl _ rfl hown hb hBw hl1 ?_; intro v1 w3 hown1 hb1 hg1 hat1 hs1))
        go_roundw
        case rel => exact ⟨j + 1, by omega, by go_num, by rw [hsn.out]; exact hown1, hb1⟩
        case measure => simp [intOf]; omega
      · have hjk : j = k := by omega
        have hP : Hid (L.Perm (turned L t k)) := by rw [← HK.out]; exact turned_perm L t
        have hb' : Below w2.heap.size w2 wr := by rw [← HB.out]; exact hb
        have hd' : Hid ((turned L t k).map (·.cond)).Nodup := perm_nodup hd.out hP.out
        have hlen : (turned L t k).length = k := turned_len _ _ _
        rw [hjk] at hown
        obtain ⟨A2, c2, rfl, R2⟩ := hown.slice_
        have hlt' : ¬ j < k := hlt
        have RL := R1.below hb'
        have hS := hide (sortL_of_perm hd.out hP.out)
        have hT := hide (topOf_perm Life.loud hP.out)
        have hb02 := below_then hb12 hb'
        rw [hlen] at R2 ⊢
        clear hb hb' hown R1 hlen hP
        generalize turned L t k = M at *
        go_wp2_with fail
        refine (lamps_any L hd.out _ _ _ _ RL (by omega)).mono ?_
        rintro e w3 ⟨v, rfl, A3, m3, c3, rfl, R3, hb3, -⟩
        go_wp2_with fail
        refine (lamps_any M hd'.out _ _ _ _ (R2.below hb3) (by omega)).mono ?_
        rintro e w4 ⟨v, rfl, A4, m4, c4, rfl, R4, hb4, -⟩
        rw [hS.out] at R4
        have R3' := R3.below hb4
        have hm : m4 = m3 := by rw [← R4.1, ← R3.1]
        subst hm
        have hm4 : m4 ≤ 65536 := by
          rw [← R3.1, (sortL_perm _).length_eq]
          refine Nat.le_trans (lampsOf_le _) ?_
          rw [HK.out]
          omega
        go_wp2_with fail
        refine (same_eq ⟨0, sortL (lampsOf L), 0, false, false, false⟩ (sortL (lampsOf L)) A3 A4 m4 c3 c4 _ R3' R4 hm4).mono ?_
        rintro e w5 ⟨rfl, hb5⟩
        have hsame : decide ((⟨0, sortL (lampsOf L), 0, false, false, false⟩ : Out).lamps = sortL (lampsOf L)) = true := by simp
        rw [hsame]
        have hb35 := below_then hb3 (below_then hb4 hb5)
        clear R3 R3' R4 hb3 hb4 hb5 hsame
        go_wp2_with fail
        refine (loudest_any L _ _ _ _ (RL.below hb35)).mono ?_
        rintro e w6 ⟨rfl, hb6⟩
        have hb36 := below_then hb35 hb6
        go_wp2_with fail
        refine (loudest_any M _ _ _ _ (R2.below hb36)).mono ?_
        rintro e w7 ⟨rfl, hb7⟩
        rw [hT.out]
        go_wp2
        go_ret
        exact ⟨rfl, below_then hb02 (below_then hb36 hb7)⟩
end Go.Proofs.Ytllkokcknlefgaa
