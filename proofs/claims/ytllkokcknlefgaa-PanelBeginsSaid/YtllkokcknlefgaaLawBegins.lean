/- The walk of PanelBegins. -/
import Derived.Test.YtllkokcknlefgaaLawSilent
import Derived.Test.YtllkokcknlefgaaShowNil
namespace Go.Proofs.Ytllkokcknlefgaa
open Go.RowKit Go.Shelf S

/-- The one light of this law. -/
def oneLit (p : Int) : Light := ⟨1, p, ⟨false, true, false, 0, 0⟩⟩
/-- The panel's state behind i rounds. -/
def pst (p : Int) (i : Nat) : Pan := if i = 0 then ⟨0, 0⟩ else ⟨p, 1⟩
theorem top_one {p : Int} (h : 0 < p) : topOf Life.loud [oneLit p] = p := by
  simp [topOf, oneLit, Life.loud, h]
theorem awake (now : Int) (h : 0 ≤ now) : (⟨0, 0, 0⟩ : Hush).silent now = false := by
  simp [Hush.silent, Hush.paused, Hush.isOff]
  omega
theorem sound_first {p : Int} (h0 : 0 < p) (h1 : p < 4) : soundS p 0 = true := by
  have : p = 1 ∨ p = 2 ∨ p = 3 := by omega
  rcases this with rfl | rfl | rfl <;> decide
theorem since_self (now : Int) : sinceS now now = 0 := by simp [sinceS]
theorem audio_one {p now : Int} (h0 : 0 < p) (h : 0 ≤ now) : audioS now [oneLit p] ⟨0, 0, 0⟩ = p := by
  unfold audioS
  rw [awake now h, if_neg (by decide), top_one h0]
theorem pst_next {p : Int} (h0 : 0 < p) (i : Nat) : panS (pst p i) (1 + i) [oneLit p] ⟨0, 0, 0⟩ = pst p (i + 1) := by
  unfold panS
  rw [audio_one h0 (by omega)]
  by_cases hi : i = 0
  · subst hi
    rw [if_neg (by show ¬ p = 0; omega)]
    rfl
  · simp [pst, hi]
theorem alloc3_elim {w : World} {c1 c2 c3 : Array Value} {t1 t2 t3 : TypeId} {K : World → Prop} (h : ∀ w0, Below w.heap.size w w0 → Blk w0 w.heap.size t1 c1 → Blk w0 (w.heap.size + 1) t2 c2 → Blk w0 (w.heap.size + 1 + 1) t3 c3 → K w0) : K (((w.alloc (.cells c1 t1)).alloc (.cells c2 t2)).alloc (.cells c3 t3)) := by
  refine alloc2_elim (w := w.alloc (.cells c1 t1)) fun w0 hb k2 k3 _ => ?_
  have hs : (w.alloc (.cells c1 t1)).heap.size = w.heap.size + 1 := by simp
  rw [hs] at hb k2 k3
  exact h w0 (((Below.refl _ _).alloc (Nat.le_refl _) _).trans (hb.mono (by omega))) ((Blk.new w t1 c1).below hb (by omega)) k2 k3
theorem Rd.kept1 {α : Type} {w w' : World} {S : Shape α} {b o g n : Nat} {l : List α} (h : Rd w S (some ⟨b, o, none⟩) n l) (hK : Kept1 g w w') (hn : b ≠ g) : Rd w' S (some ⟨b, o, none⟩) n l :=
  h.keep hK.size fun b' off e hlt _ => by
    injection e with e
    injection e with e _
    subst e
    exact World.cell?_of_block (w := w) (hK.block _ hlt hn)
theorem below_kept {g : Nat} {w w0 w1 : World} (hb : Below w.heap.size w w0) (hg : w.heap.size ≤ g) (h : Kept1 g w0 w1) : Below w.heap.size w w1 := kept_below hb hg h
theorem pst_bounds (p : Int) (i : Nat) : 0 ≤ (pst p i).began ∧ (pst p i).began ≤ 1099511627776 := by
  unfold pst
  split <;> exact ⟨by simp, by simp⟩
theorem begins_out {p now : Int} {q : Pan} (h0 : 0 < p) (h : 0 ≤ now) : ∃ so L, outS q now [oneLit p] ⟨0, 0, 0⟩ = ⟨now, L, p, so, false, false⟩ ∧ (q.audio ≠ p → p < 4 → so = true) := by
  refine ⟨soundS p (sinceS now (panS q now [oneLit p] ⟨0, 0, 0⟩).began), sortL (lampsOf [oneLit p]), ?_, ?_⟩
  · have h1 : (⟨0, 0, 0⟩ : Hush).paused now = false := by simp [Hush.paused]; omega
    have h2 : (⟨0, 0, 0⟩ : Hush).isOff now = false := by simp [Hush.isOff]; omega
    unfold outS
    rw [audio_one h0 h, h1, h2]
  · intro hq h4
    unfold panS
    rw [audio_one h0 h, if_neg (fun e => hq e.symm), since_self]
    exact sound_first h0 h4

set_option maxRecDepth 100000 in
set_option maxHeartbeats 1000000 in
theorem law_begins (a b n : Int) (b0 : 0 ≤ a) (b1 : a ≤ 255) (b2 : 0 ≤ b) (b3 : b ≤ 255) (b4 : 0 ≤ n) (b5 : n ≤ 255) (w : World) :
    Calls Try.prog 7 #[.int .u8 a, .int .u8 b, .int .u8 n] w fun e w' => e = .returned (.bool true) ∧ Below w.heap.size w w' := by
  obtain ⟨k, hk⟩ : ∃ k : Nat, n % 50 = k := ⟨(n % 50).toNat, by omega⟩
  have hk50 : k < 50 := by omega
  go_enter Try.func7, Try.ntmps7
  go_wp2_with fail
  refine (dark_any _).mono ?_
  rintro e w1 ⟨rfl, hb1⟩
  go_wp2_with fail
  refine (pnew_any _).mono ?_
  rintro e w2 ⟨rfl, rfl⟩
  go_wp2_with fail
  refine alloc3_elim (K := fun w0 => Code.wp _ _ _ _ w0) ?_
  intro w2 hb2 kp kx ky
  obtain ⟨pa, hpa⟩ : ∃ pa, 1 + a % 3 = pa := ⟨_, rfl⟩
  obtain ⟨pb, hpb⟩ : ∃ pb, 1 + b % 3 = pb := ⟨_, rfl⟩
  have hx : Rd w2 shLight (some ⟨w1.heap.size + 1, 0, none⟩) 1 [oneLit pa] := Rd.of_blk1 kx (fun j => by simp [shLight, encLight, oneLit, hpa])
  have hy : Rd w2 shLight (some ⟨w1.heap.size + 1 + 1, 0, none⟩) 1 [oneLit pb] := Rd.of_blk1 ky (fun j => by simp [shLight, encLight, oneLit, hpb])
  have hb12 := below_then hb1 hb2
  obtain ⟨g, hg⟩ : ∃ g, w1.heap.size = g := ⟨_, rfl⟩
  rw [hg] at kp hx hy ⊢
  rw [hpa, hpb]
  have HG : Hid (w.heap.size ≤ g) := by unfold Hid; have := hb1.size; omega
  have hp1 : 0 < pa := by omega
  have hp4 : pa < 4 := by omega
  have hq1 : 0 < pb := by omega
  have hq4 : pb < 4 := by omega
  clear kx ky hb1 hb2 hg
  go_loopw [10, 11] (fun v i wr => ∃ j : Nat, j ≤ k ∧ v = .int .i64 (1 + j) ∧ i = .int .i64 j ∧ Blk wr g 74 #[.int .u8 (pst pa j).audio, .int .i64 (pst pa j).began] ∧ Kept1 g w2 wr) (fun _ i _ => k - (intOf i).toNat)
  case atStart => exact ⟨0, Nat.zero_le _, rfl, rfl, kp, Kept1.of_below (Below.refl _ _)⟩
  case round =>
    obtain ⟨j, hj, rfl, rfl, kpj, hK⟩ := hrel
    by_cases hlt : j < k
    · have hx' := hx.kept1 hK (by omega)
      obtain ⟨s0, s1⟩ := pst_bounds pa j
      obtain ⟨so, L, ho, hf⟩ := begins_out (now := 1 + j) (q := pst pa j) hp1 (by omega)
      go_wp2_with fail
      refine (show_any g (pst pa j) (1 + j) [oneLit pa] ⟨0, 0, 0⟩ _ 1 1 wr kpj (by simp) hx' (by omega) (by omega) (by omega) s0 s1).mono ?_
      rintro e w3 ⟨A3, m3, c3, rfl, -, kp3, hK3⟩
      rw [pst_next hp1] at kp3
      rw [ho, encOut]
      have hK' := (hK.trans_ hK3 hK.size).then_below ((Below.refl _ _).alloc (Nat.le_refl _) (.cells #[.int .i64 (1 + j), .slice A3 m3 c3, .int .u8 pa, .bool so, .bool false, .bool false] 32))
      have kp4 := kp3.alloc (.cells #[.int .i64 (1 + j), .slice A3 m3 c3, .int .u8 pa, .bool so, .bool false, .bool false] 32)
      clear kp3 hK3 ho kpj hK
      by_cases hj0 : j = 0
      · have hso : so = true := hf (by rw [hj0]; show (0 : Int) ≠ pa; omega) hp4
        have hj' : ((j : Int) == 0) = true := by simp [hj0]
        clear hf hj0
        subst hso
        go_wp2_with fail
        go_roundw
        case rel => exact ⟨j + 1, by omega, by go_num, by go_num, kp4, hK'⟩
        case measure => simp [intOf]; omega
      · have hj' : ((j : Int) == 0) = false := by simpa using hj0
        clear hf
        go_wp2_with fail
        go_roundw
        case rel => exact ⟨j + 1, by omega, by go_num, by go_num, kp4, hK'⟩
        case measure => simp [intOf]; omega
    · have hjk : j = k := by omega
      subst hjk
      have hy' := hy.kept1 hK (by omega)
      obtain ⟨s0, s1⟩ := pst_bounds pa j
      obtain ⟨so, L, ho, hf⟩ := begins_out (now := 1 + j) (q := pst pa j) hq1 (by omega)
      obtain ⟨sz, Lz, hz, hfz⟩ := begins_out (now := 1 + j) (q := ⟨0, 0⟩) hq1 (by omega)
      have hsz : sz = true := hfz (by show (0 : Int) ≠ pb; omega) hq4
      subst hsz
      clear hfz
      go_wp2_with fail
      refine (show_any g (pst pa j) (1 + j) [oneLit pb] ⟨0, 0, 0⟩ _ 1 1 wr kpj (by simp) hy' (by omega) (by omega) (by omega) s0 s1).mono ?_
      rintro e w3 ⟨A3, m3, c3, rfl, -, -, hK3⟩
      rw [ho, encOut]
      have hK' := hK.trans_ hK3 hK.size
      go_wp2_with fail
      refine alloc1_elim (K := fun w0 => Calls _ _ _ w0 _) ?_
      intro w4 hb4 ko hs4
      have hK4 := hK'.then_below hb4
      have hy4 := hy.kept1 hK4 (by omega)
      refine (shownil_any (1 + j) [oneLit pb] ⟨0, 0, 0⟩ _ 1 1 w4 (by simp) hy4 (by omega) (by omega) (by omega)).mono ?_
      rintro e w5 ⟨A5, m5, c5, rfl, -, hb5⟩
      rw [hz, encOut]
      have hK5 := hK4.then_below hb5
      have ko5 := Blk.below ko hb5 ko.lt
      obtain ⟨o0, o1, o2, o3, o4, o5⟩ := out_cells ko5
      have hend : Below w.heap.size w w5 := below_kept hb12 HG.out hK5
      clear ko hb4 hs4 hK4 hy4 hb5 hz ho hK' hK3 hK hy' kpj
      have hlt5 := ko5.lt
      by_cases hab : a % 3 = b % 3
      · have hab' : (a % 3 == b % 3) = true := by simp [hab]
        by_cases hk0 : j = 0
        · have hso : so = true := hf (by rw [hk0]; show (0 : Int) ≠ pb; omega) hq4
          subst hso
          have hkd : decide ((0 : Int) < j) = false := by simp; omega
          clear hf hk0 hab
          go_wp2
          all_goals go_ret
          all_goals exact ⟨rfl, hend.alloc hend.size _⟩
        · have hkd : decide ((0 : Int) < j) = true := by simp; omega
          have hkp : (0 : Int) < j := by omega
          clear hf hk0 hab
          go_wp2
          all_goals go_ret
          all_goals exact ⟨rfl, hend.alloc hend.size _⟩
      · have hab' : (a % 3 == b % 3) = false := by simpa using hab
        have hso : so = true := hf (by unfold pst; split <;> simp <;> omega) hq4
        subst hso
        clear hf hab
        go_wp2
        all_goals go_ret
        all_goals exact ⟨rfl, hend.alloc hend.size _⟩
end Go.Proofs.Ytllkokcknlefgaa
