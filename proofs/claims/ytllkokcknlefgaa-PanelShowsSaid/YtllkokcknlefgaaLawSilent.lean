/- The walk of PanelSilent. -/
import Derived.Test.YtllkokcknlefgaaLawLamps
namespace Go.Proofs.Ytllkokcknlefgaa
open Go.RowKit Go.Shelf S

theorem sound_zero (ph : Int) : soundS 0 ph = false := by
  have h : (patB 0).size = 0 := by decide
  simp [soundS, h]
theorem out_awake {now : Int} (L : List Light) {h : Hush} (hs : h.silent now = false) : outS ⟨0, 0⟩ now L h = { tick := now, lamps := sortL (lampsOf L), audio := topOf Life.loud L, sound := soundS (topOf Life.loud L) (sinceS now (panS ⟨0, 0⟩ now L h).began), paused := false, off := false } := by
  have h1 := hs
  unfold Hush.silent at h1
  rw [Bool.or_eq_false_iff] at h1
  simp [outS, audioS, hs, h1.1, h1.2]
theorem out_alike (now : Int) (L : List Light) : ∃ au so, ∀ h : Hush, h.silent now = false → outS ⟨0, 0⟩ now L h = ⟨now, sortL (lampsOf L), au, so, false, false⟩ := by
  refine ⟨topOf Life.loud L, soundS (topOf Life.loud L) (sinceS now (if topOf Life.loud L = 0 then (⟨0, 0⟩ : Pan) else ⟨topOf Life.loud L, now⟩).began), fun h hs => ?_⟩
  rw [out_awake L hs]
  simp [panS, audioS, hs]
theorem out_cells {w : World} {b : Nat} {t : TypeId} {v0 v1 v2 v3 v4 v5 : Value} (h : Blk w b t #[v0, v1, v2, v3, v4, v5]) : w.cell? ⟨b, 0, none⟩ = some v0 ∧ w.cell? ⟨b, 1, none⟩ = some v1 ∧ w.cell? ⟨b, 2, none⟩ = some v2 ∧ w.cell? ⟨b, 3, none⟩ = some v3 ∧ w.cell? ⟨b, 4, none⟩ = some v4 ∧ w.cell? ⟨b, 5, none⟩ = some v5 :=
  ⟨h.cell 0, h.cell 1, h.cell 2, h.cell 3, h.cell 4, h.cell 5⟩
theorem out_quiet {now : Int} (L : List Light) {h : Hush} (hs : h.silent now = true) : outS ⟨0, 0⟩ now L h = { tick := now, lamps := sortL (lampsOf L), audio := 0, sound := false, paused := h.paused now, off := h.isOff now } := by
  simp [outS, audioS, hs, sound_zero]

set_option maxRecDepth 100000 in
set_option maxHeartbeats 1000000 in
theorem law_silent (till off now : Int) (b0 : 0 ≤ till) (b1 : till ≤ 65535) (b2 : 0 ≤ off) (b3 : off ≤ 65535) (b4 : 0 ≤ now) (b5 : now ≤ 65535) (l : List One) (hf : ∀ x ∈ l, x.fits) (A : Option Addr) (n c : Nat) (w : World) (hr : Rd w shOne A n l) :
    Calls Try.prog 6 #[.slice A n c, .int .u16 till, .int .u16 off, .int .u16 now] w fun e w' => e = .returned (.bool true) ∧ Below w.heap.size w w' := by
  have hn : n ≤ 9223372036854775807 := hr.2.1
  have HF := hide hf
  clear hf
  by_cases hbig : 20 < n
  · go_enter Try.func6, Try.ntmps6
    go_wp2_with fail
    refine (dark_any _).mono ?_
    rintro e w1 ⟨rfl, hb1⟩
    go_wp2_with fail
    refine (dark_any _).mono ?_
    rintro e w2 ⟨rfl, hb2⟩
    go_wp2
    go_ret
    exact ⟨rfl, below_then hb1 hb2⟩
  · go_enter Try.func6, Try.ntmps6
    go_wp2_with fail
    refine (dark_any _).mono ?_
    rintro e w1 ⟨rfl, hb1⟩
    have hr1 := hr.below hb1
    go_wp2_with fail
    refine (of_any false l HF.out A n c w1 hr1).mono ?_
    rintro e w2 ⟨v, v', rfl, hv, -, hb2⟩
    have hd := hide (ofL_nodup false (l.take 20))
    have hs := ofL_short false (l.take 20)
    rw [List.take_take, Nat.min_self] at hs
    obtain ⟨A1, c1, rfl, R1⟩ := hv.slice_
    have hb12 := below_then hb1 hb2
    clear hv hb1 hb2 hr1 hr
    generalize ofL false (l.take 20) = L at *
    go_wp2_with fail
    refine (pnew_any _).mono ?_
    rintro e w3 ⟨rfl, rfl⟩
    go_wp2_with fail
    refine alloc1_elim (K := fun w0 => Calls _ _ _ w0 _) ?_
    rintro w3 hb3 kp -
    have hs0 : (⟨0, 0, 0⟩ : Hush).silent now = false := by simp [Hush.silent, Hush.paused, Hush.isOff]; omega
    refine (show_any w2.heap.size ⟨0, 0⟩ now L ⟨0, 0, 0⟩ _ _ _ w3 kp hd.out (R1.below hb3) hs b4 (by omega) (by decide) (by decide)).mono ?_
    rintro e w4 ⟨A4, m4, c4, rfl, R4, -, K4⟩
    have hb4 : Below w2.heap.size w2 w4 := kept_below hb3 (Nat.le_refl _) K4
    obtain ⟨au, so, HO⟩ := out_alike now L
    have ho := HO _ hs0
    rw [ho] at R4
    rw [ho, encOut]
    have R1' := R1.below hb4
    have hb14 := below_then hb12 hb4
    clear ho K4 kp hb3 hb12 R1 hb4
    go_wp2_with fail
    refine (pnew_any _).mono ?_
    rintro e w5 ⟨rfl, rfl⟩
    go_wp2_with fail
    refine alloc2_elim (K := fun w0 => Calls _ _ _ w0 _) ?_
    rintro w5 hb5 kx kp -
    refine (show_any (w4.heap.size + 1) ⟨0, 0⟩ now L ⟨till, off, 0⟩ _ _ _ w5 kp hd.out (R1'.below hb5) hs b4 (by omega) (by decide) (by decide)).mono ?_
    rintro e w6 ⟨A6, m6, c6, rfl, R6, -, K6⟩
    have hb6 : Below w4.heap.size w4 w6 := kept_below hb5 (by omega) K6
    have kx6 : Blk w6 w4.heap.size 32 #[.int .i64 now, .slice A4 m4 c4, .int .u8 au, .bool so, .bool false, .bool false] := (K6.block _ kx.lt (by omega)).trans kx
    have R4' := R4.below hb6
    have hb16 := below_then hb14 hb6
    clear kx K6 kp hb5 R4 R1' hb14 hb6
    have hm : m6 = m4 := by rw [← R4'.1, ← R6.1]; rfl
    subst hm
    have hm : m6 ≤ 65536 := by
      rw [← R4'.1]
      show (sortL (lampsOf L)).length ≤ 65536
      rw [(sortL_perm _).length_eq]
      exact Nat.le_trans (lampsOf_le _) hs
    have e1 : w6.cell? ⟨w4.heap.size, 1, none⟩ = some (.slice A4 m6 c4) := kx6.cell 1
    have R6' : Rd w6 shLamp A6 m6 (sortL (lampsOf L)) := R6
    have hlt := kx6.lt
    clear R6 hs hd hbig
    by_cases hu : now < till
    · by_cases hv : now < off
      · have hp : (⟨till, off, 0⟩ : Hush).paused now = true := by simp [Hush.paused]; omega
        have ho : (⟨till, off, 0⟩ : Hush).isOff now = true := by simp [Hush.isOff]; omega
        have hq : (⟨till, off, 0⟩ : Hush).silent now = true := by rw [Hush.silent, hp, ho]; rfl
        rw [out_quiet L hq, encOut, hp, ho]
        clear hp ho hq
        go_wp2_with fail
        refine alloc1_elim (K := fun w0 => Calls _ _ _ w0 _) ?_
        rintro w7 hb7 ky -
        refine (same_eq ⟨0, sortL (lampsOf L), 0, false, false, false⟩ (sortL (lampsOf L)) A4 A6 m6 c4 c6 w7 (R4'.below hb7) (R6'.below hb7) hm).mono ?_
        rintro e w8 ⟨rfl, hb8⟩
        have hsame : decide ((⟨0, sortL (lampsOf L), 0, false, false, false⟩ : Out).lamps = sortL (lampsOf L)) = true := by simp
        rw [hsame]
        have ky8 := ky.below hb8 ky.lt
        have y2 : w8.cell? ⟨w6.heap.size, 2, none⟩ = some (.int .u8 0) := ky8.cell 2
        have y3 : w8.cell? ⟨w6.heap.size, 3, none⟩ = some (.bool false) := ky8.cell 3
        have y4 : w8.cell? ⟨w6.heap.size, 4, none⟩ = some (.bool true) := ky8.cell 4
        have y5 : w8.cell? ⟨w6.heap.size, 5, none⟩ = some (.bool true) := ky8.cell 5
        have hb68 := below_then hb7 hb8
        clear hb7 hb8 ky ky8 hsame R4' R6'
        go_wp2
        go_ret
        exact ⟨by rfl, below_then hb16 hb68⟩
      · have hp : (⟨till, off, 0⟩ : Hush).paused now = true := by simp [Hush.paused]; omega
        have ho : (⟨till, off, 0⟩ : Hush).isOff now = false := by simp [Hush.isOff]; omega
        have hvd : decide (now < off) = false := by simpa using hv
        have hq : (⟨till, off, 0⟩ : Hush).silent now = true := by rw [Hush.silent, hp, ho]; rfl
        rw [out_quiet L hq, encOut, hp, ho]
        clear hp ho hq
        go_wp2_with fail
        refine alloc1_elim (K := fun w0 => Calls _ _ _ w0 _) ?_
        rintro w7 hb7 ky -
        refine (same_eq ⟨0, sortL (lampsOf L), 0, false, false, false⟩ (sortL (lampsOf L)) A4 A6 m6 c4 c6 w7 (R4'.below hb7) (R6'.below hb7) hm).mono ?_
        rintro e w8 ⟨rfl, hb8⟩
        have hsame : decide ((⟨0, sortL (lampsOf L), 0, false, false, false⟩ : Out).lamps = sortL (lampsOf L)) = true := by simp
        rw [hsame]
        have ky8 := ky.below hb8 ky.lt
        have y2 : w8.cell? ⟨w6.heap.size, 2, none⟩ = some (.int .u8 0) := ky8.cell 2
        have y3 : w8.cell? ⟨w6.heap.size, 3, none⟩ = some (.bool false) := ky8.cell 3
        have y4 : w8.cell? ⟨w6.heap.size, 4, none⟩ = some (.bool true) := ky8.cell 4
        have y5 : w8.cell? ⟨w6.heap.size, 5, none⟩ = some (.bool false) := ky8.cell 5
        have hb68 := below_then hb7 hb8
        clear hb7 hb8 ky ky8 hsame R4' R6'
        go_wp2
        go_ret
        exact ⟨by rfl, below_then hb16 hb68⟩
    · by_cases hv : now < off
      · have hp : (⟨till, off, 0⟩ : Hush).paused now = false := by simp [Hush.paused]; omega
        have hud : decide (now < till) = false := by simpa using hu
        have ho : (⟨till, off, 0⟩ : Hush).isOff now = true := by simp [Hush.isOff]; omega
        have hq : (⟨till, off, 0⟩ : Hush).silent now = true := by rw [Hush.silent, hp, ho]; rfl
        rw [out_quiet L hq, encOut, hp, ho]
        clear hp ho hq
        go_wp2_with fail
        refine alloc1_elim (K := fun w0 => Calls _ _ _ w0 _) ?_
        rintro w7 hb7 ky -
        refine (same_eq ⟨0, sortL (lampsOf L), 0, false, false, false⟩ (sortL (lampsOf L)) A4 A6 m6 c4 c6 w7 (R4'.below hb7) (R6'.below hb7) hm).mono ?_
        rintro e w8 ⟨rfl, hb8⟩
        have hsame : decide ((⟨0, sortL (lampsOf L), 0, false, false, false⟩ : Out).lamps = sortL (lampsOf L)) = true := by simp
        rw [hsame]
        have ky8 := ky.below hb8 ky.lt
        have y2 : w8.cell? ⟨w6.heap.size, 2, none⟩ = some (.int .u8 0) := ky8.cell 2
        have y3 : w8.cell? ⟨w6.heap.size, 3, none⟩ = some (.bool false) := ky8.cell 3
        have y4 : w8.cell? ⟨w6.heap.size, 4, none⟩ = some (.bool false) := ky8.cell 4
        have y5 : w8.cell? ⟨w6.heap.size, 5, none⟩ = some (.bool true) := ky8.cell 5
        have hb68 := below_then hb7 hb8
        clear hb7 hb8 ky ky8 hsame R4' R6'
        go_wp2
        go_ret
        exact ⟨by rfl, below_then hb16 hb68⟩
      · have hp : (⟨till, off, 0⟩ : Hush).paused now = false := by simp [Hush.paused]; omega
        have hud : decide (now < till) = false := by simpa using hu
        have ho : (⟨till, off, 0⟩ : Hush).isOff now = false := by simp [Hush.isOff]; omega
        have hvd : decide (now < off) = false := by simpa using hv
        have hq : (⟨till, off, 0⟩ : Hush).silent now = false := by rw [Hush.silent, hp, ho]; rfl
        rw [HO _ hq, encOut]
        clear hp ho hq
        go_wp2_with fail
        refine alloc1_elim (K := fun w0 => Calls _ _ _ w0 _) ?_
        rintro w7 hb7 ky -
        refine (same_eq ⟨0, sortL (lampsOf L), 0, false, false, false⟩ (sortL (lampsOf L)) A4 A6 m6 c4 c6 w7 (R4'.below hb7) (R6'.below hb7) hm).mono ?_
        rintro e w8 ⟨rfl, hb8⟩
        have hsame : decide ((⟨0, sortL (lampsOf L), 0, false, false, false⟩ : Out).lamps = sortL (lampsOf L)) = true := by simp
        rw [hsame]
        have ky8 := ky.below hb8 ky.lt
        have hb68 := below_then hb7 hb8
        have kx8 := kx6.below hb68 hlt
        obtain ⟨e0, e1, e2, e3, e4, e5⟩ := out_cells kx8
        obtain ⟨y0, y1, y2, y3, y4, y5⟩ := out_cells ky8
        have R4a := R4'.below hb68
        have R6a := R6'.below hb68
        clear hb7 hb8 ky kx8 hsame R4' R6'
        go_wp2_with fail
        refine (same_eq ⟨now, sortL (lampsOf L), au, so, false, false⟩ (sortL (lampsOf L)) A4 A6 m6 c4 c6 w8 R4a R6a hm).mono ?_
        rintro e w9 ⟨rfl, hb9⟩
        have hsame : decide ((⟨now, sortL (lampsOf L), au, so, false, false⟩ : Out).lamps = sortL (lampsOf L)) = true := by simp
        rw [hsame]
        have ky9 := Blk.below ky8 hb9 ky8.lt
        have hb69 := below_then hb68 hb9
        clear y0 y1 y2 y3 y4 y5 e0 e1 e2 e3 e4 e5
        obtain ⟨y0, y1, y2, y3, y4, y5⟩ := out_cells ky9
        go_wp2
        go_ret
        exact ⟨by rfl, below_then hb16 hb69⟩
end Go.Proofs.Ytllkokcknlefgaa
