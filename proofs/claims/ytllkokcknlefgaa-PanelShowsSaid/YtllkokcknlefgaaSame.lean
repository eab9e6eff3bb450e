/- The walk of the document's Same: are two outputs alike? -/
import Derived.Test.YtllkokcknlefgaaSmall
namespace Go.Proofs.Ytllkokcknlefgaa
open Go.RowKit Go.Shelf S

/-- An output, its lamps as a list. -/
structure Out where
  tick : Int
  lamps : List Lamp
  audio : Int
  sound : Bool
  paused : Bool
  off : Bool
  deriving DecidableEq, Inhabited

def encOut (o : Out) (v : Value) : Value := .agg #[.int .i64 o.tick, v, .int .u8 o.audio, .bool o.sound, .bool o.paused, .bool o.off]

/-- '!=' of two lamps. -/
theorem neq_lamp (x y : Lamp) (W : World) : (binOp .neq 65 (.agg #[.int .i64 x.cond, .int .u8 x.prio, .int .i64 x.stage, .bool x.cause, .bool x.acked]) (.agg #[.int .i64 y.cond, .int .u8 y.prio, .int .i64 y.stage, .bool y.cause, .bool y.acked])).run Try.prog W = .ok (.bool (!decide (x = y))) W := by
  have u3 := Try.underlying3
  have a3 := Try.isAgg3
  have z3 := Try.sizeOf3
  have u4 := Try.underlying4
  have a4 := Try.isAgg4
  have z4 := Try.sizeOf4
  have u5 := Try.underlying5
  have a5 := Try.isAgg5
  have z5 := Try.sizeOf5
  have hS : Try.prog.underlying 65 = some (.struct (Try.prog.fieldsOf 65)) := by kernel_rfl
  have hp : Try.prog.stoodInHeld 65 = false := by kernel_rfl
  obtain ⟨x0, x1, x2, x3, x4⟩ := x
  obtain ⟨y0, y1, y2, y3, y4⟩ := y
  rw [run_neq_struct, show (10000 : Nat) = 9999 + 1 from rfl, run_equalIn_agg W 9999 65 _ _ hS hp]
  simp only [Program.fieldsOf, Try.underlying65]
  go_simp
  by_cases h0 : x0 = y0 <;> by_cases h1 : x1 = y1 <;> by_cases h2 : x2 = y2 <;> by_cases h3 : x3 = y3 <;> by_cases h4 : x4 = y4 <;> simp [h0, h1, h2, h3, h4]

set_option maxRecDepth 100000 in
set_option maxHeartbeats 1000000 in
theorem same_eq (o : Out) (m : List Lamp) (A A' : Option Addr) (n c c' : Nat) (w : World) (hr : Rd w shLamp A n o.lamps) (hr' : Rd w shLamp A' n m) (hn : n ≤ 65536) :
    Calls Try.prog 10 #[encOut o (.slice A n c), encOut { o with lamps := m } (.slice A' n c')] w fun e w' => e = .returned (.bool (decide (o.lamps = m))) ∧ Below w.heap.size w w' := by
  obtain ⟨tick, lamps, audio, sound, paused, off⟩ := o
  unfold encOut
  simp only at hr ⊢
  have HL := hide hr.1
  have HL' := hide hr'.1
  have t0 : (tick != tick) = false := by simp
  have t1 : (audio != audio) = false := by simp
  have t2 : (sound != sound) = false := by simp
  have t3 : (paused != paused) = false := by simp
  have t4 : (off != off) = false := by simp
  have t5 : ((n : Int) != (n : Int)) = false := by simp
  go_enter Try.func10, Try.ntmps10
  go_wp2_with fail
  have hb : Below w.heap.size w ((w.alloc (.cells #[.int .i64 tick, .slice A n c, .int .u8 audio, .bool sound, .bool paused, .bool off] 32)).alloc (.cells #[.int .i64 tick, .slice A' n c', .int .u8 audio, .bool sound, .bool paused, .bool off] 32)) := ((Below.refl _ _).alloc (Nat.le_refl _) _).alloc (by simp) _
  have hk2 := Blk.new (w.alloc (.cells #[.int .i64 tick, .slice A n c, .int .u8 audio, .bool sound, .bool paused, .bool off] 32)) 32 #[.int .i64 tick, .slice A' n c', .int .u8 audio, .bool sound, .bool paused, .bool off]
  have hk1 := (Blk.new w 32 #[.int .i64 tick, .slice A n c, .int .u8 audio, .bool sound, .bool paused, .bool off]).alloc (.cells #[.int .i64 tick, .slice A' n c', .int .u8 audio, .bool sound, .bool paused, .bool off] 32)
  rw [show (w.alloc (.cells #[.int .i64 tick, .slice A n c, .int .u8 audio, .bool sound, .bool paused, .bool off] 32)).heap.size = w.heap.size + 1 from by simp] at hk2
  have hsz : w.heap.size + 1 < ((w.alloc (.cells #[.int .i64 tick, .slice A n c, .int .u8 audio, .bool sound, .bool paused, .bool off] 32)).alloc (.cells #[.int .i64 tick, .slice A' n c', .int .u8 audio, .bool sound, .bool paused, .bool off] 32)).heap.size := by simp
  generalize (w.alloc (.cells #[.int .i64 tick, .slice A n c, .int .u8 audio, .bool sound, .bool paused, .bool off] 32)).alloc (.cells #[.int .i64 tick, .slice A' n c', .int .u8 audio, .bool sound, .bool paused, .bool off] 32) = w1 at *
  clear t0 t1 t2 t3 t4 t5
  go_loopw [5] (fun i wr => ∃ k : Nat, k ≤ n ∧ i = .int .i64 k ∧ Hid (lamps.take k = m.take k) ∧ Below w1.heap.size w1 wr) (fun i _ => n - (intOf i).toNat)
  case atStart => exact ⟨0, Nat.zero_le _, rfl, rfl, Below.refl _ _⟩
  case round =>
    obtain ⟨k, hkn, rfl, heq, hbr⟩ := hrel
    have a1 : wr.cell? ⟨w.heap.size, 1, none⟩ = some (.slice A n c) := (hk1.below hbr hk1.lt).cell 1
    have a2 : wr.cell? ⟨w.heap.size + 1, 1, none⟩ = some (.slice A' n c') := (hk2.below hbr hk2.lt).cell 1
    have hs1 : w.heap.size < wr.heap.size := by have := hbr.size; omega
    have hs2 : w.heap.size + 1 < wr.heap.size := by have := hbr.size; omega
    have hbw : Below w.heap.size w wr := hb.trans (hbr.mono (by omega))
    by_cases hlt : k < n
    · obtain ⟨b, off, x, rfl, hbs, hx, x0, x1, x2, x3, x4⟩ := lamp_cells (hr.below hbw) hlt
      obtain ⟨b', off', y, rfl, hbs', hy, y0, y1, y2, y3, y4⟩ := lamp_cells (hr'.below hbw) hlt
      have HX := hide hx
      have HY := hide hy
      clear hx hy hr hr' hk1 hk2 hsz hb
      have hlay := fun n os b o h => lay_cell wr n os b o h
      have hm : Try.prog.eqGuardType Try.prog.depth 65 = false := by kernel_rfl
      have hneq := neq_lamp x y
      by_cases hxy : x = y
      · have hxy' : decide (x = y) = true := by simpa using hxy
        have hres : Hid (lamps.take (k + 1) = m.take (k + 1)) := by
          unfold Hid
          rw [List.take_add_one, List.take_add_one, HX.out, HY.out, heq.out, hxy]
        rw [hxy'] at hneq
        clear hxy' hxy
        go_wp2_with fail
        refine wp_region_lay (by kernel_rfl) (by kernel_rfl) ?_
        repeat (go_big_quiet_step (fail))
        refine wpQuiet_nil ?_
        rintro w2 ⟨p1, rfl⟩
        have hbl := lay_below wr p1.n p1.os
        generalize lay wr p1.n p1.os = w2 at *
        go_wp2
        go_roundw
        case rel => exact ⟨k + 1, by omega, by go_num, hres, hbr.trans (hbl.mono hbr.size)⟩
        case measure => simp [intOf]; omega
      · have hxy' : decide (x = y) = false := by simpa using hxy
        have hres : Hid (decide (lamps = m) = false) := by
          refine decide_eq_false fun h => hxy ?_
          have h1 := HX.out
          rw [h, HY.out] at h1
          exact (Option.some.inj h1).symm
        rw [hxy'] at hneq
        clear hxy' hxy
        go_wp2_with fail
        refine wp_region_lay (by kernel_rfl) (by kernel_rfl) ?_
        repeat (go_big_quiet_step (fail))
        refine wpQuiet_nil ?_
        rintro w2 ⟨p1, rfl⟩
        have hbl := lay_below wr p1.n p1.os
        generalize lay wr p1.n p1.os = w2 at *
        go_wp2
        go_ret
        exact ⟨by rw [hres.out]; rfl, hbw.trans (hbl.mono hbw.size)⟩
    · go_wp2
      go_ret
      refine ⟨?_, hbw⟩
      have h1 := heq.out
      rw [List.take_of_length_le (by rw [HL.out]; omega), List.take_of_length_le (by rw [HL'.out]; omega)] at h1
      rw [h1]
      simp
end Go.Proofs.Ytllkokcknlefgaa
