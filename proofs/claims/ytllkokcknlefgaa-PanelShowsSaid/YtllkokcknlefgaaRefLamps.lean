/- The walk of the document's Lamps. -/
import Derived.Test.YtllkokcknlefgaaLamps
namespace Go.Proofs.Ytllkokcknlefgaa
open Go.RowKit Go.Shelf S

theorem own_lamp {w : World} {base : Nat} {v : Value} {l : List Lamp} (h : Own w shLamp base 65 v l) : ∃ A c, v = .slice A l.length c ∧ Rd w shLamp A l.length l := h.slice_

/-- The five cells of a lamp at a place. -/
def At5 (w : World) (b o : Nat) (x : Lamp) : Prop := w.cell? ⟨b, o, none⟩ = some (.int .i64 x.cond) ∧ w.cell? ⟨b, o + 1, none⟩ = some (.int .u8 x.prio) ∧ w.cell? ⟨b, o + 2, none⟩ = some (.int .i64 x.stage) ∧ w.cell? ⟨b, o + 3, none⟩ = some (.bool x.cause) ∧ w.cell? ⟨b, o + 4, none⟩ = some (.bool x.acked)
theorem At5.below {w w' : World} {b o M : Nat} {x : Lamp} (h : At5 w b o x) (hb : Below M w w') (hlt : b < M) : At5 w' b o x :=
  ⟨(hb.cell hlt).trans h.1, (hb.cell hlt).trans h.2.1, (hb.cell hlt).trans h.2.2.1, (hb.cell hlt).trans h.2.2.2.1, (hb.cell hlt).trans h.2.2.2.2⟩

set_option maxRecDepth 100000 in
set_option maxHeartbeats 4000000 in
theorem rlamps_any (l : List Light) (A : Option Addr) (n c : Nat) (w : World) (hr : Rd w shLight A n l) (hn : n ≤ 65536) :
    Calls Try.prog 12 #[.slice A n c] w fun e w' => ∃ v, e = .returned v ∧ LampsAt w w.heap.size (sortL (lampsOf l)) v w' := by
  have HL := hide hr.1
  obtain ⟨B, hB⟩ : ∃ B, B = w.heap.size := ⟨_, rfl⟩
  rw [← hB]
  have HB := hide hB
  have hBle : B ≤ w.heap.size := by omega
  clear hB
  go_enter Try.func12, Try.ntmps12
  go_wp2
  go_loopw [3, 4] (fun v i wr => ∃ k : Nat, k ≤ n ∧ i = .int .i64 k ∧ Own wr shLamp B 65 v (sortL (lampsOf (l.take k))) ∧ Below B w wr) (fun _ i _ => n - (intOf i).toNat)
  case atStart => exact ⟨0, Nat.zero_le _, rfl, Own.nil_ _ _ _ _, Below.refl _ _⟩
  case round =>
    obtain ⟨k, hk, rfl, hown, hb⟩ := hrel
    by_cases hlt : k < n
    · have hb' : Below w.heap.size w wr := by rw [← HB.out]; exact hb
      obtain ⟨b, off, x, rfl, _, hx, c0, c1, c2, c3, c4, c5, c6⟩ := light_cells (hr.below hb') hlt
      have hts : Hid (l.take (k + 1) = l.take k ++ [x]) := by rw [List.take_add_one, hx]; rfl
      have hT := hide (lampsOf_snoc (l.take k) x)
      have hS := hide (sortL_snoc (lampsOf (l.take k)) (lampOf x))
      have hle := lampsOf_le (l.take k)
      have hlk : (l.take k).length ≤ k := List.length_take_le _ _
      have hsl := (sortL_perm (lampsOf (l.take k))).length_eq
      have hsz := hb.size
      have hol : (sortL (lampsOf (l.take k))).length ≤ 65536 := by omega
      have hlamp : Hid (lampOf x = ⟨x.cond, x.prio, x.life.stage, x.life.on, x.life.acked⟩) := rfl
      clear hx hb' hsl hle hlk hr
      cases hlit : x.life.lit
      · have hlit' := hide hlit
        go_wp2
        go_roundw
        case rel => exact ⟨k + 1, by omega, by go_num, by rw [hts.out, hT.out, hlit'.out]; exact hown.alloc _, hb.alloc (by omega) _⟩
        case measure => simp [intOf]; omega
      · have hlit' := hide hlit
        obtain ⟨A', c', rfl, _⟩ := own_lamp hown
        generalize hgo : sortL (lampsOf (l.take k)) = out at *
        have HG := hide hgo
        clear hgo
        go_wp2
        have hown2 : Own ((wr.alloc (.cells #[.int .i64 x.cond, .int .u8 x.prio, .bool x.life.on, .bool true, .bool x.life.acked, .int .i64 x.life.since, .int .i64 x.life.stage] 63)).alloc (.cells #[.int .i64 x.cond, .int .u8 x.prio, .int .i64 x.life.stage, .bool x.life.on, .bool x.life.acked] 65)) shLamp B 65 (.slice A' out.length c') out := (hown.alloc _).alloc _
        have hb2 : Below B w ((wr.alloc (.cells #[.int .i64 x.cond, .int .u8 x.prio, .bool x.life.on, .bool true, .bool x.life.acked, .int .i64 x.life.since, .int .i64 x.life.stage] 63)).alloc (.cells #[.int .i64 x.cond, .int .u8 x.prio, .int .i64 x.life.stage, .bool x.life.on, .bool x.life.acked] 65)) := (hb.alloc (by omega) _).alloc (by simp; omega) _
        have hblk := Blk.new (wr.alloc (.cells #[.int .i64 x.cond, .int .u8 x.prio, .bool x.life.on, .bool true, .bool x.life.acked, .int .i64 x.life.since, .int .i64 x.life.stage] 63)) 65 #[.int .i64 x.cond, .int .u8 x.prio, .int .i64 x.life.stage, .bool x.life.on, .bool x.life.acked]
        have hbs : wr.heap.size + 1 < ((wr.alloc (.cells #[.int .i64 x.cond, .int .u8 x.prio, .bool x.life.on, .bool true, .bool x.life.acked, .int .i64 x.life.since, .int .i64 x.life.stage] 63)).alloc (.cells #[.int .i64 x.cond, .int .u8 x.prio, .int .i64 x.life.stage, .bool x.life.on, .bool x.life.acked] 65)).heap.size := by simp
        rw [show (wr.alloc (.cells #[.int .i64 x.cond, .int .u8 x.prio, .bool x.life.on, .bool true, .bool x.life.acked, .int .i64 x.life.since, .int .i64 x.life.stage] 63)).heap.size = wr.heap.size + 1 from by simp] at hblk
        generalize (wr.alloc (.cells #[.int .i64 x.cond, .int .u8 x.prio, .bool x.life.on, .bool true, .bool x.life.acked, .int .i64 x.life.since, .int .i64 x.life.stage] 63)).alloc (.cells #[.int .i64 x.cond, .int .u8 x.prio, .int .i64 x.life.stage, .bool x.life.on, .bool x.life.acked] 65) = wo at *
        clear c0 c1 c2 c3 c4 c5 c6 hlit
        obtain ⟨aa, haa⟩ : ∃ aa, aa = lampOf x := ⟨_, rfl⟩
        rw [← haa] at hT hS
        have e0 : x.cond = aa.cond := by rw [haa]; rfl
        have e1 : x.prio = aa.prio := by rw [haa]; rfl
        have e2 : x.life.stage = aa.stage := by rw [haa]; rfl
        have e3 : x.life.on = aa.cause := by rw [haa]; rfl
        have e4 : x.life.acked = aa.acked := by rw [haa]; rfl
        rw [e0, e1, e2, e3, e4] at hblk
        clear haa e0 e1 e2 e3 e4 hlamp hown hb hsz
        obtain ⟨M, hM⟩ : ∃ M, M = wo.heap.size := ⟨_, rfl⟩
        have HM := hide hM
        have hMle : M ≤ wo.heap.size := by omega
        have hMga : wr.heap.size + 1 < M := by omega
        have hMB : B ≤ M := by rw [hM]; have := hb2.size; omega
        clear hM
        generalize wr.heap.size + 1 = ga at *
        have hA : At5 wo ga 0 aa := ⟨hblk.cell 0, hblk.cell 1, hblk.cell 2, hblk.cell 3, hblk.cell 4⟩
        clear hbs hblk
        go_loopw [7, 8, 9] (fun m d i wi => ∃ j : Nat, j ≤ out.length ∧ i = .int .i64 j ∧ d = .bool (insTo aa (out.take j)).2 ∧ Own wi shLamp M 65 m (insTo aa (out.take j)).1 ∧ Below M wo wi) (fun _ _ i _ => out.length - (intOf i).toNat)
        case atStart => exact ⟨0, Nat.zero_le _, rfl, rfl, Own.nil_ _ _ _ _, Below.refl _ _⟩
        case round =>
          obtain ⟨j, hj, rfl, rfl, hown3, hb3⟩ := hrel
          obtain ⟨a0, a1, a2, a3, a4⟩ := hA.below hb3 hMga
          have hgas : ga < wr.heap.size := by have := hb3.size; omega
          have hMs : M ≤ wr.heap.size := by have := hb3.size; omega
          by_cases hlt3 : j < out.length
          · obtain ⟨_, _, hv2, hrd2⟩ := own_lamp hown2
            injection hv2 with hA2 _ hc2
            subst hA2 hc2
            obtain ⟨b2, off2, y, rfl, hbM', hy, yo0, yo1, yo2, yo3, yo4⟩ := lamp_cells hrd2 hlt3
            have hY : At5 wo b2 (off2 + j * 5) y := ⟨yo0, yo1, yo2, yo3, yo4⟩
            have hbM : b2 < M := by rw [HM.out]; exact hbM'
            obtain ⟨y0, y1, y2, y3, y4⟩ := hY.below hb3 hbM
            have hb2s : b2 < wr.heap.size := by omega
            have hts3 : Hid (out.take (j + 1) = out.take j ++ [y]) := by rw [List.take_add_one, hy]; rfl
            have hT3 := hide (insTo_snoc aa (out.take j) y)
            have hlen3 := insTo_len aa (out.take j)
            have hltk : (out.take j).length ≤ j := List.length_take_le _ _
            have hlay := fun n os b o h => lay_cell wr n os b o h
            have hst : Hid (∀ p : List Lamp × Bool, insStep aa p y = if !p.2 && S.ahead aa y then (p.1 ++ [aa] ++ [y], true) else (p.1 ++ [y], p.2)) := fun _ => rfl
            have hah : Hid (S.ahead aa y = decide (y.prio < aa.prio ∨ (aa.prio = y.prio ∧ aa.cond < y.cond))) := rfl
            clear hy hrd2 yo0 yo1 yo2 yo3 yo4 hbM'
            generalize insTo aa (out.take j) = p3 at *
            obtain ⟨m3, d3⟩ := p3
            have hm3 : m3.length ≤ 65537 := by have := hlen3; simp only at this; omega
            clear hlen3
            cases d3
            · by_cases hc1 : y.prio < aa.prio
              · have hres : Hid (insStep aa (m3, false) y = (m3 ++ [aa] ++ [y], true)) := by
                  have h : S.ahead aa y = true := by rw [hah.out]; exact decide_eq_true (.inl hc1)
                  rw [hst.out, h]; rfl
                go_wp2_with fail
                refine wp_region_lay (by kernel_rfl) (by kernel_rfl) ?_
                repeat (go_big_quiet_step (fail))
                refine wpQuiet_nil ?_
                rintro w1 ⟨p1, rfl⟩
                have hbl := lay_below wr p1.n p1.os
                generalize lay wr p1.n p1.os = w1 at *
                have hown4 := hown3.below hbl
                have hb4 : Below M wo w1 := hb3.trans (hbl.mono hMs)
                have hMs4 : M ≤ w1.heap.size := by have := hbl.size; omega
                obtain ⟨g0, g1, g2, g3, g4⟩ := hA.below hb4 hMga
                obtain ⟨z0, z1, z2, z3, z4⟩ := hY.below hb4 hbM
                clear hlay a0 a1 a2 a3 a4 y0 y1 y2 y3 y4 hown3 hb3 hbl hb2s
                go_wp2_with (first | (at_builtin; refine app_one eltLamp M rfl _ _ rfl u7 m3 aa rfl _ rfl rfl _ rfl hown4 hb4 hMs4 (by omega) ?_; intro v1 w2 hown1 hb1 hg1 hat1 hs1; have hMs5 : M ≤ w2.heap.size := (by omega); have hl5 : (m3 ++ [aa]).length ≤ 68719476736 := (by rw [List.length_append, List.length_singleton]; omega); obtain ⟨x0, x1, x2, x3, x4⟩ := hY.below hb1 hbM) | (at_builtin; refine app_one eltLamp M rfl _ _ rfl v1 (m3 ++ [aa]) y rfl _ rfl rfl _ rfl hown1 hb1 hMs5 hl5 ?_; intro v2 w3 hown2' hb2' hg2 hat2 hs2))
                go_roundw
                case rel => exact ⟨j + 1, by omega, by go_num, by rw [hts3.out, hT3.out, hres.out], by rw [hts3.out, hT3.out, hres.out]; exact hown2', hb2'⟩
                case measure => simp [intOf]; omega
              · have hc1' : decide (y.prio < aa.prio) = false := by simpa using hc1
                by_cases hc2 : aa.prio = y.prio
                · have hc2' : (aa.prio == y.prio) = true := by simpa using hc2
                  by_cases hc3 : aa.cond < y.cond
                  · have hres : Hid (insStep aa (m3, false) y = (m3 ++ [aa] ++ [y], true)) := by
                      have h : S.ahead aa y = true := by rw [hah.out]; exact decide_eq_true (.inr ⟨hc2, hc3⟩)
                      rw [hst.out, h]; rfl
                    clear hc2
                    go_wp2_with fail
                    refine wp_region_lay (by kernel_rfl) (by kernel_rfl) ?_
                    repeat (go_big_quiet_step (fail))
                    refine wpQuiet_nil ?_
                    rintro w1 ⟨p1, rfl⟩
                    have hbl := lay_below wr p1.n p1.os
                    generalize lay wr p1.n p1.os = w1 at *
                    have hown4 := hown3.below hbl
                    have hb4 : Below M wo w1 := hb3.trans (hbl.mono hMs)
                    have hMs4 : M ≤ w1.heap.size := by have := hbl.size; omega
                    obtain ⟨g0, g1, g2, g3, g4⟩ := hA.below hb4 hMga
                    obtain ⟨z0, z1, z2, z3, z4⟩ := hY.below hb4 hbM
                    clear hlay a0 a1 a2 a3 a4 y0 y1 y2 y3 y4 hown3 hb3 hbl hb2s
                    go_wp2_with (first | (at_builtin; refine app_one eltLamp M rfl _ _ rfl u7 m3 aa rfl _ rfl rfl _ rfl hown4 hb4 hMs4 (by omega) ?_; intro v1 w2 hown1 hb1 hg1 hat1 hs1; have hMs5 : M ≤ w2.heap.size := (by omega); have hl5 : (m3 ++ [aa]).length ≤ 68719476736 := (by rw [List.length_append, List.length_singleton]; omega); obtain ⟨x0, x1, x2, x3, x4⟩ := hY.below hb1 hbM) | (at_builtin; refine app_one eltLamp M rfl _ _ rfl v1 (m3 ++ [aa]) y rfl _ rfl rfl _ rfl hown1 hb1 hMs5 hl5 ?_; intro v2 w3 hown2' hb2' hg2 hat2 hs2))
                    go_roundw
                    case rel => exact ⟨j + 1, by omega, by go_num, by rw [hts3.out, hT3.out, hres.out], by rw [hts3.out, hT3.out, hres.out]; exact hown2', hb2'⟩
                    case measure => simp [intOf]; omega
                  · have hres : Hid (insStep aa (m3, false) y = (m3 ++ [y], false)) := by
                      have h : S.ahead aa y = false := by rw [hah.out]; exact decide_eq_false (by omega)
                      rw [hst.out, h]; rfl
                    have hc3' : decide (aa.cond < y.cond) = false := by simpa using hc3
                    clear hc2
                    go_wp2_with fail
                    refine wp_region_lay (by kernel_rfl) (by kernel_rfl) ?_
                    repeat (go_big_quiet_step (fail))
                    refine wpQuiet_nil ?_
                    rintro w1 ⟨p1, rfl⟩
                    have hbl := lay_below wr p1.n p1.os
                    generalize lay wr p1.n p1.os = w1 at *
                    have hown4 := hown3.below hbl
                    have hb4 : Below M wo w1 := hb3.trans (hbl.mono hMs)
                    have hMs4 : M ≤ w1.heap.size := by have := hbl.size; omega
                    obtain ⟨g0, g1, g2, g3, g4⟩ := hA.below hb4 hMga
                    obtain ⟨z0, z1, z2, z3, z4⟩ := hY.below hb4 hbM
                    clear hlay a0 a1 a2 a3 a4 y0 y1 y2 y3 y4 hown3 hb3 hbl hb2s
                    go_wp2_with (at_builtin; refine app_one eltLamp M rfl _ _ rfl u7 m3 y rfl _ rfl rfl _ rfl hown4 hb4 hMs4 (by omega) ?_; intro v2 w3 hown2' hb2' hg2 hat2 hs2)
                    go_roundw
                    case rel => exact ⟨j + 1, by omega, by go_num, by rw [hts3.out, hT3.out, hres.out], by rw [hts3.out, hT3.out, hres.out]; exact hown2', hb2'⟩
                    case measure => simp [intOf]; omega
                · have hc2' : (aa.prio == y.prio) = false := by simpa using hc2
                  have hres : Hid (insStep aa (m3, false) y = (m3 ++ [y], false)) := by
                    have h : S.ahead aa y = false := by rw [hah.out]; exact decide_eq_false (by omega)
                    rw [hst.out, h]; rfl
                  clear hc2
                  go_wp2_with fail
                  refine wp_region_lay (by kernel_rfl) (by kernel_rfl) ?_
                  repeat (go_big_quiet_step (fail))
                  refine wpQuiet_nil ?_
                  rintro w1 ⟨p1, rfl⟩
                  have hbl := lay_below wr p1.n p1.os
                  generalize lay wr p1.n p1.os = w1 at *
                  have hown4 := hown3.below hbl
                  have hb4 : Below M wo w1 := hb3.trans (hbl.mono hMs)
                  have hMs4 : M ≤ w1.heap.size := by have := hbl.size; omega
                  obtain ⟨g0, g1, g2, g3, g4⟩ := hA.below hb4 hMga
                  obtain ⟨z0, z1, z2, z3, z4⟩ := hY.below hb4 hbM
                  clear hlay a0 a1 a2 a3 a4 y0 y1 y2 y3 y4 hown3 hb3 hbl hb2s
                  go_wp2_with (at_builtin; refine app_one eltLamp M rfl _ _ rfl u7 m3 y rfl _ rfl rfl _ rfl hown4 hb4 hMs4 (by omega) ?_; intro v2 w3 hown2' hb2' hg2 hat2 hs2)
                  go_roundw
                  case rel => exact ⟨j + 1, by omega, by go_num, by rw [hts3.out, hT3.out, hres.out], by rw [hts3.out, hT3.out, hres.out]; exact hown2', hb2'⟩
                  case measure => simp [intOf]; omega
            · have hres : Hid (insStep aa (m3, true) y = (m3 ++ [y], true)) := by rw [hst.out]; rfl
              go_wp2_with fail
              refine wp_region_lay (by kernel_rfl) (by kernel_rfl) ?_
              repeat (go_big_quiet_step (fail))
              refine wpQuiet_nil ?_
              rintro w1 ⟨p1, rfl⟩
              have hbl := lay_below wr p1.n p1.os
              generalize lay wr p1.n p1.os = w1 at *
              have hown4 := hown3.below hbl
              have hb4 : Below M wo w1 := hb3.trans (hbl.mono hMs)
              have hMs4 : M ≤ w1.heap.size := by have := hbl.size; omega
              obtain ⟨g0, g1, g2, g3, g4⟩ := hA.below hb4 hMga
              obtain ⟨z0, z1, z2, z3, z4⟩ := hY.below hb4 hbM
              clear hlay a0 a1 a2 a3 a4 y0 y1 y2 y3 y4 hown3 hb3 hbl hb2s
              go_wp2_with (at_builtin; refine app_one eltLamp M rfl _ _ rfl u7 m3 y rfl _ rfl rfl _ rfl hown4 hb4 hMs4 (by omega) ?_; intro v2 w3 hown2' hb2' hg2 hat2 hs2)
              go_roundw
              case rel => exact ⟨j + 1, by omega, by go_num, by rw [hts3.out, hT3.out, hres.out], by rw [hts3.out, hT3.out, hres.out]; exact hown2', hb2'⟩
              case measure => simp [intOf]; omega
          · have htk : Hid (out.take j = out) := List.take_of_length_le (by omega)
            rw [htk.out] at hown3 ⊢
            have hend := hide (insTo_end aa out)
            have hilen := insTo_len aa out
            cases hdone : (insTo aa out).2
            · have hdone' := hide hdone
              go_wp2_with (at_builtin; refine app_one eltLamp M rfl _ _ rfl u7 (insTo aa out).1 aa rfl _ rfl rfl _ rfl hown3 hb3 hMs (by omega) ?_; intro v1 w1 hown1 hb1 hg1 hat1 hs1)
              go_roundw
              case rel => exact ⟨k + 1, by omega, by go_num, by rw [hts.out, hT.out, hlit'.out, if_pos rfl, hS.out, ← hend.out, hdone'.out]; exact hown1.mono hMB, hb2.trans (hb1.mono hMB)⟩
              case measure => simp [intOf]; omega
            · have hdone' := hide hdone
              go_wp2
              go_roundw
              case rel => exact ⟨k + 1, by omega, by go_num, by rw [hts.out, hT.out, hlit'.out, if_pos rfl, hS.out, ← hend.out, hdone'.out]; exact hown3.mono hMB, hb2.trans (hb3.mono hMB)⟩
              case measure => simp [intOf]; omega
    · go_wp2
      go_ret
      obtain ⟨A', c', hv, hrd⟩ := own_lamp hown
      have htk : Hid (l.take k = l) := List.take_of_length_le (by rw [HL.out]; omega)
      rw [htk.out] at hown hv hrd
      exact ⟨_, rfl, A', _, c', hv, hrd, hb, fun b off e => (hown.base_ b (by rw [hv, e]; rfl)).1⟩
end Go.Proofs.Ytllkokcknlefgaa
