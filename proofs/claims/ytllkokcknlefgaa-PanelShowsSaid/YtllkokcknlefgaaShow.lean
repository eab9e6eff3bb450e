/- The walk of (*panel.Panel).Show. -/
import Derived.Test.YtllkokcknlefgaaMid
import Derived.Deep.RegionHeld3
import Derived.Deep.DeepCutAuto
namespace Go.Proofs.Ytllkokcknlefgaa
open Go.RowKit Go.Shelf S

/-- The result is read. -/
theorem show_result (tmps : Array Value) (w : World) (b : Nat) (v0 v1 v2 v3 v4 v5 : Value) (h8 : tmps[8]? = some (.pointer (some ⟨b, 0, none⟩))) (h : OutZ w b) :
    (results Try.f18 tmps).run Try.prog (set6 w b v0 v1 v2 v3 v4 v5) = .ok (.agg #[v0, v1, v2, v3, v4, v5]) (set6 w b v0 v1 v2 v3 v4 v5) := by
  have k : Blk (set6 w b v0 v1 v2 v3 v4 v5) b 32 #[v0, v1, v2, v3, v4, v5] := (((((Blk.set_ h 0 v0).set_ 1 v1).set_ 2 v2).set_ 3 v3).set_ 4 v4).set_ 5 v5
  generalize set6 w b v0 v1 v2 v3 v4 v5 = w1 at *
  have e0 : w1.cell? ⟨b, 0, none⟩ = some v0 := k.cell 0
  have e1 : w1.cell? ⟨b, 1, none⟩ = some v1 := k.cell 1
  have e2 : w1.cell? ⟨b, 2, none⟩ = some v2 := k.cell 2
  have e3 : w1.cell? ⟨b, 3, none⟩ = some v3 := k.cell 3
  have e4 : w1.cell? ⟨b, 4, none⟩ = some v4 := k.cell 4
  have e5 : w1.cell? ⟨b, 5, none⟩ = some v5 := k.cell 5
  simp [results, Try.results18, go_sem, h8, e0, e1, e2, e3, e4, e5]

set_option maxRecDepth 100000 in
set_option maxHeartbeats 4000000 in
theorem show_any (g : Nat) (p : Pan) (now : Int) (l : List Light) (h : Hush) (A : Option Addr) (n c : Nat) (w : World) (hp : Blk w g 74 #[.int .u8 p.audio, .int .i64 p.began])
    (hd : (l.map (·.cond)).Nodup) (hr : Rd w shLight A n l) (hn : n ≤ 65536) (t0 : 0 ≤ now) (t1 : now ≤ 1099511627776) (t2 : 0 ≤ p.began) (t3 : p.began ≤ 1099511627776) :
    Calls Try.prog 18 #[.pointer (some ⟨g, 0, none⟩), .int .i64 now, .slice A n c, .agg #[.int .i64 h.untl, .int .i64 h.off, .int .u8 h.mark]] w (ShowAt g w (panS p now l h) (outS p now l h)) := by
  have hpl := hp.lt
  have HD := hide hd
  clear hd
  go_enter Try.func18, Try.ntmps18
  go_upto_region 3 with (fail)
  refine alloc2_elim (K := fun w0 => Code.wp _ _ _ _ w0) ?_
  intro w0 hb0 kh kr hs0
  have c0 : w0.cell? ⟨w.heap.size, 0, none⟩ = some (.int .i64 h.untl) := kh.cell 0
  have c1 : w0.cell? ⟨w.heap.size, 1, none⟩ = some (.int .i64 h.off) := kh.cell 1
  have c2 : w0.cell? ⟨w.heap.size, 2, none⟩ = some (.int .u8 h.mark) := kh.cell 2
  have hr0 := hr.below hb0
  have hp0 := hp.below hb0 hpl
  have HLT : Hid (w.heap.size < w0.heap.size) := by unfold Hid; omega
  have HG : Hid (g < w0.heap.size) := by have := hb0.size; unfold Hid; omega
  have F0 := From.drew_ w0
  have FZ := From.refl_ w0
  clear hs0
  go_cut [9] (fun v9 wx => MadeAt w0 { tick := now, lamps := sortL (lampsOf l), audio := 0, sound := false, paused := h.paused now, off := h.isOff now } v9 wx)
  case first =>
    go_region_held3 (fun w' => w'.cell? ⟨w.heap.size, 0, none⟩ = some (.int .i64 h.untl) ∧ w'.cell? ⟨w.heap.size, 1, none⟩ = some (.int .i64 h.off) ∧ w'.cell? ⟨w.heap.size, 2, none⟩ = some (.int .u8 h.mark) ∧ From w0 w')
      (first | (with_reducible exact hush_from kh HLT.out F0) | (with_reducible exact hush_from kh HLT.out F1) | (with_reducible exact hush_from kh HLT.out F2) | (with_reducible exact hush_from kh HLT.out F3) | (with_reducible exact hush_from kh HLT.out (FZ.alloc_ _).drews) | (with_reducible exact hush_from kh HLT.out (F1.alloc_ _)) | (with_reducible exact hush_from kh HLT.out (F2.alloc_ _)) | (with_reducible exact hush_from kh HLT.out (F3.alloc_ _)) | (with_reducible exact hush_from kh HLT.out (F3.set6_ G _ _ _ _ _ _)))
      (first | (go_at_call 11; refine (lamps_any l HD.out _ _ _ _ (by first | exact hr0.below F0 | exact hr0.below (FZ.alloc_ _).drews) hn).mono ?_; rintro e w1 ⟨v, rfl, A', m', c', rfl, R1, hb1, hfr⟩; (first | (have F1 := F0.then_ hb1) | (have F1 := (FZ.alloc_ _).then_ (undrew hb1); have O := outz_new (undrew hb1); have G : w0.heap.size ≤ w0.heap.size := Nat.le_refl _; have N : NotAt A' m' w0.heap.size := NotAt.of_fresh hfr (by simp); obtain ⟨⟨o0, o1, o2, o3, o4, o5⟩, p0, p1, p2, p3, p4, p5⟩ := O.facts)); (first | (have D : NewAt A' m' w0.heap.size := NewAt.of_fresh F0 hfr) | (have D : NewAt A' m' w0.heap.size := NewAt.of_fresh (FZ.alloc_ _).drews hfr))) | (go_at_call 29; refine (paused_any h now _).mono ?_; rintro e w2 ⟨rfl, hb2⟩; (first | (have F2 := F1.then_ hb2; have R2 := R1.below hb2; have O : OutZ w2 _ := Blk.below O hb2 (Blk.lt O); obtain ⟨⟨o0, o1, o2, o3, o4, o5⟩, p0, p1, p2, p3, p4, p5⟩ := O.facts) | (have F2 := F1.then_ hb2; have R2 := R1.below hb2) | (have F2 := (F1.alloc_ _).then_ hb2; have R2 := (R1.alloc _).below hb2; have O := outz_new hb2; have G : w0.heap.size ≤ w1.heap.size := F1.size; have N := NotAt.of_rd R1; obtain ⟨⟨o0, o1, o2, o3, o4, o5⟩, p0, p1, p2, p3, p4, p5⟩ := O.facts))) | (go_at_call 30; refine (isOff_any h now _).mono ?_; rintro e w3 ⟨rfl, hb3⟩; (first | (have F3 := F2.then_ hb3; have R3 := R2.below hb3; have O : OutZ w3 _ := Blk.below O hb3 (Blk.lt O); obtain ⟨⟨o0, o1, o2, o3, o4, o5⟩, p0, p1, p2, p3, p4, p5⟩ := O.facts) | (have F3 := F2.then_ hb3; have R3 := R2.below hb3) | (have F3 := (F2.alloc_ _).then_ hb3; have R3 := (R2.alloc _).below hb3; have O := outz_new hb3; have G : w0.heap.size ≤ w2.heap.size := F2.size; have N := NotAt.of_rd R2; obtain ⟨⟨o0, o1, o2, o3, o4, o5⟩, p0, p1, p2, p3, p4, p5⟩ := O.facts))))
    all_goals (go_wp2_with fail; go_meet; first | (with_reducible exact made_alloc _ _ _ _ F3 R3 D) | (with_reducible exact made_set _ _ _ _ F3 R3 O G N D))
  case rest =>
    obtain ⟨go, A', m', c', rfl, G, FW, R, KO, N, D⟩ := hcut
    obtain ⟨d0, d1, d2, _⟩ := hush_from kh HLT.out FW
    have LI : Lie w0 g go A' m' := ⟨HG.out, G, N, D.not HG.out⟩
    have M : MidAt 74 w0 wc g go p _ A' m' c' := ⟨KO, R, hp0.below FW HG.out, Kept1.of_below FW⟩
    by_cases hs : h.silent now = true
    · have HA : Hid (audioS now l h = 0) := by unfold Hid audioS; rw [if_pos hs]
      go_upto_region 6 with (first | (go_at_call 31; refine (silent_any h now _).mono ?_; rintro e w3 ⟨rfl, hb3⟩))
      have M3 := M.below hb3
      obtain ⟨e0, e1, e2, e3, e4, e5, e6, e7, f2, f3, f4, f5, hgo, hg⟩ := M3.facts
      have hlay := fun n os b o h => lay_cell w3 n os b o h
      by_cases hq : (0 : Int) = p.audio
      · have hq' : ((0 : Int) == p.audio) = true := by simp [hq]
        have HQ := hide hq
        clear hq
        refine wp_region_lay (by kernel_rfl) (by kernel_rfl) ?_
        repeat (go_big_quiet_step (fail))
        refine wpQuiet_nil ?_
        rintro w4 ⟨p1, rfl⟩
        have M4 := M3.below (lay_below w3 p1.n p1.os)
        clear hlay e0 e1 e2 e3 e4 e5 e6 e7 f2 f3 f4 f5 hgo hg d0 d1 d2
        generalize lay w3 p1.n p1.os = w4 at *
        obtain ⟨e0, e1, e2, e3, e4, e5, e6, e7, f2, f3, f4, f5, hgo, hg⟩ := M4.facts
        go_upto_region 8 with (fail)
        have M5 := M4
        generalize w4 = w5 at *
        clear e0 e1 e2 e3 e4 e5 e6 e7 f2 f3 f4 f5 hgo hg
        obtain ⟨e0, e1, e2, e3, e4, e5, e6, e7, f2, f3, f4, f5, hgo, hg⟩ := M5.facts
        have hlay := fun n os b o h => lay_cell w5 n os b o h
        refine wp_region_lay_tail 10 (by kernel_rfl) (by kernel_rfl) ?_
        simp only [List.take_succ_cons, List.take_zero, List.drop_succ_cons, List.drop_zero]
        repeat (go_big_quiet_step (first | (go_at_call 33; exact calls_lay_same (since_any _ _ (by omega) (by omega) (by omega) (by omega) _)) | (go_at_call 32; exact calls_lay (sound_any _ _ _))))
        refine wpQuiet_nil ?_
        rintro w6 ⟨p2, rfl⟩
        have M6 := M5.below (lay_below w5 p2.n p2.os)
        clear hlay e0 e1 e2 e3 e4 e5 e6 e7 f2 f3 f4 f5 hgo hg
        generalize lay w5 p2.n p2.os = w6 at *
        obtain ⟨e0, e1, e2, e3, e4, e5, e6, e7, f2, f3, f4, f5, hgo, hg⟩ := M6.facts
        go_upto_region 9 with (fail)
        have M7 := M6.sound LI (soundS (0 : Int) (sinceS now p.began))
        clear e0 e1 e2 e3 e4 e5 e6 e7 f2 f3 f4 f5 hgo hg
        generalize w6.setCell ⟨go, 3, none⟩ (.bool (soundS (0 : Int) (sinceS now p.began))) = w7 at *
        obtain ⟨e0, e1, e2, e3, e4, e5, -⟩ := M7.facts
        obtain ⟨⟨o0, o1, o2, o3, o4, o5⟩, p0, p1, p2, p3, p4, p5⟩ := (M7.zero (w.heap.size + 1) kr (by omega)).facts
        go_wp2
        refine bodyPost_ret (v := .agg #[.int .i64 now, .slice A' m' c', .int .u8 (0 : Int), .bool (soundS (0 : Int) (sinceS now p.began)), .bool (h.paused now), .bool (h.isOff now)]) ?_ ?_ ?_
        · exact show_result _ w7 _ _ _ _ _ _ _ rfl (M7.zero (w.heap.size + 1) kr (by omega))
        · rfl
        obtain ⟨r1, r2, r3⟩ := M7.done hb0 (w.heap.size + 1) (by omega) (by omega) (D.not kr.lt) (.int .i64 now) (.slice A' m' c') (.int .u8 (0 : Int)) (.bool (soundS (0 : Int) (sinceS now p.began))) (.bool (h.paused now)) (.bool (h.isOff now))
        have HP : panS p now l h = p := by unfold panS; rw [HA.out]; rw [if_pos HQ.out]
        rw [HP]
        exact ⟨A', m', c', by simp only [outS, encOut, HA.out, HP], r1, r2, r3⟩
      · have hq' : ((0 : Int) == p.audio) = false := by simp [hq]
        refine wp_region_lay (by kernel_rfl) (by kernel_rfl) ?_
        repeat (go_big_quiet_step (fail))
        refine wpQuiet_nil ?_
        rintro w4 ⟨p1, rfl⟩
        have M4 := M3.below (lay_below w3 p1.n p1.os)
        clear hlay e0 e1 e2 e3 e4 e5 e6 e7 f2 f3 f4 f5 hgo hg d0 d1 d2
        generalize lay w3 p1.n p1.os = w4 at *
        obtain ⟨e0, e1, e2, e3, e4, e5, e6, e7, f2, f3, f4, f5, hgo, hg⟩ := M4.facts
        go_upto_region 8 with (fail)
        have M5 := M4.turn LI 0 now
        generalize (w4.setCell ⟨g, 0, none⟩ (.int .u8 0)).setCell ⟨g, 1, none⟩ (.int .i64 now) = w5 at *
        clear e0 e1 e2 e3 e4 e5 e6 e7 f2 f3 f4 f5 hgo hg
        obtain ⟨e0, e1, e2, e3, e4, e5, e6, e7, f2, f3, f4, f5, hgo, hg⟩ := M5.facts
        have hlay := fun n os b o h => lay_cell w5 n os b o h
        refine wp_region_lay_tail 10 (by kernel_rfl) (by kernel_rfl) ?_
        simp only [List.take_succ_cons, List.take_zero, List.drop_succ_cons, List.drop_zero]
        repeat (go_big_quiet_step (first | (go_at_call 33; exact calls_lay_same (since_any _ _ (by omega) (by omega) (by omega) (by omega) _)) | (go_at_call 32; exact calls_lay (sound_any _ _ _))))
        refine wpQuiet_nil ?_
        rintro w6 ⟨p2, rfl⟩
        have M6 := M5.below (lay_below w5 p2.n p2.os)
        clear hlay e0 e1 e2 e3 e4 e5 e6 e7 f2 f3 f4 f5 hgo hg
        generalize lay w5 p2.n p2.os = w6 at *
        obtain ⟨e0, e1, e2, e3, e4, e5, e6, e7, f2, f3, f4, f5, hgo, hg⟩ := M6.facts
        go_upto_region 9 with (fail)
        have M7 := M6.sound LI (soundS (0 : Int) (sinceS now now))
        clear e0 e1 e2 e3 e4 e5 e6 e7 f2 f3 f4 f5 hgo hg
        generalize w6.setCell ⟨go, 3, none⟩ (.bool (soundS (0 : Int) (sinceS now now))) = w7 at *
        obtain ⟨e0, e1, e2, e3, e4, e5, -⟩ := M7.facts
        obtain ⟨⟨o0, o1, o2, o3, o4, o5⟩, p0, p1, p2, p3, p4, p5⟩ := (M7.zero (w.heap.size + 1) kr (by omega)).facts
        go_wp2
        refine bodyPost_ret (v := .agg #[.int .i64 now, .slice A' m' c', .int .u8 (0 : Int), .bool (soundS (0 : Int) (sinceS now now)), .bool (h.paused now), .bool (h.isOff now)]) ?_ ?_ ?_
        · exact show_result _ w7 _ _ _ _ _ _ _ rfl (M7.zero (w.heap.size + 1) kr (by omega))
        · rfl
        obtain ⟨r1, r2, r3⟩ := M7.done hb0 (w.heap.size + 1) (by omega) (by omega) (D.not kr.lt) (.int .i64 now) (.slice A' m' c') (.int .u8 (0 : Int)) (.bool (soundS (0 : Int) (sinceS now now))) (.bool (h.paused now)) (.bool (h.isOff now))
        have HP : panS p now l h = ⟨0, now⟩ := by unfold panS; rw [HA.out]; rw [if_neg hq]
        rw [HP]
        exact ⟨A', m', c', by simp only [outS, encOut, HA.out, HP], r1, r2, r3⟩
    · obtain ⟨au, HA'⟩ : ∃ au, Hid (topOf Life.loud l = au) := ⟨_, rfl⟩
      have HA : Hid (audioS now l h = au) := by unfold Hid audioS; rw [if_neg hs]; exact HA'.out
      have hs' : h.silent now = false := by simpa using hs
      clear hs
      go_upto_region 6 with (first | (go_at_call 31; refine (silent_any h now _).mono ?_; rintro e wa ⟨rfl, hba⟩; have Ma := M.below hba; obtain ⟨-, -, k2, -, -, -, -, -, kf, -⟩ := Ma.facts) | (go_at_call 15; refine (loudest_any l _ _ _ _ ((hr0.below FW).below hba)).mono ?_; rintro e wb ⟨rfl, hbb⟩; have Mb := Ma.below hbb; clear k2 kf; obtain ⟨-, -, k2, -, -, -, -, -, kf, -⟩ := Mb.facts))
      rw [HA'.out]
      have M3 := Mb.audio LI au
      generalize wb.setCell ⟨go, 2, none⟩ (.int .u8 au) = w3 at *
      obtain ⟨e0, e1, e2, e3, e4, e5, e6, e7, f2, f3, f4, f5, hgo, hg⟩ := M3.facts
      have hlay := fun n os b o h => lay_cell w3 n os b o h
      by_cases hq : au = p.audio
      · have hq' : (au == p.audio) = true := by simp [hq]
        have HQ := hide hq
        clear hq
        refine wp_region_lay (by kernel_rfl) (by kernel_rfl) ?_
        repeat (go_big_quiet_step (fail))
        refine wpQuiet_nil ?_
        rintro w4 ⟨p1, rfl⟩
        have M4 := M3.below (lay_below w3 p1.n p1.os)
        clear hlay e0 e1 e2 e3 e4 e5 e6 e7 f2 f3 f4 f5 hgo hg d0 d1 d2
        generalize lay w3 p1.n p1.os = w4 at *
        obtain ⟨e0, e1, e2, e3, e4, e5, e6, e7, f2, f3, f4, f5, hgo, hg⟩ := M4.facts
        go_upto_region 8 with (fail)
        have M5 := M4
        generalize w4 = w5 at *
        clear e0 e1 e2 e3 e4 e5 e6 e7 f2 f3 f4 f5 hgo hg
        obtain ⟨e0, e1, e2, e3, e4, e5, e6, e7, f2, f3, f4, f5, hgo, hg⟩ := M5.facts
        have hlay := fun n os b o h => lay_cell w5 n os b o h
        refine wp_region_lay_tail 10 (by kernel_rfl) (by kernel_rfl) ?_
        simp only [List.take_succ_cons, List.take_zero, List.drop_succ_cons, List.drop_zero]
        repeat (go_big_quiet_step (first | (go_at_call 33; exact calls_lay_same (since_any _ _ (by omega) (by omega) (by omega) (by omega) _)) | (go_at_call 32; exact calls_lay (sound_any _ _ _))))
        refine wpQuiet_nil ?_
        rintro w6 ⟨p2, rfl⟩
        have M6 := M5.below (lay_below w5 p2.n p2.os)
        clear hlay e0 e1 e2 e3 e4 e5 e6 e7 f2 f3 f4 f5 hgo hg
        generalize lay w5 p2.n p2.os = w6 at *
        obtain ⟨e0, e1, e2, e3, e4, e5, e6, e7, f2, f3, f4, f5, hgo, hg⟩ := M6.facts
        go_upto_region 9 with (fail)
        have M7 := M6.sound LI (soundS au (sinceS now p.began))
        clear e0 e1 e2 e3 e4 e5 e6 e7 f2 f3 f4 f5 hgo hg
        generalize w6.setCell ⟨go, 3, none⟩ (.bool (soundS au (sinceS now p.began))) = w7 at *
        obtain ⟨e0, e1, e2, e3, e4, e5, -⟩ := M7.facts
        obtain ⟨⟨o0, o1, o2, o3, o4, o5⟩, p0, p1, p2, p3, p4, p5⟩ := (M7.zero (w.heap.size + 1) kr (by omega)).facts
        go_wp2
        refine bodyPost_ret (v := .agg #[.int .i64 now, .slice A' m' c', .int .u8 au, .bool (soundS au (sinceS now p.began)), .bool (h.paused now), .bool (h.isOff now)]) ?_ ?_ ?_
        · exact show_result _ w7 _ _ _ _ _ _ _ rfl (M7.zero (w.heap.size + 1) kr (by omega))
        · rfl
        obtain ⟨r1, r2, r3⟩ := M7.done hb0 (w.heap.size + 1) (by omega) (by omega) (D.not kr.lt) (.int .i64 now) (.slice A' m' c') (.int .u8 au) (.bool (soundS au (sinceS now p.began))) (.bool (h.paused now)) (.bool (h.isOff now))
        have HP : panS p now l h = p := by unfold panS; rw [HA.out]; rw [if_pos HQ.out]
        rw [HP]
        exact ⟨A', m', c', by simp only [outS, encOut, HA.out, HP], r1, r2, r3⟩
      · have hq' : (au == p.audio) = false := by simp [hq]
        refine wp_region_lay (by kernel_rfl) (by kernel_rfl) ?_
        repeat (go_big_quiet_step (fail))
        refine wpQuiet_nil ?_
        rintro w4 ⟨p1, rfl⟩
        have M4 := M3.below (lay_below w3 p1.n p1.os)
        clear hlay e0 e1 e2 e3 e4 e5 e6 e7 f2 f3 f4 f5 hgo hg d0 d1 d2
        generalize lay w3 p1.n p1.os = w4 at *
        obtain ⟨e0, e1, e2, e3, e4, e5, e6, e7, f2, f3, f4, f5, hgo, hg⟩ := M4.facts
        go_upto_region 8 with (fail)
        have M5 := M4.turn LI au now
        generalize (w4.setCell ⟨g, 0, none⟩ (.int .u8 au)).setCell ⟨g, 1, none⟩ (.int .i64 now) = w5 at *
        clear e0 e1 e2 e3 e4 e5 e6 e7 f2 f3 f4 f5 hgo hg
        obtain ⟨e0, e1, e2, e3, e4, e5, e6, e7, f2, f3, f4, f5, hgo, hg⟩ := M5.facts
        have hlay := fun n os b o h => lay_cell w5 n os b o h
        refine wp_region_lay_tail 10 (by kernel_rfl) (by kernel_rfl) ?_
        simp only [List.take_succ_cons, List.take_zero, List.drop_succ_cons, List.drop_zero]
        repeat (go_big_quiet_step (first | (go_at_call 33; exact calls_lay_same (since_any _ _ (by omega) (by omega) (by omega) (by omega) _)) | (go_at_call 32; exact calls_lay (sound_any _ _ _))))
        refine wpQuiet_nil ?_
        rintro w6 ⟨p2, rfl⟩
        have M6 := M5.below (lay_below w5 p2.n p2.os)
        clear hlay e0 e1 e2 e3 e4 e5 e6 e7 f2 f3 f4 f5 hgo hg
        generalize lay w5 p2.n p2.os = w6 at *
        obtain ⟨e0, e1, e2, e3, e4, e5, e6, e7, f2, f3, f4, f5, hgo, hg⟩ := M6.facts
        go_upto_region 9 with (fail)
        have M7 := M6.sound LI (soundS au (sinceS now now))
        clear e0 e1 e2 e3 e4 e5 e6 e7 f2 f3 f4 f5 hgo hg
        generalize w6.setCell ⟨go, 3, none⟩ (.bool (soundS au (sinceS now now))) = w7 at *
        obtain ⟨e0, e1, e2, e3, e4, e5, -⟩ := M7.facts
        obtain ⟨⟨o0, o1, o2, o3, o4, o5⟩, p0, p1, p2, p3, p4, p5⟩ := (M7.zero (w.heap.size + 1) kr (by omega)).facts
        go_wp2
        refine bodyPost_ret (v := .agg #[.int .i64 now, .slice A' m' c', .int .u8 au, .bool (soundS au (sinceS now now)), .bool (h.paused now), .bool (h.isOff now)]) ?_ ?_ ?_
        · exact show_result _ w7 _ _ _ _ _ _ _ rfl (M7.zero (w.heap.size + 1) kr (by omega))
        · rfl
        obtain ⟨r1, r2, r3⟩ := M7.done hb0 (w.heap.size + 1) (by omega) (by omega) (D.not kr.lt) (.int .i64 now) (.slice A' m' c') (.int .u8 au) (.bool (soundS au (sinceS now now))) (.bool (h.paused now)) (.bool (h.isOff now))
        have HP : panS p now l h = ⟨au, now⟩ := by unfold panS; rw [HA.out]; rw [if_neg hq]
        rw [HP]
        exact ⟨A', m', c', by simp only [outS, encOut, HA.out, HP], r1, r2, r3⟩
end Go.Proofs.Ytllkokcknlefgaa
