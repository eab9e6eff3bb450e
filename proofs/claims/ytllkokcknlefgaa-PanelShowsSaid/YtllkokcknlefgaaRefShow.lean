/- The walk of the document's Show (handbellref20). (Written by wip/scripts/rshow.py.) -/
import Derived.Test.YtllkokcknlefgaaMid
import Derived.Test.YtllkokcknlefgaaRefHigh
import Derived.Test.YtllkokcknlefgaaRefSound
import Derived.Deep.RegionHeld3
import Derived.Deep.DeepCutAuto
namespace Go.Proofs.Ytllkokcknlefgaa
open Go.RowKit Go.Shelf S

theorem alloc4_elim {w : World} {c1 c2 c3 c4 : Array Value} {t1 t2 t3 t4 : TypeId} {K : World → Prop} (h : ∀ w0, Below w.heap.size w w0 → Blk w0 w.heap.size t1 c1 → Blk w0 (w.heap.size + 1) t2 c2 → Blk w0 (w.heap.size + 1 + 1) t3 c3 → Blk w0 (w.heap.size + 1 + 1 + 1) t4 c4 → w0.heap.size = w.heap.size + 4 → K w0) : K ((((w.alloc (.cells c1 t1)).alloc (.cells c2 t2)).alloc (.cells c3 t3)).alloc (.cells c4 t4)) := by
  refine alloc2_elim (w := (w.alloc (.cells c1 t1)).alloc (.cells c2 t2)) fun w0 hb k3 k4 hs => ?_
  have hs2 : ((w.alloc (.cells c1 t1)).alloc (.cells c2 t2)).heap.size = w.heap.size + 2 := by simp
  rw [hs2] at hb k3 k4 hs
  have k2 := Blk.new (w.alloc (.cells c1 t1)) t2 c2
  have k1 := (Blk.new w t1 c1).alloc (.cells c2 t2)
  rw [show (w.alloc (.cells c1 t1)).heap.size = w.heap.size + 1 from by simp] at k2
  exact h w0 ((((Below.refl _ _).alloc (Nat.le_refl _) _).alloc (by simp) _).trans (hb.mono (by omega))) (k1.below hb (by omega)) (k2.below hb (by omega)) k3 k4 hs

theorem heard_loud : heard true = Life.loud := by
  funext x
  simp [heard, Life.loud]

theorem MidAt.kept_blk {t t' : TypeId} {w0 w : World} {g go b m c : Nat} {q : Pan} {o : Out} {A : Option Addr} {cs : Array Value} (M : MidAt t w0 w g go q o A m c) (h : Blk w0 b t' cs) (hn : b ≠ g) : Blk w b t' cs := (M.kept.block b h.lt hn).trans h
theorem pan_facts {t : TypeId} {w : World} {b : Nat} {v0 v1 : Value} (h : Blk w b t #[v0, v1]) : w.cell? ⟨b, 0, none⟩ = some v0 ∧ w.cell? ⟨b, 1, none⟩ = some v1 ∧ w.frozen? ⟨b, 0, none⟩ = false ∧ w.frozen? ⟨b, 1, none⟩ = false := ⟨h.cell 0, h.cell 1, h.frozen 0, h.frozen 1⟩
theorem Rd.set6_ {α : Type} {w : World} {S : Shape α} {A : Option Addr} {n : Nat} {l : List α} (h : Rd w S A n l) {b : Nat} (hb : NotAt A n b) (v0 v1 v2 v3 v4 v5 : Value) : Rd (set6 w b v0 v1 v2 v3 v4 v5) S A n l := (((((h.set_ hb 0 v0).set_ hb 1 v1).set_ hb 2 v2).set_ hb 3 v3).set_ hb 4 v4).set_ hb 5 v5
theorem Blk.far6 {w : World} {g b : Nat} {t : TypeId} {cs : Array Value} (h : Blk w g t cs) (hn : g ≠ b) (v0 v1 v2 v3 v4 v5 : Value) : Blk (set6 w b v0 v1 v2 v3 v4 v5) g t cs := by
  unfold set6
  exact Blk.far (Blk.far (Blk.far (Blk.far (Blk.far (Blk.far h hn v0) hn v1) hn v2) hn v3) hn v4) hn v5
theorem OutZ.set6_ {w : World} {b : Nat} (h : OutZ w b) (v0 v1 v2 v3 v4 v5 : Value) : Blk (set6 w b v0 v1 v2 v3 v4 v5) b 32 #[v0, v1, v2, v3, v4, v5] := (((((Blk.set_ h 0 v0).set_ 1 v1).set_ 2 v2).set_ 3 v3).set_ 4 v4).set_ 5 v5
theorem below_set6 {B : Nat} {w w1 : World} (h : Below B w w1) {b : Nat} (hb : B ≤ b) (v0 v1 v2 v3 v4 v5 : Value) : Below B w (set6 w1 b v0 v1 v2 v3 v4 v5) := by
  unfold set6
  exact Below.setCell (Below.setCell (Below.setCell (Below.setCell (Below.setCell (Below.setCell h hb v0) hb v1) hb v2) hb v3) hb v4) hb v5
theorem rdone {t t' : TypeId} {wb w0 w : World} {g go m c b b' : Nat} {q : Pan} {A : Option Addr} {tick : Int} {ls : List Lamp} {au : Int} {so pa off : Bool} {u0 u1 : Value} (M : MidAt t w0 w g go q ⟨tick, ls, au, so, pa, off⟩ A m c) (hb : Below wb.heap.size wb w0) (Z : Blk w b t' #[u0, u1]) (O : OutZ w b')
    (h0 : wb.heap.size ≤ g) (h1 : wb.heap.size ≤ b) (h2 : wb.heap.size ≤ b') (hn : b' ≠ b) (hA : NotAt A m b) (hA' : NotAt A m b') (q0 q1 v0 v1 v2 v3 v4 v5 : Value) :
    Rd (set6 ((w.setCell ⟨b, 0, none⟩ q0).setCell ⟨b, 1, none⟩ q1) b' v0 v1 v2 v3 v4 v5).drew shLamp A m ls ∧ Below wb.heap.size wb (set6 ((w.setCell ⟨b, 0, none⟩ q0).setCell ⟨b, 1, none⟩ q1) b' v0 v1 v2 v3 v4 v5).drew ∧
    Blk (set6 ((w.setCell ⟨b, 0, none⟩ q0).setCell ⟨b, 1, none⟩ q1) b' v0 v1 v2 v3 v4 v5).drew b t' #[q0, q1] ∧ Blk (set6 ((w.setCell ⟨b, 0, none⟩ q0).setCell ⟨b, 1, none⟩ q1) b' v0 v1 v2 v3 v4 v5).drew b' 32 #[v0, v1, v2, v3, v4, v5] := by
  have k : Below wb.heap.size wb ((w.setCell ⟨b, 0, none⟩ q0).setCell ⟨b, 1, none⟩ q1) := Below.setCell (Below.setCell (kept_below hb h0 M.kept) h1 q0) h1 q1
  have r : Rd ((w.setCell ⟨b, 0, none⟩ q0).setCell ⟨b, 1, none⟩ q1) shLamp A m ls := (M.rd.set_ hA 0 q0).set_ hA 1 q1
  have z : Blk ((w.setCell ⟨b, 0, none⟩ q0).setCell ⟨b, 1, none⟩ q1) b t' #[q0, q1] := (Z.set_ 0 q0).set_ 1 q1
  have o : OutZ ((w.setCell ⟨b, 0, none⟩ q0).setCell ⟨b, 1, none⟩ q1) b' := Blk.far (Blk.far O hn q0) hn q1
  generalize (w.setCell ⟨b, 0, none⟩ q0).setCell ⟨b, 1, none⟩ q1 = w1 at *
  have r1 := r.set6_ hA' v0 v1 v2 v3 v4 v5
  have r2 := below_set6 k h2 v0 v1 v2 v3 v4 v5
  have r3 := z.far6 (fun e => hn e.symm) v0 v1 v2 v3 v4 v5
  have r4 := o.set6_ v0 v1 v2 v3 v4 v5
  generalize set6 w1 b' v0 v1 v2 v3 v4 v5 = w2 at *
  exact ⟨r1, r2.drew, r3, r4⟩
/-- What the document's Show hands back. -/
def RShowAt (w : World) (p : Pan) (o : Out) (e : Ending) (w' : World) : Prop :=
  ∃ A m c, e = .returned (.tuple #[.agg #[.int .u8 p.audio, .int .i64 p.began], encOut o (.slice A m c)]) ∧ Rd w' shLamp A m o.lamps ∧ Below w.heap.size w w'

/-- The results are read. -/
theorem rshow_result (tmps : Array Value) (w : World) (b b' : Nat) (q0 q1 v0 v1 v2 v3 v4 v5 : Value) (h8 : tmps[8]? = some (.pointer (some ⟨b, 0, none⟩))) (h9 : tmps[9]? = some (.pointer (some ⟨b', 0, none⟩)))
    (k' : Blk w b 47 #[q0, q1]) (k : Blk w b' 32 #[v0, v1, v2, v3, v4, v5]) :
    (results Try.f17 tmps).run Try.prog w = .ok (.tuple #[.agg #[q0, q1], .agg #[v0, v1, v2, v3, v4, v5]]) w := by
  have d0 : w.cell? ⟨b, 0, none⟩ = some q0 := k'.cell 0
  have d1 : w.cell? ⟨b, 1, none⟩ = some q1 := k'.cell 1
  have e0 : w.cell? ⟨b', 0, none⟩ = some v0 := k.cell 0
  have e1 : w.cell? ⟨b', 1, none⟩ = some v1 := k.cell 1
  have e2 : w.cell? ⟨b', 2, none⟩ = some v2 := k.cell 2
  have e3 : w.cell? ⟨b', 3, none⟩ = some v3 := k.cell 3
  have e4 : w.cell? ⟨b', 4, none⟩ = some v4 := k.cell 4
  have e5 : w.cell? ⟨b', 5, none⟩ = some v5 := k.cell 5
  simp [results, Try.results17, go_sem, h8, h9, d0, d1, e0, e1, e2, e3, e4, e5]

set_option maxRecDepth 100000 in
set_option maxHeartbeats 4000000 in
theorem rshow_any (p : Pan) (now : Int) (l : List Light) (h : Hush) (A : Option Addr) (n c : Nat) (w : World)
    (hr : Rd w shLight A n l) (hn : n ≤ 65536) (t0 : 0 ≤ now) (t1 : now ≤ 1099511627776) (t2 : 0 ≤ p.began) (t3 : p.began ≤ 1099511627776) :
    Calls Try.prog 17 #[.agg #[.int .u8 p.audio, .int .i64 p.began], .int .i64 now, .slice A n c, .agg #[.int .i64 h.untl, .int .i64 h.off, .int .u8 h.mark]] w (RShowAt w (panS p now l h) (outS p now l h)) := by
  go_enter Try.func17, Try.ntmps17
  go_upto_region 1 with (fail)
  refine alloc4_elim (K := fun w0 => Code.wp _ _ _ _ w0) ?_
  intro w0 hb0 kp kh kq kr hs0
  obtain ⟨b1, E1⟩ : ∃ b, w.heap.size + 1 = b := ⟨_, rfl⟩
  obtain ⟨b2, E2⟩ : ∃ b, b1 + 1 = b := ⟨_, rfl⟩
  obtain ⟨b3, E3⟩ : ∃ b, b2 + 1 = b := ⟨_, rfl⟩
  rw [E1] at kh kq kr ⊢
  rw [E2] at kq kr ⊢
  rw [E3] at kr ⊢
  have c0 : w0.cell? ⟨b1, 0, none⟩ = some (.int .i64 h.untl) := kh.cell 0
  have c1 : w0.cell? ⟨b1, 1, none⟩ = some (.int .i64 h.off) := kh.cell 1
  have hr0 := hr.below hb0
  have HLT : Hid (b1 < w0.heap.size) := by unfold Hid; omega
  have HG : Hid (w.heap.size < w0.heap.size) := by unfold Hid; omega
  have F0 := From.drew_ w0
  have FZ := From.refl_ w0
  clear hs0
  go_cut [10] (fun v10 wx => MadeAt w0 { tick := now, lamps := sortL (lampsOf l), audio := 0, sound := false, paused := decide (now < h.untl), off := decide (now < h.off) } v10 wx)
  case first =>
    go_region_held3 (fun w' => w'.cell? ⟨b1, 0, none⟩ = some (.int .i64 h.untl) ∧ w'.cell? ⟨b1, 1, none⟩ = some (.int .i64 h.off) ∧ w'.cell? ⟨b1, 2, none⟩ = some (.int .u8 h.mark) ∧ From w0 w')
      (first | (with_reducible exact hush_from kh HLT.out F0) | (with_reducible exact hush_from kh HLT.out F1) | (with_reducible exact hush_from kh HLT.out (FZ.alloc_ _).drews) | (with_reducible exact hush_from kh HLT.out (F1.alloc_ _)) | (with_reducible exact hush_from kh HLT.out (F1.set6_ G _ _ _ _ _ _)))
      (first | (go_at_call 12; refine (rlamps_any l _ _ _ _ (by first | exact hr0.below F0 | exact hr0.below (FZ.alloc_ _).drews) hn).mono ?_; rintro e w1 ⟨v, rfl, A', m', c', rfl, R1, hb1, hfr⟩; (first | (have F1 := F0.then_ hb1) | (have F1 := (FZ.alloc_ _).then_ (undrew hb1); have O := outz_new (undrew hb1); have G : w0.heap.size ≤ w0.heap.size := Nat.le_refl _; have N : NotAt A' m' w0.heap.size := NotAt.of_fresh hfr (by simp); obtain ⟨⟨o0, o1, o2, o3, o4, o5⟩, p0, p1, p2, p3, p4, p5⟩ := O.facts)); (first | (have D : NewAt A' m' w0.heap.size := NewAt.of_fresh F0 hfr) | (have D : NewAt A' m' w0.heap.size := NewAt.of_fresh (FZ.alloc_ _).drews hfr))))
    all_goals (go_wp2_with fail; go_meet; first | (with_reducible exact made_alloc _ _ _ _ F1 R1 D) | (with_reducible exact made_set _ _ _ _ F1 R1 O G N D))
  case rest =>
    obtain ⟨go, A', m', c', rfl, G, FW, R, KO, N, D⟩ := hcut
    have LI : Lie w0 w.heap.size go A' m' := ⟨HG.out, G, N, D.not HG.out⟩
    have M : MidAt 47 w0 wc w.heap.size go p ⟨now, sortL (lampsOf l), 0, false, h.paused now, h.isOff now⟩ A' m' c' := ⟨KO, R, kp.below FW HG.out, Kept1.of_below FW⟩
    clear c0 c1
    go_upto_region 2 with (fail)
    go_cut [30] (fun v30 wx => v30 = .bool (!h.silent now) ∧ wx = wc)
    case first =>
      obtain ⟨-, -, -, -, k4, k5, -⟩ := M.facts
      cases hp : h.paused now
      · rw [hp] at k4
        have hsil : Hid (h.silent now = h.isOff now) := by unfold Hid Hush.silent; rw [hp]; rfl
        go_wp2
        go_meet
        exact ⟨by rw [hsil.out], rfl⟩
      · rw [hp] at k4
        have hsil : Hid (h.silent now = true) := by unfold Hid Hush.silent; rw [hp]; rfl
        go_wp2
        go_meet
        exact ⟨by rw [hsil.out]; rfl, rfl⟩
    case rest =>
      obtain ⟨rfl, rfl⟩ := hcut
      by_cases hs : h.silent now = true
      · have hs' : (!h.silent now) = false := by simp [hs]
        have HA : Hid (audioS now l h = 0) := by unfold Hid audioS; rw [if_pos hs]
        rw [hs']
        have M3 := M
        obtain ⟨e0, e1, e2, e3, e4, e5, e6, e7, f2, f3, f4, f5, hgo, hg⟩ := M3.facts
        generalize wc = w3 at *
        by_cases hq : (0 : Int) = p.audio
        · have hq' : ((0 : Int) == p.audio) = true := by simp [hq]
          have HQ := hide hq
          clear hq
          go_upto_region 6 with (fail)
          have M5 := M3
          generalize w3 = w5 at *
          have hlay := fun n os b o h => lay_cell w5 n os b o h
          refine wp_region_lay_tail 8 (by kernel_rfl) (by kernel_rfl) ?_
          simp only [List.take_succ_cons, List.take_zero, List.drop_succ_cons, List.drop_zero]
          repeat (go_big_quiet_step (first | (go_at_call 28; exact calls_lay_same (rsince_any _ _ (by omega) (by omega) (by omega) (by omega) _)) | (go_at_call 27; exact calls_lay (rsound_any _ _ _))))
          refine wpQuiet_nil ?_
          rintro w6 ⟨p2, rfl⟩
          have M6 := M5.below (lay_below w5 p2.n p2.os)
          clear hlay e0 e1 e2 e3 e4 e5 e6 e7 f2 f3 f4 f5 hgo hg
          generalize lay w5 p2.n p2.os = w6 at *
          obtain ⟨e0, e1, e2, e3, e4, e5, e6, e7, f2, f3, f4, f5, hgo, hg⟩ := M6.facts
          go_upto_region 7 with (fail)
          have M7 := M6.sound LI (soundS (0 : Int) (sinceS now p.began))
          clear e0 e1 e2 e3 e4 e5 e6 e7 f2 f3 f4 f5 hgo hg
          generalize w6.setCell ⟨go, 3, none⟩ (.bool (soundS (0 : Int) (sinceS now p.began))) = w7 at *
          obtain ⟨e0, e1, e2, e3, e4, e5, e6, e7, -⟩ := M7.facts
          have O := M7.zero b3 kr (by omega)
          have Z := M7.kept_blk kq (by omega)
          obtain ⟨⟨o0, o1, o2, o3, o4, o5⟩, p0, p1, p2, p3, p4, p5⟩ := O.facts
          obtain ⟨z0, z1, y0, y1⟩ := pan_facts Z
          have n1 : go ≠ b2 := by have := kq.lt; omega
          have n2 : b3 ≠ b2 := by omega
          go_region_with (fail)
          all_goals
            go_wp2
            obtain ⟨r1, r2, r3, r4⟩ := rdone M7 hb0 Z O (by omega) (by omega) (by omega) n2 (D.not kq.lt) (D.not kr.lt) (.int .u8 p.audio) (.int .i64 p.began) (.int .i64 now) (.slice A' m' c') (.int .u8 (0 : Int)) (.bool (soundS (0 : Int) (sinceS now p.began))) (.bool (h.paused now)) (.bool (h.isOff now))
            refine bodyPost_ret (v := .tuple #[.agg #[.int .u8 p.audio, .int .i64 p.began], .agg #[.int .i64 now, .slice A' m' c', .int .u8 (0 : Int), .bool (soundS (0 : Int) (sinceS now p.began)), .bool (h.paused now), .bool (h.isOff now)]]) ?_ ?_ ?_
            · exact rshow_result _ _ b2 b3 _ _ _ _ _ _ _ _ rfl rfl r3 r4
            · rfl
            · have HP : panS p now l h = p := by unfold panS; rw [HA.out]; rw [if_pos HQ.out]
              rw [HP]
              exact ⟨A', m', c', by simp only [outS, encOut, HA.out, HP], r1, r2⟩
        · have hq' : ((0 : Int) == p.audio) = false := by simp [hq]
          go_upto_region 6 with (fail)
          have M5 := M3.turn LI (0 : Int) now
          clear e0 e1 e2 e3 e4 e5 e6 e7 f2 f3 f4 f5 hgo hg
          generalize (w3.setCell ⟨w.heap.size, 0, none⟩ (.int .u8 (0 : Int))).setCell ⟨w.heap.size, 1, none⟩ (.int .i64 now) = w5 at *
          obtain ⟨e0, e1, e2, e3, e4, e5, e6, e7, f2, f3, f4, f5, hgo, hg⟩ := M5.facts
          have hlay := fun n os b o h => lay_cell w5 n os b o h
          refine wp_region_lay_tail 8 (by kernel_rfl) (by kernel_rfl) ?_
          simp only [List.take_succ_cons, List.take_zero, List.drop_succ_cons, List.drop_zero]
          repeat (go_big_quiet_step (first | (go_at_call 28; exact calls_lay_same (rsince_any _ _ (by omega) (by omega) (by omega) (by omega) _)) | (go_at_call 27; exact calls_lay (rsound_any _ _ _))))
          refine wpQuiet_nil ?_
          rintro w6 ⟨p2, rfl⟩
          have M6 := M5.below (lay_below w5 p2.n p2.os)
          clear hlay e0 e1 e2 e3 e4 e5 e6 e7 f2 f3 f4 f5 hgo hg
          generalize lay w5 p2.n p2.os = w6 at *
          obtain ⟨e0, e1, e2, e3, e4, e5, e6, e7, f2, f3, f4, f5, hgo, hg⟩ := M6.facts
          go_upto_region 7 with (fail)
          have M7 := M6.sound LI (soundS (0 : Int) (sinceS now now))
          clear e0 e1 e2 e3 e4 e5 e6 e7 f2 f3 f4 f5 hgo hg
          generalize w6.setCell ⟨go, 3, none⟩ (.bool (soundS (0 : Int) (sinceS now now))) = w7 at *
          obtain ⟨e0, e1, e2, e3, e4, e5, e6, e7, -⟩ := M7.facts
          have O := M7.zero b3 kr (by omega)
          have Z := M7.kept_blk kq (by omega)
          obtain ⟨⟨o0, o1, o2, o3, o4, o5⟩, p0, p1, p2, p3, p4, p5⟩ := O.facts
          obtain ⟨z0, z1, y0, y1⟩ := pan_facts Z
          have n1 : go ≠ b2 := by have := kq.lt; omega
          have n2 : b3 ≠ b2 := by omega
          go_region_with (fail)
          all_goals
            go_wp2
            obtain ⟨r1, r2, r3, r4⟩ := rdone M7 hb0 Z O (by omega) (by omega) (by omega) n2 (D.not kq.lt) (D.not kr.lt) (.int .u8 (0 : Int)) (.int .i64 now) (.int .i64 now) (.slice A' m' c') (.int .u8 (0 : Int)) (.bool (soundS (0 : Int) (sinceS now now))) (.bool (h.paused now)) (.bool (h.isOff now))
            refine bodyPost_ret (v := .tuple #[.agg #[.int .u8 (0 : Int), .int .i64 now], .agg #[.int .i64 now, .slice A' m' c', .int .u8 (0 : Int), .bool (soundS (0 : Int) (sinceS now now)), .bool (h.paused now), .bool (h.isOff now)]]) ?_ ?_ ?_
            · exact rshow_result _ _ b2 b3 _ _ _ _ _ _ _ _ rfl rfl r3 r4
            · rfl
            · have HP : panS p now l h = ⟨0, now⟩ := by unfold panS; rw [HA.out]; rw [if_neg hq]
              rw [HP]
              exact ⟨A', m', c', by simp only [outS, encOut, HA.out, HP], r1, r2⟩
      · obtain ⟨au, HA'⟩ : ∃ au, Hid (topOf Life.loud l = au) := ⟨_, rfl⟩
        have HA : Hid (audioS now l h = au) := by unfold Hid audioS; rw [if_neg hs]; exact HA'.out
        have hs' : (!h.silent now) = true := by simp [hs]
        rw [hs']
        obtain ⟨-, -, k2, -, -, -, -, -, kf, -⟩ := M.facts
        go_upto_region 4 with (first | (go_at_call 14; refine (rhigh_any true l _ _ _ _ (hr0.below FW)).mono ?_; rintro e wb ⟨rfl, rfl⟩))
        rw [heard_loud, HA'.out]
        have M3 := M.audio LI au
        generalize wc.setCell ⟨go, 2, none⟩ (.int .u8 au) = w3 at *
        clear k2 kf
        obtain ⟨e0, e1, e2, e3, e4, e5, e6, e7, f2, f3, f4, f5, hgo, hg⟩ := M3.facts
        by_cases hq : au = p.audio
        · have hq' : (au == p.audio) = true := by simp [hq]
          have HQ := hide hq
          clear hq
          go_upto_region 6 with (fail)
          have M5 := M3
          generalize w3 = w5 at *
          have hlay := fun n os b o h => lay_cell w5 n os b o h
          refine wp_region_lay_tail 8 (by kernel_rfl) (by kernel_rfl) ?_
          simp only [List.take_succ_cons, List.take_zero, List.drop_succ_cons, List.drop_zero]
          repeat (go_big_quiet_step (first | (go_at_call 28; exact calls_lay_same (rsince_any _ _ (by omega) (by omega) (by omega) (by omega) _)) | (go_at_call 27; exact calls_lay (rsound_any _ _ _))))
          refine wpQuiet_nil ?_
          rintro w6 ⟨p2, rfl⟩
          have M6 := M5.below (lay_below w5 p2.n p2.os)
          clear hlay e0 e1 e2 e3 e4 e5 e6 e7 f2 f3 f4 f5 hgo hg
          generalize lay w5 p2.n p2.os = w6 at *
          obtain ⟨e0, e1, e2, e3, e4, e5, e6, e7, f2, f3, f4, f5, hgo, hg⟩ := M6.facts
          go_upto_region 7 with (fail)
          have M7 := M6.sound LI (soundS au (sinceS now p.began))
          clear e0 e1 e2 e3 e4 e5 e6 e7 f2 f3 f4 f5 hgo hg
          generalize w6.setCell ⟨go, 3, none⟩ (.bool (soundS au (sinceS now p.began))) = w7 at *
          obtain ⟨e0, e1, e2, e3, e4, e5, e6, e7, -⟩ := M7.facts
          have O := M7.zero b3 kr (by omega)
          have Z := M7.kept_blk kq (by omega)
          obtain ⟨⟨o0, o1, o2, o3, o4, o5⟩, p0, p1, p2, p3, p4, p5⟩ := O.facts
          obtain ⟨z0, z1, y0, y1⟩ := pan_facts Z
          have n1 : go ≠ b2 := by have := kq.lt; omega
          have n2 : b3 ≠ b2 := by omega
          go_region_with (fail)
          all_goals
            go_wp2
            obtain ⟨r1, r2, r3, r4⟩ := rdone M7 hb0 Z O (by omega) (by omega) (by omega) n2 (D.not kq.lt) (D.not kr.lt) (.int .u8 p.audio) (.int .i64 p.began) (.int .i64 now) (.slice A' m' c') (.int .u8 au) (.bool (soundS au (sinceS now p.began))) (.bool (h.paused now)) (.bool (h.isOff now))
            refine bodyPost_ret (v := .tuple #[.agg #[.int .u8 p.audio, .int .i64 p.began], .agg #[.int .i64 now, .slice A' m' c', .int .u8 au, .bool (soundS au (sinceS now p.began)), .bool (h.paused now), .bool (h.isOff now)]]) ?_ ?_ ?_
            · exact rshow_result _ _ b2 b3 _ _ _ _ _ _ _ _ rfl rfl r3 r4
            · rfl
            · have HP : panS p now l h = p := by unfold panS; rw [HA.out]; rw [if_pos HQ.out]
              rw [HP]
              exact ⟨A', m', c', by simp only [outS, encOut, HA.out, HP], r1, r2⟩
        · have hq' : (au == p.audio) = false := by simp [hq]
          go_upto_region 6 with (fail)
          have M5 := M3.turn LI au now
          clear e0 e1 e2 e3 e4 e5 e6 e7 f2 f3 f4 f5 hgo hg
          generalize (w3.setCell ⟨w.heap.size, 0, none⟩ (.int .u8 au)).setCell ⟨w.heap.size, 1, none⟩ (.int .i64 now) = w5 at *
          obtain ⟨e0, e1, e2, e3, e4, e5, e6, e7, f2, f3, f4, f5, hgo, hg⟩ := M5.facts
          have hlay := fun n os b o h => lay_cell w5 n os b o h
          refine wp_region_lay_tail 8 (by kernel_rfl) (by kernel_rfl) ?_
          simp only [List.take_succ_cons, List.take_zero, List.drop_succ_cons, List.drop_zero]
          repeat (go_big_quiet_step (first | (go_at_call 28; exact calls_lay_same (rsince_any _ _ (by omega) (by omega) (by omega) (by omega) _)) | (go_at_call 27; exact calls_lay (rsound_any _ _ _))))
          refine wpQuiet_nil ?_
          rintro w6 ⟨p2, rfl⟩
          have M6 := M5.below (lay_below w5 p2.n p2.os)
          clear hlay e0 e1 e2 e3 e4 e5 e6 e7 f2 f3 f4 f5 hgo hg
          generalize lay w5 p2.n p2.os = w6 at *
          obtain ⟨e0, e1, e2, e3, e4, e5, e6, e7, f2, f3, f4, f5, hgo, hg⟩ := M6.facts
          go_upto_region 7 with (fail)
          have M7 := M6.sound LI (soundS au (sinceS now now))
          clear e0 e1 e2 e3 e4 e5 e6 e7 f2 f3 f4 f5 hgo hg
          generalize w6.setCell ⟨go, 3, none⟩ (.bool (soundS au (sinceS now now))) = w7 at *
          obtain ⟨e0, e1, e2, e3, e4, e5, e6, e7, -⟩ := M7.facts
          have O := M7.zero b3 kr (by omega)
          have Z := M7.kept_blk kq (by omega)
          obtain ⟨⟨o0, o1, o2, o3, o4, o5⟩, p0, p1, p2, p3, p4, p5⟩ := O.facts
          obtain ⟨z0, z1, y0, y1⟩ := pan_facts Z
          have n1 : go ≠ b2 := by have := kq.lt; omega
          have n2 : b3 ≠ b2 := by omega
          go_region_with (fail)
          all_goals
            go_wp2
            obtain ⟨r1, r2, r3, r4⟩ := rdone M7 hb0 Z O (by omega) (by omega) (by omega) n2 (D.not kq.lt) (D.not kr.lt) (.int .u8 au) (.int .i64 now) (.int .i64 now) (.slice A' m' c') (.int .u8 au) (.bool (soundS au (sinceS now now))) (.bool (h.paused now)) (.bool (h.isOff now))
            refine bodyPost_ret (v := .tuple #[.agg #[.int .u8 au, .int .i64 now], .agg #[.int .i64 now, .slice A' m' c', .int .u8 au, .bool (soundS au (sinceS now now)), .bool (h.paused now), .bool (h.isOff now)]]) ?_ ?_ ?_
            · exact rshow_result _ _ b2 b3 _ _ _ _ _ _ _ _ rfl rfl r3 r4
            · rfl
            · have HP : panS p now l h = ⟨au, now⟩ := by unfold panS; rw [HA.out]; rw [if_neg hq]
              rw [HP]
              exact ⟨A', m', c', by simp only [outS, encOut, HA.out, HP], r1, r2⟩
end Go.Proofs.Ytllkokcknlefgaa
