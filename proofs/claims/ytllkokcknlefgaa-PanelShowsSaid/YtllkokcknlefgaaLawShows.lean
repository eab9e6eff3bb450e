/- The walk of PanelShows. -/
import Derived.Test.YtllkokcknlefgaaLawSilent
import Derived.Test.YtllkokcknlefgaaOpenTick
import Derived.Deep.RegionHeld3
import Derived.Deep.DeepCutAuto
namespace Go.Proofs.Ytllkokcknlefgaa
open Go.RowKit Go.Shelf S

theorem NotAt.of_small {α : Type} {w : World} {S : Shape α} {A : Option Addr} {n g : Nat} {l : List α} {t : TypeId} {cs : Array Value} (h : Rd w S A n l) (k : Blk w g t cs) (hs : cs.size < S.k) : NotAt A n g := by
  intro hn b off e hbg
  subst hbg
  obtain ⟨b', off', x, e', _, _, hc⟩ := h.at_ (i := 0) hn
  rw [e] at e'
  injection e' with e'
  injection e' with eb eo
  subst eb eo
  have hl : S.k - 1 < (S.enc x).length := by rw [S.len]; omega
  have hc' := hc (S.k - 1) _ (List.getElem?_eq_getElem hl)
  rw [k.cell, Array.getElem?_eq_none (by omega)] at hc'
  cases hc'
theorem Rd.keepAt {α : Type} {w w' : World} {S : Shape α} {A : Option Addr} {n g : Nat} {l : List α} (h : Rd w S A n l) (hK : Kept1 g w w') (hN : NotAt A n g) : Rd w' S A n l :=
  ⟨h.1, h.2.1, fun hn => by
    obtain ⟨b, off, e, hb, hc⟩ := h.2.2 hn
    exact ⟨b, off, e, Nat.lt_of_lt_of_le hb hK.size, fun i x hx j v hv => (World.cell?_of_block (w := w) (hK.block b hb (hN hn b off e))).trans (hc i x hx j v hv)⟩⟩
theorem undrew_r (w : World) : Below w.heap.size w w.drew := ⟨rfl, rfl, rfl, Nat.le_refl _, fun _ _ => rfl⟩
theorem show_keep {w0 w : World} {g hk bw : Nat} {t t' : TypeId} {v0 v1 v2 u0 u1 u2 u3 u4 u5 : Value} (kh : Blk w0 hk t #[v0, v1, v2]) (kw : Blk w0 bw t' #[u0, u1, u2, u3, u4, u5]) (h1 : hk ≠ g) (h2 : bw ≠ g) (K : Kept1 g w0 w) :
    w.cell? ⟨hk, 0, none⟩ = some v0 ∧ w.cell? ⟨hk, 1, none⟩ = some v1 ∧ w.cell? ⟨hk, 2, none⟩ = some v2 ∧ w.cell? ⟨bw, 0, none⟩ = some u0 ∧ w.cell? ⟨bw, 1, none⟩ = some u1 ∧ w.cell? ⟨bw, 2, none⟩ = some u2 ∧ w.cell? ⟨bw, 3, none⟩ = some u3 ∧ w.cell? ⟨bw, 4, none⟩ = some u4 ∧ w.cell? ⟨bw, 5, none⟩ = some u5 ∧ Kept1 g w0 w := by
  have a : Blk w hk t #[v0, v1, v2] := (K.block hk kh.lt h1).trans kh
  have b : Blk w bw t' #[u0, u1, u2, u3, u4, u5] := (K.block bw kw.lt h2).trans kw
  exact ⟨a.cell 0, a.cell 1, a.cell 2, b.cell 0, b.cell 1, b.cell 2, b.cell 3, b.cell 4, b.cell 5, K⟩
theorem lamps_short {w : World} {A : Option Addr} {m : Nat} {L : List Light} {o : Out} {st : Pan} {nn : Int} {h : Hush} (R : Rd w shLamp A m o.lamps) (hs : L.length ≤ 65536) (ho : outS st nn L h = o) : m ≤ 65536 := by
  rw [← R.1, ← ho]
  show (sortL (lampsOf L)).length ≤ 65536
  rw [(sortL_perm _).length_eq]
  exact Nat.le_trans (lampsOf_le _) hs
theorem pan_began {st q : Pan} {nn : Int} {L : List Light} {h : Hush} (e : panS st nn L h = q) (n0 : 0 ≤ nn) (m2 : 0 ≤ st.began) (n2 : st.began ≤ nn) : 0 ≤ q.began ∧ q.began ≤ nn := by
  rw [← e]
  unfold panS
  split
  · exact ⟨m2, n2⟩
  · exact ⟨n0, Int.le_refl _⟩
theorem tick_from {w0 w : World} {b o o' : Nat} {v v' : Value} (hb : b < w0.heap.size) (h : w0.cell? ⟨b, o, none⟩ = some v) (h' : w0.cell? ⟨b, o', none⟩ = some v') (F : From w0 w) :
    w.cell? ⟨b, o, none⟩ = some v ∧ w.cell? ⟨b, o', none⟩ = some v' ∧ From w0 w := ⟨(Below.cell F hb).trans h, (Below.cell F hb).trans h', F⟩

set_option maxRecDepth 100000 in
set_option maxHeartbeats 4000000 in
theorem law_shows (from0 : Int) (b0 : 0 ≤ from0) (b1 : from0 ≤ 65535) (l : List Tick) (A : Option Addr) (n c : Nat) (w : World) (hf : ∀ x ∈ l, Tick.okay w x) (hr : Rd w shTick A n l) :
    Calls Try.prog 5 #[.slice A n c, .int .u16 from0] w fun e w' => e = .returned (.bool true) ∧ Below w.heap.size w w' := by
  have hn : n ≤ 9223372036854775807 := hr.2.1
  have HF := hide hf
  clear hf
  by_cases hbig : 40 < n
  · go_enter Try.func5, Try.ntmps5
    go_wp2_with fail
    refine (dark_any _).mono ?_
    rintro e w1 ⟨rfl, hb1⟩
    go_wp2_with fail
    refine (dark_any _).mono ?_
    rintro e w2 ⟨rfl, hb2⟩
    go_wp2
    go_ret
    exact ⟨rfl, below_then hb1 hb2⟩
  · have hn40 : n ≤ 40 := by omega
    go_enter Try.func5, Try.ntmps5
    go_wp2_with fail
    refine (dark_any _).mono ?_
    rintro e w1 ⟨rfl, hb1⟩
    go_wp2_with fail
    refine (pnew_any _).mono ?_
    rintro e w2 ⟨rfl, rfl⟩
    go_wp2_with fail
    refine alloc2_elim (K := fun w0 => Code.wp _ _ _ _ w0) ?_
    intro w2 hb2 kp kq _
    have hb12 := below_then hb1 hb2
    obtain ⟨g, hg⟩ : ∃ g, w1.heap.size = g := ⟨_, rfl⟩
    obtain ⟨gq, hgq⟩ : ∃ gq, g + 1 = gq := ⟨_, rfl⟩
    rw [hg] at kp kq ⊢
    rw [hgq] at kq ⊢
    have HG : Hid (w.heap.size ≤ g) := by unfold Hid; have := hb1.size; omega
    clear hb1 hb2 hg
    go_loopw [7, 8] (fun v i wr => ∃ (j : Nat) (nw : Int) (st : Pan), j ≤ n ∧ v = .int .i64 nw ∧ i = .int .i64 j ∧ 0 ≤ nw ∧ nw ≤ 65545 + 3 * j ∧ 0 ≤ st.began ∧ st.began ≤ nw ∧ Blk wr g 74 #[.int .u8 st.audio, .int .i64 st.began] ∧ Blk wr gq 47 #[.int .u8 st.audio, .int .i64 st.began] ∧ Below w.heap.size w wr) (fun _ i _ => n - (intOf i).toNat)
    case atStart => exact ⟨0, _, ⟨0, 0⟩, Nat.zero_le _, rfl, rfl, by omega, by omega, by simp, by simp; omega, kp, kq, hb12⟩
    case round =>
      obtain ⟨j, nw, st, hj, rfl, rfl, m0, m1, m2, m3, kpj, kqj, hb⟩ := hrel
      by_cases hlt : j < n
      · obtain ⟨b, off, x, rfl, hbl, hx, k0, k1, k2, k3⟩ := tick_cells (hr.below hb) hlt
        obtain ⟨x0, x1, x2, x3, x4, x5, x6, x7⟩ := HF.out x (List.mem_of_getElem? hx)
        have HX6 := hide x6
        have hrl := x7.below hb
        have hxn : x.n ≤ 9223372036854775807 := hrl.2.1
        clear hx x6 x7
        by_cases h20 : 20 < x.n
        · go_wp2_with fail
          go_ret
          exact ⟨rfl, hb⟩
        · go_wp2_with fail
          refine (of_any false x.l HX6.out x.A x.n x.c wr hrl).mono ?_
          rintro e w3 ⟨v, v', rfl, hv, hv', hb3⟩
          have hd := hide (ofL_nodup false (x.l.take 20))
          have hs := ofL_short false (x.l.take 20)
          rw [List.take_take, Nat.min_self] at hs
          obtain ⟨A1, c1, rfl, R1⟩ := hv.slice_
          obtain ⟨A2, c2, rfl, R2⟩ := hv'.slice_
          have hb13 := below_then hb hb3
          have kp3 := kpj.below hb3 kpj.lt
          have kq3 := kqj.below hb3 kqj.lt
          clear hv hv'
          generalize ofL false (x.l.take 20) = L at *
          obtain ⟨nn, hnn⟩ : ∃ nn, nw + (1 + x.behind % 3) = nn := ⟨_, rfl⟩
          rw [hnn]
          have n0 : 0 ≤ nn := by omega
          have n1 : nn ≤ 65545 + 3 * (j + 1) := by omega
          have n2 : st.began ≤ nn := by omega
          clear hnn m0 m1 m3 kpj kqj
          have k0' := (hb3.cell hbl).trans k0
          have k2' := (hb3.cell hbl).trans k2
          have k3' := (hb3.cell hbl).trans k3
          have hbl3 : b < w3.heap.size := Nat.lt_of_lt_of_le hbl hb3.size
          clear k0 k1 k2 k3 hb3 hb hrl
          go_upto_region 12 with (fail)
          go_cut [11] from 27 to 100 (fun v11 wx => ∃ (hk : Nat) (un ov : Int), v11 = .pointer (some ⟨hk, 0, none⟩) ∧ w3.heap.size ≤ hk ∧ From w3 wx ∧ Blk wx hk 51 #[.int .i64 un, .int .i64 ov, .int .u8 0])
          case first =>
            have F0 := From.drew_ w3
            have FZ := From.refl_ w3
            go_region_held3 (fun w' => w'.cell? ⟨b, off + j * 4 + 2, none⟩ = some (.int .u8 x.p) ∧ w'.cell? ⟨b, off + j * 4 + 3, none⟩ = some (.int .u8 x.o) ∧ From w3 w')
              (first | (with_reducible exact tick_from hbl3 k2' k3' F0) | (with_reducible exact tick_from hbl3 k2' k3' (FZ.alloc_ _).drews) | (with_reducible exact tick_from hbl3 k2' k3' (F0.alloc_ _)))
              (fail)
            all_goals (go_wp2_with fail; go_meet; exact ⟨_, _, _, rfl, Nat.le_refl _, (FZ.alloc_ _).drews, Blk.new _ _ _⟩)
          case rest =>
            obtain ⟨hk, un, ov, rfl, hhk, F4, kh⟩ := hcut
            obtain ⟨h0, h1, h2⟩ : wc.cell? ⟨hk, 0, none⟩ = some (.int .i64 un) ∧ wc.cell? ⟨hk, 1, none⟩ = some (.int .i64 ov) ∧ wc.cell? ⟨hk, 2, none⟩ = some (.int .u8 0) := ⟨kh.cell 0, kh.cell 1, kh.cell 2⟩
            have kp4 := kp3.below F4 kp3.lt
            have kq4 := kq3.below F4 kq3.lt
            have R14 := R1.below F4
            have R24 := R2.below F4
            have hb4 : Below w.heap.size w wc := below_then hb13 F4
            obtain ⟨z0, z1⟩ : wc.cell? ⟨gq, 0, none⟩ = some (.int .u8 st.audio) ∧ wc.cell? ⟨gq, 1, none⟩ = some (.int .i64 st.began) := ⟨kq4.cell 0, kq4.cell 1⟩
            have hkg : g ≠ hk := by have := kp3.lt; omega
            have hkq : gq ≠ hk := by have := kq3.lt; omega
            clear kp3 kq3 R1 R2 k0' k2' k3' hb13 F4
            go_wp2_with fail
            refine (rshow_any st nn L ⟨un, ov, 0⟩ A2 L.length c2 wc R24 hs n0 (by omega) m2 (by omega)).mono ?_
            rintro e w5 ⟨A5, m5, c5, rfl, R5, hb5⟩
            obtain ⟨q, hq⟩ : ∃ q, panS st nn L ⟨un, ov, 0⟩ = q := ⟨_, rfl⟩
            obtain ⟨o, ho⟩ : ∃ o, outS st nn L ⟨un, ov, 0⟩ = o := ⟨_, rfl⟩
            have HQ := hide hq
            have HO := hide ho
            rw [ho] at R5
            rw [hq, ho, encOut]
            clear hq ho
            have kp5 := kp4.below hb5 kp4.lt
            have kq5 := kq4.below hb5 kq4.lt
            have kh5 := kh.below hb5 kh.lt
            have R15 := R14.below hb5
            have hb05 := below_then hb4 hb5
            clear kp4 kq4 R14 R24 hb5 hb4 z0 z1 h0 h1 h2
            go_upto_region 14 with (fail)
            refine alloc2_elim (K := fun w0 => Code.wp _ _ _ _ w0) ?_
            intro w6 hb6 kb kw hs6
            have kq6 := kq5.below hb6 kq5.lt
            have hqlt := kq6.lt
            obtain ⟨d0, d1⟩ : w6.cell? ⟨w5.heap.size, 0, none⟩ = some (.int .u8 q.audio) ∧ w6.cell? ⟨w5.heap.size, 1, none⟩ = some (.int .i64 q.began) := ⟨kb.cell 0, kb.cell 1⟩
            obtain ⟨f0, f1⟩ : w6.frozen? ⟨gq, 0, none⟩ = false ∧ w6.frozen? ⟨gq, 1, none⟩ = false := ⟨kq6.frozen 0, kq6.frozen 1⟩
            obtain ⟨z0, z1⟩ : w6.cell? ⟨gq, 0, none⟩ = some (.int .u8 st.audio) ∧ w6.cell? ⟨gq, 1, none⟩ = some (.int .i64 st.began) := ⟨kq6.cell 0, kq6.cell 1⟩
            go_upto_region 15 with (fail)
            obtain ⟨bw, hbw⟩ : ∃ bw, w5.heap.size + 1 = bw := ⟨_, rfl⟩
            rw [hbw] at kw ⊢
            have hgw : g < w5.heap.size := kp5.lt
            have hqw : gq < w5.heap.size := kq5.lt
            have hkw : hk < w5.heap.size := kh5.lt
            have hgq' : g ≠ gq := by omega
            have hN1 := NotAt.of_small (R15.below hb6) kq6 (by simp [shLight])
            have hN5 := NotAt.of_small (R5.below hb6) kq6 (by simp [shLamp])
            have kp7 := ((kp5.below hb6 hgw).far (p := ⟨gq, 0, none⟩) hgq' (.int .u8 q.audio)).far (p := ⟨gq, 1, none⟩) hgq' (.int .i64 q.began)
            have kh7 := ((kh5.below hb6 hkw).far (p := ⟨gq, 0, none⟩) (fun e => hkq e.symm) (.int .u8 q.audio)).far (p := ⟨gq, 1, none⟩) (fun e => hkq e.symm) (.int .i64 q.began)
            have kw7 := (kw.far (p := ⟨gq, 0, none⟩) (by show bw ≠ gq; omega) (.int .u8 q.audio)).far (p := ⟨gq, 1, none⟩) (by show bw ≠ gq; omega) (.int .i64 q.began)
            have kq7 := (kq6.set_ 0 (.int .u8 q.audio)).set_ 1 (.int .i64 q.began)
            have R17 := ((R15.below hb6).set_ hN1 0 (.int .u8 q.audio)).set_ hN1 1 (.int .i64 q.began)
            have R57 := ((R5.below hb6).set_ hN5 0 (.int .u8 q.audio)).set_ hN5 1 (.int .i64 q.began)
            have hb7 : Below w.heap.size w ((w6.setCell ⟨gq, 0, none⟩ (.int .u8 q.audio)).setCell ⟨gq, 1, none⟩ (.int .i64 q.began)) := ((below_then hb05 hb6).setCell (by have := HG.out; show w.heap.size ≤ gq; omega) _).setCell (by have := HG.out; show w.heap.size ≤ gq; omega) _
            clear kp5 kh5 kw kq5 kq6 R15 R5 hb05 hb6 kb d0 d1 f0 f1 z0 z1 hs6 hN1 hN5 hqlt
            generalize (w6.setCell ⟨gq, 0, none⟩ (.int .u8 q.audio)).setCell ⟨gq, 1, none⟩ (.int .i64 q.began) = w7 at *
            have hN5 := NotAt.of_small R57 kp7 (by simp [shLamp])
            have hkg' : hk ≠ g := fun e => hkg e.symm
            have hwg : bw ≠ g := by omega
            have hpre : Hid (0 ≤ st.began ∧ st.began ≤ 1099511627776 ∧ nn ≤ 1099511627776) := ⟨m2, by omega, by omega⟩
            obtain ⟨h0, h1, h2, y0, y1, y2, y3, y4, y5, K00⟩ := show_keep kh7 kw7 hkg' hwg (Kept1.of_below (Below.refl _ _))
            go_cut [100] from 27 to 100 (fun v100 wx => v100 = .bool false ∧ Blk wx g 74 #[.int .u8 q.audio, .int .i64 q.began] ∧ Kept1 g w7 wx)
            case first =>
              have K0 : Kept1 g w7 w7.drew := Kept1.of_below (undrew_r _)
              go_region_held3 (fun w' => w'.cell? ⟨hk, 0, none⟩ = some (.int .i64 un) ∧ w'.cell? ⟨hk, 1, none⟩ = some (.int .i64 ov) ∧ w'.cell? ⟨hk, 2, none⟩ = some (.int .u8 0) ∧ w'.cell? ⟨bw, 0, none⟩ = some (.int .i64 o.tick) ∧ w'.cell? ⟨bw, 1, none⟩ = some (.slice A5 m5 c5) ∧ w'.cell? ⟨bw, 2, none⟩ = some (.int .u8 o.audio) ∧ w'.cell? ⟨bw, 3, none⟩ = some (.bool o.sound) ∧ w'.cell? ⟨bw, 4, none⟩ = some (.bool o.paused) ∧ w'.cell? ⟨bw, 5, none⟩ = some (.bool o.off) ∧ Kept1 g w7 w')
                (first | (with_reducible exact show_keep kh7 kw7 hkg' hwg K0) | (with_reducible exact show_keep kh7 kw7 hkg' hwg K1) | (with_reducible exact show_keep kh7 kw7 hkg' hwg K2))
                (first | (go_at_call 18; refine (show_any g st nn L ⟨un, ov, 0⟩ A1 L.length c1 _ (kp7.below (undrew_r _) kp7.lt) hd.out (R17.below (undrew_r _)) hs n0 hpre.out.2.2 hpre.out.1 hpre.out.2.1).mono ?_; rintro e w8 ⟨A8, m8, c8, rfl, R8, kp8, K8⟩; rw [HO.out] at R8; rw [HQ.out] at kp8; rw [HO.out, encOut]; have K1 : Kept1 g w7 w8 := K0.trans_ K8 K0.size) | (go_at_call 10; have hm := R57.1.symm.trans R8.1; subst hm; refine (same_eq o o.lamps A8 A5 m5 c8 c5 _ R8 (R57.keepAt K1 hN5) (lamps_short R8 hs HO.out)).mono ?_; rintro e w9 ⟨rfl, hb9⟩; rw [decide_eq_true rfl]; have K2 := K1.then_below hb9; have kp9 := kp8.below hb9 kp8.lt))
              all_goals (go_wp2_with fail; go_meet; exact ⟨rfl, kp9, K2⟩)
            case rest =>
              obtain ⟨rfl, kpx, Kx⟩ := hcut
              have kqx : Blk wc gq 47 #[.int .u8 q.audio, .int .i64 q.began] := (Kx.block gq (by have := kq7.lt; exact this) (fun e => hgq' e.symm)).trans kq7
              have hbx : Below w.heap.size w wc := kept_below hb7 HG.out Kx
              have hq := pan_began HQ.out n0 m2 n2
              clear kp7 kq7 kh7 kw7 R17 R57 hb7 h0 h1 h2 y0 y1 y2 y3 y4 y5 K00 Kx hN5
              go_wp2_with fail
              go_roundw
              case rel => exact ⟨j + 1, nn, q, by omega, rfl, by go_num, n0, by omega, hq.1, hq.2, kpx, kqx, hbx⟩
              case measure => simp [intOf]; omega
      · go_wp2
        go_ret
        exact ⟨rfl, hb⟩
end Go.Proofs.Ytllkokcknlefgaa
