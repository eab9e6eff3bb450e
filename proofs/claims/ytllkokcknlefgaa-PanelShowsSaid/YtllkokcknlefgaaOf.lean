/- The walk of 'of': lights by numbers, as the program and the document have them. -/
import Derived.Test.YtllkokcknlefgaaSmall
import Derived.Test.YtllkokcknlefgaaAppend
import Derived.Test.YtllkokcknlefgaaSpecOf
import Derived.Deep.DeepCutAuto
namespace Go.Proofs.Ytllkokcknlefgaa
open Go.RowKit Go.Shelf S

def encOne (x : One) : List Value := [.int .u8 x.p, .int .u8 x.state, .int .u8 x.stage, .int .u16 x.since]
def shOne : Shape One := ⟨4, encOne, fun _ => rfl, fun x v hv => by
  simp only [encOne, List.mem_cons, List.not_mem_nil, or_false] at hv
  rcases hv with rfl | rfl | rfl | rfl <;> rfl⟩
theorem eltLight : Elt Try.prog 24 40 shLight where
  und := Try.underlying24
  info := ⟨.agg #[.int .i64 0, .int .u8 0, .bool false, .bool false, .bool false, .int .i64 0, .int .i64 0], 40, by kernel_rfl, rfl, by decide⟩
  pos := by decide
theorem eltRLight : Elt Try.prog 25 63 shLight where
  und := Try.underlying25
  info := ⟨.agg #[.int .i64 0, .int .u8 0, .bool false, .bool false, .bool false, .int .i64 0, .int .i64 0], 40, by kernel_rfl, rfl, by decide⟩
  pos := by decide

theorem one_cells {w : World} {A : Option Addr} {n : Nat} {l : List One} (h : Rd w shOne A n l) {i : Nat} (hi : i < n) :
    ∃ b off x, A = some ⟨b, off, none⟩ ∧ l[i]? = some x ∧ w.cell? ⟨b, off + i * 4, none⟩ = some (.int .u8 x.p) ∧ w.cell? ⟨b, off + i * 4 + 1, none⟩ = some (.int .u8 x.state) ∧ w.cell? ⟨b, off + i * 4 + 2, none⟩ = some (.int .u8 x.stage) ∧ w.cell? ⟨b, off + i * 4 + 3, none⟩ = some (.int .u16 x.since) := by
  obtain ⟨b, off, x, e, hb, hx, hc⟩ := h.at_ hi
  exact ⟨b, off, x, e, hx, hc 0 _ rfl, hc 1 _ rfl, hc 2 _ rfl, hc 3 _ rfl⟩

/-- The two boxes of a round. -/
def Boxes (W : World) (g : Nat) (x : One) : Prop := Blk W g 60 #[.int .u8 x.p, .int .u8 x.state, .int .u8 x.stage, .int .u16 x.since] ∧ Blk W (g + 1) 61 #[.bool (x.state % 2 == 1), .bool (decide (0 < x.state % 4)), .bool (decide (4 < x.state % 8)), .int .i64 x.since, .int .i64 (x.stage % 4)]
theorem boxes_new (w : World) (x : One) : Boxes ((w.alloc (.cells #[.int .u8 x.p, .int .u8 x.state, .int .u8 x.stage, .int .u16 x.since] 60)).alloc (.cells #[.bool (x.state % 2 == 1), .bool (decide (0 < x.state % 4)), .bool (decide (4 < x.state % 8)), .int .i64 x.since, .int .i64 (x.stage % 4)] 61)) w.heap.size x := by
  refine ⟨(Blk.new w _ _).alloc _, ?_⟩
  have h := Blk.new (w.alloc (.cells #[.int .u8 x.p, .int .u8 x.state, .int .u8 x.stage, .int .u16 x.since] 60)) 61 #[.bool (x.state % 2 == 1), .bool (decide (0 < x.state % 4)), .bool (decide (4 < x.state % 8)), .int .i64 x.since, .int .i64 (x.stage % 4)]
  rw [show (w.alloc (.cells #[.int .u8 x.p, .int .u8 x.state, .int .u8 x.stage, .int .u16 x.since] 60)).heap.size = w.heap.size + 1 from by simp] at h
  exact h
theorem boxes_cells {W : World} {g : Nat} {x : One} (h : Boxes W g x) : W.cell? ⟨g, 0, none⟩ = some (.int .u8 x.p) ∧ W.cell? ⟨g + 1, 0, none⟩ = some (.bool (x.state % 2 == 1)) ∧ W.cell? ⟨g + 1, 1, none⟩ = some (.bool (decide (0 < x.state % 4))) ∧ W.cell? ⟨g + 1, 2, none⟩ = some (.bool (decide (4 < x.state % 8))) ∧ W.cell? ⟨g + 1, 3, none⟩ = some (.int .i64 x.since) ∧ W.cell? ⟨g + 1, 4, none⟩ = some (.int .i64 (x.stage % 4)) :=
  ⟨h.1.cell 0, h.2.cell 0, h.2.cell 1, h.2.cell 2, h.2.cell 3, h.2.cell 4⟩
theorem boxes_grown {W w1 : World} {g : Nat} {x : One} {row : Option Nat} (h : Boxes W g x) (hg : W.grownBy w1 row) (hr : ∀ k, row = some k → k < g) : Boxes w1 g x :=
  ⟨h.1.grown hg (fun e => by have := hr _ e.symm; omega), h.2.grown hg (fun e => by have := hr _ e.symm; omega)⟩

/-- Behind the first append of a round. -/
theorem mid_of {W w1 : World} {g B : Nat} {x : One} {u6 u7 : Value} {L : List Light} (hown : Own W shLight B 40 u6 L) (hown' : Own W shLight B 63 u7 L) (hbx : Boxes W g x) (hlt : ∀ k, u7.ownBlock = some k → k < g) (hg : W.grownBy w1 u7.ownBlock) (hB : B ≤ W.heap.size) :
    Own w1 shLight B 40 u6 L ∧ B ≤ w1.heap.size ∧ w1.cell? ⟨g, 0, none⟩ = some (.int .u8 x.p) ∧ w1.cell? ⟨g + 1, 0, none⟩ = some (.bool (x.state % 2 == 1)) ∧ w1.cell? ⟨g + 1, 1, none⟩ = some (.bool (decide (0 < x.state % 4))) ∧ w1.cell? ⟨g + 1, 2, none⟩ = some (.bool (decide (4 < x.state % 8))) ∧ w1.cell? ⟨g + 1, 3, none⟩ = some (.int .i64 x.since) ∧ w1.cell? ⟨g + 1, 4, none⟩ = some (.int .i64 (x.stage % 4)) :=
  ⟨hown.kept hg (own_ne hown hown' (by decide)), Nat.le_trans hB hg.size, boxes_cells (boxes_grown hbx hg hlt)⟩

/-- What 'of' hands back. -/
def OfAt (w : World) (L : List Light) (e : Ending) (w' : World) : Prop :=
  ∃ v v', e = .returned (.tuple #[v, v']) ∧ Own w' shLight w.heap.size 40 v L ∧ Own w' shLight w.heap.size 63 v' L ∧ Below w.heap.size w w'

set_option maxRecDepth 100000 in
set_option maxHeartbeats 4000000 in
theorem of_any (turn : Bool) (l : List One) (hf : ∀ x ∈ l, x.fits) (A : Option Addr) (n c : Nat) (w : World) (hr : Rd w shOne A n l) :
    Calls Try.prog 9 #[.slice A n c, .bool turn] w (OfAt w (ofL turn (l.take 20))) := by
  have hn : n ≤ 9223372036854775807 := hr.2.1
  have HL := hide hr.1
  have HF := hide hf
  clear hf
  obtain ⟨B, hB⟩ : ∃ B, B = w.heap.size := ⟨_, rfl⟩
  have HB := hide hB
  have hBle : B ≤ w.heap.size := by omega
  have hP : Hid (∀ L e w', (∃ v v', e = .returned (.tuple #[v, v']) ∧ Own w' shLight B 40 v L ∧ Own w' shLight B 63 v' L ∧ Below B w w') → OfAt w L e w') := by
    intro L e w' h
    unfold OfAt
    rw [← hB]
    exact h
  clear hB
  go_enter Try.func9, Try.ntmps9
  go_wp2
  go_loopw [6, 7, 8] (fun v v' i wr => ∃ k : Nat, k ≤ n ∧ k ≤ 20 ∧ i = .int .i64 k ∧ Own wr shLight B 40 v (ofL turn (l.take k)) ∧ Own wr shLight B 63 v' (ofL turn (l.take k)) ∧ Below B w wr) (fun _ _ i _ => n - (intOf i).toNat)
  case atStart => exact ⟨0, Nat.zero_le _, Nat.zero_le _, rfl, Own.nil_ _ _ _ _, Own.nil_ _ _ _ _, Below.refl _ _⟩
  case round =>
    obtain ⟨k, hk, hk20, rfl, hown, hown', hb⟩ := hrel
    by_cases hlt : k < n
    · by_cases hlt2 : k < 20
      · have hb' : Below w.heap.size w wr := by rw [← HB.out]; exact hb
        obtain ⟨b, off, x, rfl, hx, c0, c1, c2, c3⟩ := one_cells (hr.below hb') hlt
        have hts : Hid (l.take (k + 1) = l.take k ++ [x]) := by rw [List.take_add_one, hx]; rfl
        have hlk : Hid ((l.take k).length = k) := by rw [Hid, List.length_take, HL.out]; omega
        have hT := hide (ofL_snoc turn (l.take k) x)
        have hlen := ofL_len turn (l.take k)
        obtain ⟨f0, f1, f2, f3, f4, f5, f6, f7⟩ := HF.out x (List.mem_of_getElem? hx)
        have hsz := hb.size
        have hl1 : (ofL turn (l.take k)).length ≤ 68719476736 := by rw [hlen, hlk.out]; omega
        rw [hlk.out] at hT
        have hone : Hid (ofOne turn k x = ⟨if turn then 40 - (k : Int) else k, 1 + x.p % 3, ⟨x.state % 2 == 1, decide (0 < x.state % 4), decide (4 < x.state % 8), x.since, x.stage % 4⟩⟩) := rfl
        clear hx hb' hlen hr
        generalize ofL turn (l.take k) = L at *
        cases turn
        · go_upto_region 11 with (fail)
          have hbx := boxes_new wr x
          have hownW := (hown.alloc (.cells #[.int .u8 x.p, .int .u8 x.state, .int .u8 x.stage, .int .u16 x.since] 60)).alloc (.cells #[.bool (x.state % 2 == 1), .bool (decide (0 < x.state % 4)), .bool (decide (4 < x.state % 8)), .int .i64 x.since, .int .i64 (x.stage % 4)] 61)
          have hownW' := (hown'.alloc (.cells #[.int .u8 x.p, .int .u8 x.state, .int .u8 x.stage, .int .u16 x.since] 60)).alloc (.cells #[.bool (x.state % 2 == 1), .bool (decide (0 < x.state % 4)), .bool (decide (4 < x.state % 8)), .int .i64 x.since, .int .i64 (x.stage % 4)] 61)
          have hbW := (hb.alloc (by omega) (.cells #[.int .u8 x.p, .int .u8 x.state, .int .u8 x.stage, .int .u16 x.since] 60)).alloc (by simp; omega) (.cells #[.bool (x.state % 2 == 1), .bool (decide (0 < x.state % 4)), .bool (decide (4 < x.state % 8)), .int .i64 x.since, .int .i64 (x.stage % 4)] 61)
          have hgl : ∀ k, u7.ownBlock = some k → k < wr.heap.size := fun k hk => (hown'.base_ k hk).2
          have HGL := hide hgl
          clear hgl
          generalize (wr.alloc (.cells #[.int .u8 x.p, .int .u8 x.state, .int .u8 x.stage, .int .u16 x.since] 60)).alloc (.cells #[.bool (x.state % 2 == 1), .bool (decide (0 < x.state % 4)), .bool (decide (4 < x.state % 8)), .int .i64 x.since, .int .i64 (x.stage % 4)] 61) = W at *
          have hBW : B ≤ W.heap.size := by have := hbW.size; omega
          obtain ⟨d0, e0, e1, e2, e3, e4⟩ := boxes_cells hbx
          go_wp2_with (first | (at_builtin; refine app_one eltRLight B rfl _ _ rfl u7 L (ofOne false k x) rfl _ rfl rfl _ rfl hownW' hbW hBW hl1 ?_; intro v1 w1 hown1 hb1 hg1 hat1 hs1; obtain ⟨hownA, hBw1, p0, q0, q1, q2, q3, q4⟩ := mid_of hownW hownW' hbx HGL.out hg1 hBW) | (at_builtin; refine app_one eltLight B rfl _ _ rfl u6 L (ofOne false k x) rfl _ rfl rfl _ rfl hownA hb1 hBw1 hl1 ?_; intro v2 w2 hown2 hb2 hg2 hat2 hs2; have hownB := Own.kept hown1 hg2 (own_ne hown1 hownA (by decide))))
          go_roundw
          case rel => exact ⟨k + 1, by omega, by omega, by go_num, by rw [hts.out, hT.out]; exact hown2, by rw [hts.out, hT.out]; exact hownB, hb2⟩
          case measure => simp [intOf]; omega
        · go_upto_region 11 with (fail)
          have hbx := boxes_new wr x
          have hownW := (hown.alloc (.cells #[.int .u8 x.p, .int .u8 x.state, .int .u8 x.stage, .int .u16 x.since] 60)).alloc (.cells #[.bool (x.state % 2 == 1), .bool (decide (0 < x.state % 4)), .bool (decide (4 < x.state % 8)), .int .i64 x.since, .int .i64 (x.stage % 4)] 61)
          have hownW' := (hown'.alloc (.cells #[.int .u8 x.p, .int .u8 x.state, .int .u8 x.stage, .int .u16 x.since] 60)).alloc (.cells #[.bool (x.state % 2 == 1), .bool (decide (0 < x.state % 4)), .bool (decide (4 < x.state % 8)), .int .i64 x.since, .int .i64 (x.stage % 4)] 61)
          have hbW := (hb.alloc (by omega) (.cells #[.int .u8 x.p, .int .u8 x.state, .int .u8 x.stage, .int .u16 x.since] 60)).alloc (by simp; omega) (.cells #[.bool (x.state % 2 == 1), .bool (decide (0 < x.state % 4)), .bool (decide (4 < x.state % 8)), .int .i64 x.since, .int .i64 (x.stage % 4)] 61)
          have hgl : ∀ k, u7.ownBlock = some k → k < wr.heap.size := fun k hk => (hown'.base_ k hk).2
          have HGL := hide hgl
          clear hgl
          generalize (wr.alloc (.cells #[.int .u8 x.p, .int .u8 x.state, .int .u8 x.stage, .int .u16 x.since] 60)).alloc (.cells #[.bool (x.state % 2 == 1), .bool (decide (0 < x.state % 4)), .bool (decide (4 < x.state % 8)), .int .i64 x.since, .int .i64 (x.stage % 4)] 61) = W at *
          have hBW : B ≤ W.heap.size := by have := hbW.size; omega
          obtain ⟨d0, e0, e1, e2, e3, e4⟩ := boxes_cells hbx
          go_wp2_with (first | (at_builtin; refine app_one eltRLight B rfl _ _ rfl u7 L (ofOne true k x) rfl _ rfl rfl _ rfl hownW' hbW hBW hl1 ?_; intro v1 w1 hown1 hb1 hg1 hat1 hs1; obtain ⟨hownA, hBw1, p0, q0, q1, q2, q3, q4⟩ := mid_of hownW hownW' hbx HGL.out hg1 hBW) | (at_builtin; refine app_one eltLight B rfl _ _ rfl u6 L (ofOne true k x) rfl _ rfl rfl _ rfl hownA hb1 hBw1 hl1 ?_; intro v2 w2 hown2 hb2 hg2 hat2 hs2; have hownB := Own.kept hown1 hg2 (own_ne hown1 hownA (by decide))))
          go_roundw
          case rel => exact ⟨k + 1, by omega, by omega, by go_num, by rw [hts.out, hT.out]; exact hown2, by rw [hts.out, hT.out]; exact hownB, hb2⟩
          case measure => simp [intOf]; omega
      · have hk' : Hid (l.take k = l.take 20) := by
          have : k = 20 := by omega
          rw [this]; rfl
        rw [hk'.out] at hown hown'
        go_wp2
        go_ret2
        exact hP.out _ _ _ ⟨_, _, rfl, hown, hown', hb⟩
    · have hk' : Hid (l.take k = l.take 20) := by
        unfold Hid
        rw [List.take_of_length_le (by rw [HL.out]; omega), List.take_of_length_le (by rw [HL.out]; omega)]
      rw [hk'.out] at hown hown'
      go_wp2
      go_ret2
      exact hP.out _ _ _ ⟨_, _, rfl, hown, hown', hb⟩
end Go.Proofs.Ytllkokcknlefgaa
