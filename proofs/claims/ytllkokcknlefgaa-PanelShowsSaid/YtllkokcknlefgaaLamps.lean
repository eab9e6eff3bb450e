/- The walk of panel.Lamps: what is lit, sorted. -/
import Derived.Test.YtllkokcknlefgaaCmp
import Derived.Test.YtllkokcknlefgaaAppend
import Derived.Test.YtllkokcknlefgaaSortRow
import Derived.Test.YtllkokcknlefgaaLaidSort
import Derived.Test.YtllkokcknlefgaaSorted
namespace Go.Proofs.Ytllkokcknlefgaa
open Go.RowKit Go.Shelf Go.Sort S

theorem eltLamp : Elt Try.prog 29 65 shLamp where
  und := Try.underlying29
  info := ⟨.agg #[.int .i64 0, .int .u8 0, .int .i64 0, .bool false, .bool false], 32, by kernel_rfl, rfl, by decide⟩
  pos := by decide

set_option maxRecDepth 100000 in
set_option maxHeartbeats 1000000 in
theorem lamps_row (l : List Light) (A : Option Addr) (n c : Nat) (w : World) (hr : Rd w shLight A n l) (hn : n ≤ 65536) (B : Nat) (hB : B = w.heap.size)
    (R : Value → World → Prop) (hR : ∀ v w1, Own w1 shLamp B 65 v (lampsOf l) → Below B w w1 →
      Calls Try.prog 19 #[v, .func (.func 20) #[] #[]] w1 fun e w' => e = .returned (.tuple #[]) ∧ R v w') :
    Calls Try.prog 11 #[.slice A n c] w fun e w' => ∃ v, e = .returned v ∧ R v w' := by
  have hl := hr.1
  have HL := hide hl
  clear hl
  have HB := hide hB
  have hBle : B ≤ w.heap.size := by omega
  clear hB
  have HR := hide hR
  clear hR
  go_enter Try.func11, Try.ntmps11
  go_wp2
  go_loopw [3, 8] (fun v i wr => ∃ k : Nat, k ≤ n ∧ i = .int .i64 k ∧ Own wr shLamp B 65 v (lampsOf (l.take k)) ∧ Below B w wr) (fun _ i _ => n - (intOf i).toNat)
  case atStart => exact ⟨0, Nat.zero_le _, rfl, Own.nil_ _ _ _ _, Below.refl _ _⟩
  case round =>
    obtain ⟨k, hk, rfl, hown, hb⟩ := hrel
    by_cases hlt : k < n
    · have hb' : Below w.heap.size w wr := by rw [← HB.out]; exact hb
      obtain ⟨b, off, x, rfl, _, hx, c0, c1, c2, c3, c4, c5, c6⟩ := light_cells (hr.below hb') hlt
      have hts : Hid (l.take (k + 1) = l.take k ++ [x]) := by rw [List.take_add_one, hx]; rfl
      have hT := hide (lampsOf_snoc (l.take k) x)
      have hle := lampsOf_le (l.take k)
      have hlk : (l.take k).length ≤ k := List.length_take_le _ _
      have hsz := hb.size
      clear hx hb'
      cases hlit : x.life.lit
      · have hlit' := hide hlit
        go_wp2
        go_roundw
        case rel => exact ⟨k + 1, by omega, by go_num, by rw [hts.out, hT.out, hlit'.out]; exact hown.alloc _, hb.alloc (by omega) _⟩
        case measure => simp [intOf]; omega
      · have hlit' := hide hlit
        go_wp2_with (at_builtin; refine app_one eltLamp B rfl _ _ rfl _ (lampsOf (l.take k)) (lampOf x) rfl _ rfl (by simp) _ rfl (hown.alloc _) (hb.alloc (by omega) _) (by simp; omega) (by omega) ?_; intro v1 w1 hown1 hb1 hg1 hat1 hs1)
        go_roundw
        case rel => exact ⟨k + 1, by omega, by go_num, by rw [hts.out, hT.out, hlit'.out]; exact hown1, hb1⟩
        case measure => simp [intOf]; omega
    · have htk : Hid (l.take k = l) := List.take_of_length_le (by rw [HL.out]; omega)
      rw [htk.out] at hown
      go_wp2_with fail
      refine (HR.out _ _ hown hb).mono ?_
      rintro e w1 ⟨rfl, hq⟩
      go_wp2
      go_ret
      exact ⟨_, rfl, hq⟩

theorem cmp_lays (g n : Nat) (w : World) : CmpLays Try.prog 20 #[] encLamp 5 cmpLamp g 0 n w :=
  fun _ _ _ _ x y => less_any x y _

theorem lamp_swo : SWO (ltOf cmpLamp) where
  irrefl x := by unfold ltOf; rw [cmpLamp_lt]; unfold S.ahead; simp
  trans x y z h1 h2 := by unfold ltOf at *; rw [cmpLamp_lt] at *; unfold S.ahead at *; simp only [decide_eq_true_eq] at *; omega
  ntrans x y z h1 h2 := by unfold ltOf at *; rw [cmpLamp_lt] at *; unfold S.ahead at *; simp only [decide_eq_false_iff_not] at *; omega

/-- What a slice of lamps reads as behind a call. -/
def LampsAt (w : World) (B : Nat) (ls : List Lamp) (v : Value) (w' : World) : Prop := ∃ A' m c', v = .slice A' m c' ∧ Rd w' shLamp A' m ls ∧ Below B w w' ∧ ∀ b off, A' = some ⟨b, off, none⟩ → B ≤ b

theorem sorted_list {l : List Light} {d d' : Array Lamp} (hd : (l.map (·.cond)).Nodup) (h0 : d.toList = lampsOf l) (hp : PermIn 0 d.size d d') (hs : SortedIn (ltOf cmpLamp) 0 d.size d') : d'.toList = sortL (lampsOf l) := by
  obtain ⟨hsz, _, hperm⟩ := hp
  have e1 : d'.extract 0 d.size = d' := by rw [← hsz]; exact Array.extract_size
  rw [e1, Array.extract_size, h0] at hperm
  refine sortL_unique hd hperm ?_
  refine List.pairwise_iff_getElem.2 fun i j hi hj hij => ?_
  have hi' : i < d'.size := by simpa using hi
  have hj' : j < d'.size := by simpa using hj
  have h := hs i j (Nat.zero_le _) hij (by omega)
  unfold ltOf at h
  rw [cmpLamp_lt, getElem!_pos d' i hi', getElem!_pos d' j hj'] at h
  simpa using h

theorem sort_call (l : List Light) (hd : (l.map (·.cond)).Nodup) (hn : l.length ≤ 65536) (w : World) (B : Nat) (hB : B ≤ w.heap.size) (v : Value) (w1 : World) (hown : Own w1 shLamp B 65 v (lampsOf l)) (hb : Below B w w1) :
    Calls Try.prog 19 #[v, .func (.func 20) #[] #[]] w1 fun e w' => e = .returned (.tuple #[]) ∧ LampsAt w B (sortL (lampsOf l)) v w' := by
  have eg : ∀ args w, (callFunc 20 args).run Try.prog w = .ok (.enter 20 args) w := enters_of Try.func20 (by kernel_rfl) rfl
  have hle := lampsOf_le l
  by_cases h0 : lampsOf l = []
  · obtain ⟨A, c, rfl, hr⟩ := hown.slice_
    have hcon := AnyF.slices_SortFunc_none { Try.sortLamp with } A c (.func (.func 20) #[] #[]) w1
    change Calls Try.prog 19 _ _ _ at hcon
    have hfr : ∀ b off, A = some ⟨b, off, none⟩ → B ≤ b := fun b off e => (hown.base_ b (by rw [e]; rfl)).1
    rw [h0] at hr ⊢
    exact hcon.mono fun e w' ⟨he, hw⟩ => ⟨he, A, 0, c, rfl, by rw [hw]; exact hr, by rw [hw]; exact hb, hfr⟩
  · have hpos : 0 < (lampsOf l).length := List.length_pos_iff.2 h0
    obtain ⟨g, cap, rfl, hbg, hlt⟩ := World.ownsRow.form hown hpos
    have hH : HoldsK encLamp 5 w1 g 0 (lampsOf l).toArray := holds_of_own (S := shLamp) hown
    have hcon := AnyQ.slices_SortFunc Try.sortLamp 5 Try.isAgg65 Try.sizeOf65 encLamp (fun _ => rfl) shLamp.one cmpLamp lamp_swo 20 #[] g 0 cap (lampsOf l).toArray w1 eg (cmp_lays _ _ _) hH hlt (by simp; omega)
    change Calls Try.prog 19 _ _ _ at hcon
    simp only [List.size_toArray] at hcon
    refine hcon.mono fun e w' ⟨he, d', n, os, hp, hs, hw⟩ => ⟨he, _, _, cap, rfl, ?_, ?_, fun b off e => by injection e with e; injection e with e; omega⟩
    · have hsz : d'.size = (lampsOf l).length := by simpa using hp.1
      have hlist := sorted_list (d := (lampsOf l).toArray) hd (by simp) (by simpa using hp) (by simpa using hs)
      rw [← hlist, hw]
      exact rd_of_holds (S := shLamp) (sorted_holds (S := shLamp) hH hlt (by simpa using hsz)) (by simp [sortWorldK, grow, putRowK, putRow, mapBlock, Sort.ahead]; omega) hsz (by omega)
    · rw [hw]
      exact sorted_below (S := shLamp) hb hbg (by have := hb.size; omega)

/-- panel.Lamps: what is lit, in its order. -/
theorem lamps_any (l : List Light) (hd : (l.map (·.cond)).Nodup) (A : Option Addr) (n c : Nat) (w : World) (hr : Rd w shLight A n l) (hn : n ≤ 65536) :
    Calls Try.prog 11 #[.slice A n c] w fun e w' => ∃ v, e = .returned v ∧ LampsAt w w.heap.size (sortL (lampsOf l)) v w' :=
  lamps_row l A n c w hr hn w.heap.size rfl _ fun v w1 hown hb => sort_call l hd (by rw [hr.1]; exact hn) w w.heap.size (Nat.le_refl _) v w1 hown hb
end Go.Proofs.Ytllkokcknlefgaa
