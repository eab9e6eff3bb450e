/- A row of the call's own, sorted in place by the library's sort: what the slice then reads as. -/
import Derived.Test.YtllkokcknlefgaaMem
import Derived.Shelf.SlSortCmp.NoneTotal
namespace Go.Proofs.Ytllkokcknlefgaa
open Go.RowKit Go.Shelf Go.Sort

theorem flat_get {α : Type} [Inhabited α] (S : Shape α) (l : List α) (t : Nat) (h : t < l.length * S.k) : (l.flatMap S.enc)[t]? = some ((S.enc l.toArray[t / S.k]!)[t % S.k]!) := by
  have hk : 0 < S.k := by
    rcases Nat.eq_zero_or_pos S.k with h0 | h0
    · rw [h0] at h; simp at h
    · exact h0
  induction l generalizing t with
  | nil => simp at h
  | cons y m ih =>
    rw [List.flatMap_cons]
    by_cases ht : t < S.k
    · rw [List.getElem?_append_left (by rw [S.len]; exact ht), Nat.div_eq_of_lt ht, Nat.mod_eq_of_lt ht]
      have : t < (S.enc y).length := by rw [S.len]; exact ht
      rw [List.getElem?_eq_getElem this]
      simp [this]
    · have hge : S.k ≤ t := by omega
      rw [List.getElem?_append_right (by rw [S.len]; exact hge), S.len]
      have hlt : t - S.k < m.length * S.k := by
        rw [List.length_cons, Nat.succ_mul] at h
        omega
      rw [ih (t - S.k) hlt]
      have e1 : t / S.k = (t - S.k) / S.k + 1 := by
        rw [Nat.div_eq_sub_div hk hge]
      have e2 : t % S.k = (t - S.k) % S.k := by
        rw [Nat.mod_eq_sub_mod hge]
      rw [e1, e2]
      congr 2
      simp only [List.getElem!_toArray, List.getElem!_cons_succ]

theorem holds_of_own {α : Type} [Inhabited α] {w : World} {S : Shape α} {base n g cap : Nat} {e : TypeId} {l : List α} (h : w.ownsRow base e S.k (.slice (some ⟨g, 0, none⟩) n cap) n (l.flatMap S.enc)) : HoldsK S.enc S.k w g 0 l.toArray := by
  intro t ht
  have hlt : t < l.length * S.k := by simpa using ht
  have hc := h.cells (g := g) rfl t _ (flat_get S l t hlt)
  rw [addr_zero] at hc
  rw [Nat.zero_add]
  refine ⟨?_, ?_⟩
  · rw [hc, get_flatK _ _ _ _ (by simpa using hlt)]
    rfl
  · rcases h.2 with ⟨h0, _⟩ | ⟨g', cap', cur, h0, _, hh, _⟩
    · cases h0
    · injection h0 with h0
      injection h0 with h0
      injection h0 with h0
      subst h0
      simp [World.frozen?, hh]

theorem rd_of_holds {α : Type} [Inhabited α] {w : World} {S : Shape α} {g n : Nat} {d : Array α} (h : HoldsK S.enc S.k w g 0 d) (hg : g < w.heap.size) (hn : d.size = n) (hm : n ≤ 9223372036854775807) : Rd w S (some ⟨g, 0, none⟩) n d.toList := by
  refine ⟨by simpa using hn, hm, fun _ => ⟨g, 0, rfl, hg, fun i x hx j v hv => ?_⟩⟩
  have hi : i < d.size := by
    have := (List.getElem?_eq_some_iff.1 hx).1
    simpa using this
  have hj : j < S.k := by rw [← S.len x]; exact (List.getElem?_eq_some_iff.1 hv).1
  have hc := (h.cell hi hj).1
  have hxi : d[i]! = x := by
    have : d.toList[i]? = some d[i] := by simp [hi]
    rw [this] at hx
    injection hx with hx
    rw [getElem!_pos d i hi, hx]
  have hvj : (S.enc x)[j]! = v := by
    obtain ⟨hlt, hvv⟩ := List.getElem?_eq_some_iff.1 hv
    rw [getElem!_pos (S.enc x) j hlt, hvv]
  rw [hxi, hvj] at hc
  exact hc

theorem sorted_below {α : Type} [Inhabited α] {w0 w : World} {S : Shape α} {base g m : Nat} {d : Array α} {os : Array Obj} (h : Below base w0 w) (hb : base ≤ g) (hs : base ≤ w.heap.size) : Below base w0 (sortWorldK S.enc S.k w g 0 m d os) := by
  refine h.trans ⟨rfl, rfl, rfl, ?_, fun k hk => ?_⟩
  · simp [sortWorldK, grow, putRowK, putRow, mapBlock, Sort.ahead]
  · have h1 : (grow (putRowK S.enc S.k (Sort.ahead w m) g 0 d) os).heap[k]? = (putRowK S.enc S.k (Sort.ahead w m) g 0 d).heap[k]? := by
      simp only [grow]
      rw [Array.getElem?_append_left]
      simp [putRowK, putRow, mapBlock, Sort.ahead]
      omega
    have h2 : (putRowK S.enc S.k (Sort.ahead w m) g 0 d).heap[k]? = w.heap[k]? := by
      simp only [putRowK, putRow, mapBlock, Array.getElem?_modify]
      rw [if_neg (by omega)]
      rfl
    exact h1.trans h2
theorem sorted_holds {α : Type} [Inhabited α] {w : World} {S : Shape α} {g m : Nat} {d0 d : Array α} {os : Array Obj} (h : HoldsK S.enc S.k w g 0 d0) (hg : g < w.heap.size) (hd : d.size = d0.size) : HoldsK S.enc S.k (sortWorldK S.enc S.k w g 0 m d os) g 0 d :=
  holdsK_grow S.enc S.k _ os g 0 d (by simp [putRowK, putRow, mapBlock, Sort.ahead]; exact hg) (holdsK_putRowK S.enc S.k _ g 0 d0 d (holdsK_ahead S.enc S.k w m g 0 d0 h) hd)
end Go.Proofs.Ytllkokcknlefgaa
