/- A law's arguments opened: a slice of lights by numbers. -/
import Derived.Test.YtllkokcknlefgaaFrame
import Derived.Test.YtllkokcknlefgaaOf
namespace Go.Proofs.Ytllkokcknlefgaa
open Go.ChangeShapes Go.WideShapes Go.Deep Go.RowKit S

theorem laid_out : laidOutB Try.prog = true := by kernel_rfl
theorem fits_u8 {n : Int} (h : (Lit.int .u8 n).wf = true) : 0 ≤ n ∧ n ≤ 255 := by
  simp [Lit.wf, IntKind.min, IntKind.max, IntKind.signed, IntKind.bits] at h
  omega
theorem fits_u16 {n : Int} (h : (Lit.int .u16 n).wf = true) : 0 ≤ n ∧ n ≤ 65535 := by
  simp [Lit.wf, IntKind.min, IntKind.max, IntKind.signed, IntKind.bits] at h
  omega
theorem cell_lt {w : World} {a : Addr} {v : Value} (h : w.cell? a = some v) : a.block < w.heap.size := by
  rcases Nat.lt_or_ge a.block w.heap.size with h1 | h1
  · exact h1
  · simp [World.cell?, Array.getElem?_eq_none h1] at h

section
variable {H : Type} {enc : TypeId × Value → H} {P : Program} {w : World} {base : Nat} {spare : Nat → Bool} {held : Bool}
/-- A slice of structs of one-cell fields: each field's reading. (After the guide's page extra-structs.) -/
theorem open_fields {t e : TypeId} {fs : Array Field} {fuel : Nat} {cs : List Value} {x : DataW H × List MemPlace} (ht : P.underlying t = some (.slice e)) (he : P.underlying e = some (.struct fs))
    (hone : oneCellFields P fs = true) (hC : P.cellsOf e = fs.size) (h : DataW.trod enc P w base spare held fuel t cs = some x) :
    cs = [.slice none 0 0] ∨
    ∃ (a : Addr) (len cap : Nat), cs = [.slice (some a) len cap] ∧ len ≤ maxLen ∧
      ∀ i, i < len → ∃ (n : Nat), ∀ (j : Nat) (f : Field), fs[j]? = some f → ∃ (v : Value) (y : DataW H × List MemPlace), w.cell? (a.add (i * fs.size + j)) = some v ∧ DataW.trod enc P w base spare held n f.type [v] = some y := by
  rcases open_slice ht h with ⟨h0, _⟩ | ⟨a, len, cap, m, n, D, Pl, hcs, _, hl, hm, hmm, _, hi⟩
  · exact .inl h0
  · refine .inr ⟨a, len, cap, hcs, Nat.le_trans hl hm, fun i hlen => ?_⟩
    have him : i < m := by rw [hmm]; split <;> omega
    obtain ⟨cs', hc, ht'⟩ := hi i him
    rw [hC] at hc
    obtain ⟨ys, n', hn', hy, hlen', hyl, hf⟩ := DataW.trod_struct he ht'
    obtain ⟨_, hcl, hat⟩ := World.cells?_some hc
    refine ⟨n', fun j f hj => ?_⟩
    obtain ⟨ho, hk⟩ := hone_of hone j f hj
    have hjl : j < fs.size := (Array.getElem?_eq_some_iff.1 hj).1
    have hcell := hat j hjl
    have hv : cs'[j]? = some (cs'[j]'(by omega)) := List.getElem?_eq_getElem (by omega)
    have h1 := hf j f hj
    rw [ho, hk] at h1
    have hone' : (cs'.drop j).take 1 = [cs'[j]'(by omega)] := by
      rw [List.drop_eq_getElem_cons (by omega)]
      rfl
    rw [hone'] at h1
    have hys : ys[j]? = some (ys[j]'(by omega)) := List.getElem?_eq_getElem (by omega)
    refine ⟨_, _, ?_, h1.trans hys⟩
    rw [← Go.Deep.add_add, hcell, hv]

/-- From the elements' readings to a list. -/
theorem rd_of_cells {α : Type} [Inhabited α] {S : Shape α} {a : Addr} {len : Nat} {p : α → Prop} (hk : 0 < S.k) (hm : len ≤ maxLen)
    (h : ∀ i, i < len → ∃ x : α, p x ∧ ∀ j v, (S.enc x)[j]? = some v → w.cell? (a.add (i * S.k + j)) = some v) : ∃ l : List α, (∀ x ∈ l, p x) ∧ Rd w S (some a) len l := by
  have h' : ∀ i, ∃ x : α, i < len → p x ∧ ∀ j v, (S.enc x)[j]? = some v → w.cell? (a.add (i * S.k + j)) = some v := fun i => by
    by_cases hi : i < len
    · obtain ⟨x, hx⟩ := h i hi
      exact ⟨x, fun _ => hx⟩
    · exact ⟨default, fun h => absurd h hi⟩
  obtain ⟨f, hf⟩ := Classical.axiomOfChoice h'
  refine ⟨(List.range len).map f, fun x hx => ?_, by simp, by have : maxLen = 9223372036854775807 := rfl; omega, fun hpos => ?_⟩
  · obtain ⟨i, hi, rfl⟩ := List.mem_map.1 hx
    exact (hf i (List.mem_range.1 hi)).1
  · obtain ⟨b, off, spot⟩ := a
    have h0 := (hf 0 hpos).2 0 _ (List.getElem?_eq_getElem (by rw [S.len]; exact hk))
    have hspot : spot = none := by simpa [Addr.add] using World.cell?_spot h0
    subst hspot
    refine ⟨b, off, rfl, by simpa [addr_block] using cell_lt h0, fun i x hx j v hv => ?_⟩
    rw [List.getElem?_map] at hx
    obtain ⟨i', hi', rfl⟩ := Option.map_eq_some_iff.1 hx
    have hil : i < len := by
      rcases Nat.lt_or_ge i len with h1 | h1
      · exact h1
      · rw [List.getElem?_eq_none (by simp; exact h1)] at hi'
        cases hi'
    rw [List.getElem?_range hil] at hi'
    cases hi'
    have := (hf i hil).2 j v hv
    rw [← this]
    congr 1
    unfold Addr.add
    split
    · simp_all
    · simp [Nat.add_assoc]

theorem ones_of_trod {fuel : Nat} {cs : List Value} {x : DataW H × List MemPlace} (h : DataW.trod enc Try.prog w base spare held fuel 22 cs = some x) :
    ∃ l A n c, cs = [.slice A n c] ∧ (∀ x ∈ l, S.One.fits x) ∧ Rd w shOne A n l := by
  rcases open_fields Try.underlying22 Try.underlying60 (by kernel_rfl) (by kernel_rfl) h with h0 | ⟨a, len, cap, hcs, hm, hi⟩
  · exact ⟨[], none, 0, 0, h0, fun _ hx => (by cases hx), Rd.nil_⟩
  · obtain ⟨l, hf, hr⟩ := rd_of_cells (w := w) (S := shOne) (a := a) (len := len) (p := S.One.fits) (by decide) hm fun i hil => by
      obtain ⟨n, hf⟩ := hi i hil
      obtain ⟨v0, y0, c0, t0⟩ := hf 0 _ rfl
      obtain ⟨v1, y1, c1, t1⟩ := hf 1 _ rfl
      obtain ⟨v2, y2, c2, t2⟩ := hf 2 _ rfl
      obtain ⟨v3, y3, c3, t3⟩ := hf 3 _ rfl
      obtain ⟨n0, e0, -, f0⟩ := DataW.trod_int Try.underlying5 t0
      obtain ⟨n1, e1, -, f1⟩ := DataW.trod_int Try.underlying5 t1
      obtain ⟨n2, e2, -, f2⟩ := DataW.trod_int Try.underlying5 t2
      obtain ⟨n3, e3, -, f3⟩ := DataW.trod_int Try.underlying43 t3
      cases e0
      cases e1
      cases e2
      cases e3
      have g0 := fits_u8 f0
      have g1 := fits_u8 f1
      have g2 := fits_u8 f2
      have g3 := fits_u16 f3
      refine ⟨⟨n0, n1, n2, n3⟩, ⟨g0.1, g0.2, g1.1, g1.2, g2.1, g2.2, g3.1, g3.2⟩, fun j v hv => ?_⟩
      match j, hv with
      | 0, hv => cases hv; exact c0
      | 1, hv => cases hv; exact c1
      | 2, hv => cases hv; exact c2
      | 3, hv => cases hv; exact c3
    exact ⟨l, some a, len, cap, hcs, hf, hr⟩

set_option maxRecDepth 100000 in
theorem open_ones {r : Reach} {b0 : Nat} {v : Value} {d : DataW H} {ps : List MemPlace} (hval : Value.okWide Try.prog w r b0 22 v) (h : DataW.Trod enc Try.prog w base spare held 22 v d ps) :
    ∃ l A n c, v = .slice A n c ∧ (∀ x ∈ l, S.One.fits x) ∧ Rd w shOne A n l := by
  obtain ⟨a0, len, cap, rfl⟩ := okWide_slice Try.underlying22 hval
  obtain ⟨fuel, hf⟩ := h
  obtain ⟨l, A, n, c, hcs, hl, hr⟩ := ones_of_trod hf
  simp only [Value.cells, List.cons.injEq, and_true] at hcs
  exact ⟨l, A, n, c, hcs, hl, hr⟩
end
end Go.Proofs.Ytllkokcknlefgaa
