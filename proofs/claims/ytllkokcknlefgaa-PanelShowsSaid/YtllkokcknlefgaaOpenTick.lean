/- A law's argument opened: a slice of ticks, each with a slice of lights of its own. -/
import Derived.Test.YtllkokcknlefgaaOpen
namespace Go.Proofs.Ytllkokcknlefgaa
open Go.ChangeShapes Go.WideShapes Go.Deep Go.RowKit S

/-- A tick: its cells, and the lights that its slice reads as. -/
structure Tick where
  behind : Int
  A : Option Addr
  n : Nat
  c : Nat
  p : Int
  o : Int
  l : List S.One
  deriving Inhabited
def encTick (x : Tick) : List Value := [.int .u8 x.behind, .slice x.A x.n x.c, .int .u8 x.p, .int .u8 x.o]
def shTick : Shape Tick := ⟨4, encTick, fun _ => rfl, fun x v hv => by
  simp only [encTick, List.mem_cons, List.not_mem_nil, or_false] at hv
  rcases hv with rfl | rfl | rfl | rfl <;> rfl⟩
/-- A tick's numbers fit, and its slice reads as its lights. -/
def Tick.okay (w : World) (x : Tick) : Prop := 0 ≤ x.behind ∧ x.behind ≤ 255 ∧ 0 ≤ x.p ∧ x.p ≤ 255 ∧ 0 ≤ x.o ∧ x.o ≤ 255 ∧ (∀ y ∈ x.l, S.One.fits y) ∧ Rd w shOne x.A x.n x.l
theorem tick_cells {w : World} {A : Option Addr} {n : Nat} {l : List Tick} (h : Rd w shTick A n l) {i : Nat} (hi : i < n) :
    ∃ b off x, A = some ⟨b, off, none⟩ ∧ b < w.heap.size ∧ l[i]? = some x ∧ w.cell? ⟨b, off + i * 4, none⟩ = some (.int .u8 x.behind) ∧ w.cell? ⟨b, off + i * 4 + 1, none⟩ = some (.slice x.A x.n x.c) ∧ w.cell? ⟨b, off + i * 4 + 2, none⟩ = some (.int .u8 x.p) ∧ w.cell? ⟨b, off + i * 4 + 3, none⟩ = some (.int .u8 x.o) := by
  obtain ⟨b, off, x, e, hb, hx, hc⟩ := h.at_ hi
  exact ⟨b, off, x, e, hb, hx, hc 0 _ rfl, hc 1 _ rfl, hc 2 _ rfl, hc 3 _ rfl⟩

section
variable {H : Type} {enc : TypeId × Value → H} {w : World} {base : Nat} {spare : Nat → Bool} {held : Bool}
set_option maxRecDepth 100000 in
theorem open_ticks {r : Reach} {b0 : Nat} {v : Value} {d : DataW H} {ps : List MemPlace} (hval : Value.okWide Try.prog w r b0 42 v) (h : DataW.Trod enc Try.prog w base spare held 42 v d ps) :
    ∃ l A n c, v = .slice A n c ∧ (∀ x ∈ l, Tick.okay w x) ∧ Rd w shTick A n l := by
  obtain ⟨a0, len0, cap0, rfl⟩ := okWide_slice Try.underlying42 hval
  obtain ⟨fuel, hf⟩ := h
  rcases open_fields Try.underlying42 Try.underlying49 (by kernel_rfl) (by kernel_rfl) hf with h0 | ⟨a, len, cap, hcs, hm, hi⟩
  · simp only [Value.cells, List.cons.injEq, and_true] at h0
    exact ⟨[], none, 0, 0, h0, fun _ hx => (by cases hx), Rd.nil_⟩
  · simp only [Value.cells, List.cons.injEq, and_true] at hcs
    obtain ⟨l, hf, hr⟩ := rd_of_cells (w := w) (S := shTick) (a := a) (len := len) (p := Tick.okay w) (by decide) hm fun i hil => by
      obtain ⟨n, hf⟩ := hi i hil
      obtain ⟨v0, y0, c0, t0⟩ := hf 0 _ rfl
      obtain ⟨v1, y1, c1, t1⟩ := hf 1 _ rfl
      obtain ⟨v2, y2, c2, t2⟩ := hf 2 _ rfl
      obtain ⟨v3, y3, c3, t3⟩ := hf 3 _ rfl
      obtain ⟨n0, e0, -, f0⟩ := DataW.trod_int Try.underlying5 t0
      obtain ⟨l1, A1, n1, c1', e1, f1, r1⟩ := ones_of_trod t1
      obtain ⟨n2, e2, -, f2⟩ := DataW.trod_int Try.underlying5 t2
      obtain ⟨n3, e3, -, f3⟩ := DataW.trod_int Try.underlying5 t3
      cases e0
      cases e1
      cases e2
      cases e3
      have g0 := fits_u8 f0
      have g2 := fits_u8 f2
      have g3 := fits_u8 f3
      refine ⟨⟨n0, A1, n1, c1', n2, n3, l1⟩, ⟨g0.1, g0.2, g2.1, g2.2, g3.1, g3.2, f1, r1⟩, fun j v hv => ?_⟩
      match j, hv with
      | 0, hv => cases hv; exact c0
      | 1, hv => cases hv; exact c1
      | 2, hv => cases hv; exact c2
      | 3, hv => cases hv; exact c3
    exact ⟨l, some a, len, cap, hcs, hf, hr⟩
end
end Go.Proofs.Ytllkokcknlefgaa
