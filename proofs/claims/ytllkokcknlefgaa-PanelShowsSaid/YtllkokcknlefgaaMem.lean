/- Words for memory of these proofs: a slice that reads as a list of values of a shape (k cells each), a block that is known whole, and how both stay while other memory changes. No statement of the set is proved here. -/
import Derived.Below
import Derived.Laws.OwnMore
import Derived.Laws.Rows
import Derived.Deep.AppendLies
import Derived.Deep.Draws
import Derived.Maps.AppendAt
import Derived.OwnWalk
namespace Go.Proofs.Ytllkokcknlefgaa
open Go.RowKit

theorem hide {p : Prop} (h : p) : Hid p := h
theorem unhide {p : Prop} (h : Hid p) : p := h

theorem addr_block (a : Addr) (n : Nat) : (a.add n).block = a.block := by unfold Addr.add; split <;> rfl
theorem addr_add (a : Addr) (i j : Nat) : (a.add i).add j = a.add (i + j) := by
  unfold Addr.add
  by_cases hi : i = 0 <;> by_cases hj : j = 0 <;> simp [hi, hj, Nat.add_assoc]
theorem addr_zero (g j : Nat) : (⟨g, 0, none⟩ : Addr).add j = ⟨g, j, none⟩ := by unfold Addr.add; split <;> simp_all

theorem pw {B : Nat} {w w' : World} (h : Below B w w') (n : Nat) : Below B w (w'.drewN n) := ⟨h.os, h.tape, h.output, h.size, h.block⟩

/-- A shape: a value as its cells. -/
structure Shape (α : Type) where
  k : Nat
  enc : α → List Value
  len : ∀ x, (enc x).length = k
  one : ∀ x, ∀ v ∈ enc x, v.oneCell' = true

/-- The slice at A of n elements reads as the list l. -/
def Rd {α : Type} (w : World) (S : Shape α) (A : Option Addr) (n : Nat) (l : List α) : Prop :=
  l.length = n ∧ n ≤ 9223372036854775807 ∧ (0 < n → ∃ b off, A = some ⟨b, off, none⟩ ∧ b < w.heap.size ∧ ∀ i x, l[i]? = some x → ∀ j v, (S.enc x)[j]? = some v → w.cell? ⟨b, off + i * S.k + j, none⟩ = some v)

section
variable {α : Type} {w w' : World} {S : Shape α} {A : Option Addr} {n : Nat} {l : List α}
theorem Rd.nil_ : Rd w S A 0 [] := ⟨rfl, by omega, fun h => absurd h (by omega)⟩
theorem Rd.at_ (h : Rd w S A n l) {i : Nat} (hi : i < n) : ∃ b off x, A = some ⟨b, off, none⟩ ∧ b < w.heap.size ∧ l[i]? = some x ∧ ∀ j v, (S.enc x)[j]? = some v → w.cell? ⟨b, off + i * S.k + j, none⟩ = some v := by
  obtain ⟨b, off, e, hb, hc⟩ := h.2.2 (by omega)
  have hl : i < l.length := by rw [h.1]; exact hi
  exact ⟨b, off, l[i], e, hb, List.getElem?_eq_getElem hl, hc i _ (List.getElem?_eq_getElem hl)⟩
theorem Rd.keep (h : Rd w S A n l) (hs : w.heap.size ≤ w'.heap.size) (hk : ∀ b off, A = some ⟨b, off, none⟩ → b < w.heap.size → ∀ o, w'.cell? ⟨b, o, none⟩ = w.cell? ⟨b, o, none⟩) : Rd w' S A n l :=
  ⟨h.1, h.2.1, fun hn => by
    obtain ⟨b, off, e, hb, hc⟩ := h.2.2 hn
    exact ⟨b, off, e, by omega, fun i x hx j v hv => (hk _ _ e hb _).trans (hc i x hx j v hv)⟩⟩
theorem Rd.below (h : Rd w S A n l) (hb : Below w.heap.size w w') : Rd w' S A n l := h.keep hb.size fun _ _ _ hp _ => hb.cell hp
theorem Rd.drew (h : Rd w S A n l) : Rd w.drew S A n l := h
theorem Rd.drewN (h : Rd w S A n l) (k : Nat) : Rd (w.drewN k) S A n l := h
theorem Rd.alloc (h : Rd w S A n l) (o : Obj) : Rd (w.alloc o) S A n l := h.below ((Below.refl _ _).alloc (Nat.le_refl _) o)
end

/-- Block g holds just the cells cs of element type t; none is frozen. -/
def Blk (w : World) (g : Nat) (t : TypeId) (cs : Array Value) : Prop := w.heap[g]? = some (.cells cs t (0, 0))
section
variable {w w' : World} {g : Nat} {t : TypeId} {cs : Array Value}
theorem Blk.lt (h : Blk w g t cs) : g < w.heap.size := by
  rcases Nat.lt_or_ge g w.heap.size with hlt | hge
  · exact hlt
  · unfold Blk at h; rw [Array.getElem?_eq_none hge] at h; cases h
theorem Blk.cell (h : Blk w g t cs) (i : Nat) : w.cell? ⟨g, i, none⟩ = cs[i]? := cell_of_row w g i cs t (0, 0) h
theorem Blk.frozen (h : Blk w g t cs) (i : Nat) : w.frozen? ⟨g, i, none⟩ = false := by
  unfold Blk at h
  simp [World.frozen?, h]
theorem Blk.new (w : World) (t : TypeId) (cs : Array Value) : Blk (w.alloc (.cells cs t)) w.heap.size t cs := heap_alloc_new w _
theorem Blk.alloc (h : Blk w g t cs) (o : Obj) : Blk (w.alloc o) g t cs := (Below.heap_alloc w o g h.lt).trans h
theorem Blk.set_ (h : Blk w g t cs) (i : Nat) (u : Value) : Blk (w.setCell ⟨g, i, none⟩ u) g t (cs.setIfInBounds i u) := by
  unfold Blk at h ⊢
  simp [World.setCell, Array.getElem?_modify, h]
theorem Blk.far (h : Blk w g t cs) {p : Addr} (hp : g ≠ p.block) (u : Value) : Blk (w.setCell p u) g t cs := (Below.heap_setCell w p u g hp).trans h
theorem Blk.below {B : Nat} (h : Blk w g t cs) (hb : Below B w w') (hg : g < B) : Blk w' g t cs := (hb.block g hg).trans h
end

/-- A slice of the call's own reads as its list. -/
theorem Rd.of_own {α : Type} {w : World} {S : Shape α} {base c n : Nat} {e : TypeId} {A : Option Addr} {l : List α} (h : w.ownsRow base e S.k (.slice A n c) n (l.flatMap S.enc)) (hl : l.length = n) : Rd w S A n l := by
  have hn : n ≤ 9223372036854775807 := by
    rcases h.2 with ⟨_, h0⟩ | ⟨g, cap, cur, _, _, _, h1, h2, _⟩
    · omega
    · have : maxLen = 9223372036854775807 := rfl
      omega
  refine ⟨hl, hn, fun hpos => ?_⟩
  obtain ⟨g, cap, hv, _, hlt⟩ := h.form hpos
  have hA : A = some ⟨g, 0, none⟩ := by injection hv
  subst hA
  refine ⟨g, 0, rfl, hlt, fun i x hx j v hj => ?_⟩
  have hcell := h.cells (g := g) rfl
  simp only [addr_zero] at hcell
  rw [Nat.zero_add]
  refine hcell _ v ?_
  have hj' : j < S.k := by rw [← S.len x]; exact (List.getElem?_eq_some_iff.1 hj).1
  have key : ∀ (m : List α) (i : Nat), m[i]? = some x → (m.flatMap S.enc)[i * S.k + j]? = some v := by
    intro m
    induction m with
    | nil => intro i hi; simp at hi
    | cons y m ih =>
      intro i hi
      cases i with
      | zero =>
        simp at hi
        subst hi
        rw [List.flatMap_cons, Nat.zero_mul, Nat.zero_add, List.getElem?_append_left (by rw [S.len]; exact hj')]
        exact hj
      | succ i =>
        simp at hi
        rw [List.flatMap_cons, List.getElem?_append_right (by rw [S.len, Nat.succ_mul]; omega), S.len]
        rw [show (i + 1) * S.k + j - S.k = i * S.k + j from by rw [Nat.succ_mul]; omega]
        exact ih i hi
  exact key l i hx
end Go.Proofs.Ytllkokcknlefgaa
