/- Rows of the call's own, of any shape: what append of one element does to them, what they read as, and how they stay. -/
import Derived.Test.YtllkokcknlefgaaMem
namespace Go.Proofs.Ytllkokcknlefgaa
open Go.RowKit

/-- The slice v is the call's own (in blocks from base on) and holds just the list l. -/
def Own {α : Type} (w : World) (S : Shape α) (base : Nat) (e : TypeId) (v : Value) (l : List α) : Prop := w.ownsRow base e S.k v l.length (l.flatMap S.enc)

/-- A slice type t over an element type e of the shape S. -/
structure Elt (P : Program) (t e : TypeId) {α : Type} (S : Shape α) : Prop where
  und : P.underlying t = some (.slice e)
  info : ∃ z b, (P.info? e).map (fun i => (i.zero, i.size, i.bytes)) = some (some z, S.k, b) ∧ z.cells.size = S.k ∧ b ≤ 1024
  pos : 0 < S.k

section
variable {α : Type} {w w' : World} {S : Shape α} {base : Nat} {e : TypeId} {v : Value} {l : List α}
theorem Own.nil_ (w : World) (S : Shape α) (base : Nat) (e : TypeId) : Own w S base e (.slice none 0 0) [] := World.ownsRow_nil w base e S.k
theorem Own.slice_ (h : Own w S base e v l) : ∃ A c, v = .slice A l.length c ∧ Rd w S A l.length l := by
  have h' := h
  rcases h'.2 with ⟨rfl, h0⟩ | ⟨g, cap, cur, rfl, _⟩
  · rw [h0]
    have hl : l = [] := List.eq_nil_of_length_eq_zero h0
    subst hl
    exact ⟨none, 0, rfl, Rd.nil_⟩
  · exact ⟨_, cap, rfl, Rd.of_own h rfl⟩
theorem Own.alloc (h : Own w S base e v l) (o : Obj) : Own (w.alloc o) S base e v l := World.ownsRow.alloc h o
theorem Own.kept {row : Option Nat} (h : Own w S base e v l) (hg : w.grownBy w' row) (hne : v.ownBlock = none ∨ v.ownBlock ≠ row) : Own w' S base e v l := World.ownsRow.kept h hg hne
theorem Own.below (h : Own w S base e v l) (hb : Below w.heap.size w w') : Own w' S base e v l :=
  h.kept (row := none) ⟨hb.os, hb.tape, hb.output, hb.size, fun i hi _ => hb.block i hi⟩ (by cases v.ownBlock <;> simp)
theorem Own.drew (h : Own w S base e v l) : Own w.drew S base e v l := h
theorem Own.base_ (h : Own w S base e v l) : ∀ k, v.ownBlock = some k → base ≤ k ∧ k < w.heap.size := World.ownsRow.lt h
theorem Own.mono {base' : Nat} (h : Own w S base e v l) (hb : base' ≤ base) : Own w S base' e v l := by
  refine ⟨h.1, ?_⟩
  rcases h.2 with h0 | ⟨g, cap, cur, h1, h2, h3⟩
  · exact .inl h0
  · exact .inr ⟨g, cap, cur, h1, by omega, h3⟩
end

theorem own_ne {α β : Type} {w : World} {S : Shape α} {S' : Shape β} {b b' : Nat} {e e' : TypeId} {v v' : Value} {l : List α} {l' : List β} (h : Own w S b e v l) (h' : Own w S' b' e' v' l') (hne : e ≠ e') : v.ownBlock = none ∨ v.ownBlock ≠ v'.ownBlock := by
  rcases h.2 with ⟨rfl, _⟩ | ⟨g, cap, cur, rfl, _, hh, _⟩
  · exact .inl rfl
  · refine .inr fun hk => ?_
    rcases h'.2 with ⟨rfl, _⟩ | ⟨g', cap', cur', rfl, _, hh', _⟩
    · simp [Value.ownBlock] at hk
    · have hgg : g = g' := by simpa [Value.ownBlock] using hk
      subst hgg
      rw [hh] at hh'
      injection hh' with hh'
      injection hh' with _ ht
      exact hne ht

theorem Blk.grown {w w' : World} {g : Nat} {t : TypeId} {cs : Array Value} {row : Option Nat} (h : Blk w g t cs) (hb : w.grownBy w' row) (hg : some g ≠ row) : Blk w' g t cs := (hb.block g h.lt hg).trans h
theorem own_far {α : Type} {w : World} {S : Shape α} {b g : Nat} {e : TypeId} {v : Value} {l : List α} (h : Own w S b e v l) (hg : w.heap.size ≤ g) : some g ≠ v.ownBlock := fun hk => by
  have := (h.base_ g hk.symm).2
  omega

/-- A world behind new blocks, under a name. -/
theorem alloc1_elim {w : World} {cs : Array Value} {t : TypeId} {K : World → Prop} (h : ∀ w0, Below w.heap.size w w0 → Blk w0 w.heap.size t cs → w0.heap.size = w.heap.size + 1 → K w0) : K (w.alloc (.cells cs t)) :=
  h _ ((Below.refl _ _).alloc (Nat.le_refl _) _) (Blk.new _ _ _) (by simp)
theorem alloc2_elim {w : World} {cs cs' : Array Value} {t t' : TypeId} {K : World → Prop} (h : ∀ w0, Below w.heap.size w w0 → Blk w0 w.heap.size t cs → Blk w0 (w.heap.size + 1) t' cs' → w0.heap.size = w.heap.size + 2 → K w0) : K ((w.alloc (.cells cs t)).alloc (.cells cs' t')) := by
  refine h _ (((Below.refl _ _).alloc (Nat.le_refl _) _).alloc (by simp) _) ((Blk.new _ _ _).alloc _) ?_ (by simp)
  have hk := Blk.new (w.alloc (.cells cs t)) t' cs'
  rwa [show (w.alloc (.cells cs t)).heap.size = w.heap.size + 1 from by simp] at hk

theorem news_cells {w : World} {cs : Array Value} {t : TypeId} : ∀ j u, cs.toList[j]? = some u → (w.alloc (.cells cs t)).cell? ((⟨w.heap.size, 0, none⟩ : Addr).add j) = some u :=
  World.news_of_block (heap_alloc_new w _)

/-- append(v, x), at the builtin's place; the element's own box has just been laid. -/
theorem app_one {P : Program} {ops : Array Oper} {rest : List Oper} {o : Oper} {a : Act} {Q : Exit → Act → World → Prop} {α : Type} {S : Shape α} {t e : TypeId} (E : Elt P t e S) {w0 w : World} (base : Nat) (hgd : o.guard = none) (s x : Operand)
    (ho : o.op = .call { callee := .builtin .append, args := #[s, x], argTypes := #[t, t] })
    (v : Value) (l : List α) (y : α) (hs : a.eval s = v) (g : Nat) (hx : a.eval x = .slice (some ⟨g, 0, none⟩) 1 1) (hg : g = w.heap.size) (cs : Array Value) (hcs : cs.toList = S.enc y)
    (hown : Own w S base e v l) (hb : Below base w0 w) (hbase : base ≤ w.heap.size) (hl : l.length ≤ 68719476736)
    (h : ∀ v1 w1, Own w1 S base e v1 (l ++ [y]) → Below base w0 w1 → w.grownBy w1 v.ownBlock → (v1.ownBlock = v.ownBlock ∨ ∃ b, v1.ownBlock = some b ∧ w.heap.size ≤ b) → w.heap.size < w1.heap.size → wpList P ops Q rest (a.put o.dst v1) w1) :
    wpList P ops Q (o :: rest) a (w.alloc (.cells cs e)) := by
  subst hg
  obtain ⟨z, b, hinfo, hz, hb1⟩ := E.info
  obtain ⟨i, hi, hz0, hz1, hz2⟩ := info_parts hinfo
  have hk := E.pos
  refine wpList_append_own_at (w.alloc (.cells cs e)) hgd s x t ho base e i z S.k b E.und hi hz0 hz1 hz2 hz hk v l.length (l.flatMap S.enc) hs (World.ownsRow.alloc hown _) ⟨w.heap.size, 0, none⟩ 1 1 (S.enc y) hx (by rw [S.len, Nat.one_mul])
    (fun j u hu => news_cells j u (by rw [hcs]; exact hu)) (S.one y) (by simp only [maxLen]; omega) (by
      have : (l.length + 1) * b ≤ 68719476737 * 1024 := Nat.mul_le_mul (by omega) hb1
      omega) (by simp; omega) ?_
  intro v1 w1 hown1 hg _ hat
  refine h v1 w1 ?_ ((hb.alloc hbase _).grown hg (by simp; omega) (fun k hk => (hown.base_ k hk).1)) (World.grownBy.trans (World.grownBy_alloc w _ _) hg) ?_ ?_
  · unfold Own
    rw [List.length_append, List.flatMap_append]
    simpa using hown1
  · rcases hat with hat | hat
    · exact .inl hat
    · exact .inr ⟨_, hat, by simp⟩
  · have := hg.size
    simp at this
    omega
end Go.Proofs.Ytllkokcknlefgaa
