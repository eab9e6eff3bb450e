/- The walk of 'dark': the document's example. -/
import Derived.Test.YtllkokcknlefgaaShow
import Derived.Test.YtllkokcknlefgaaOf
namespace Go.Proofs.Ytllkokcknlefgaa
open Go.RowKit Go.Shelf S

theorem Rd.of_blk1 {α : Type} {w : World} {S : Shape α} {g : Nat} {t : TypeId} {cs : Array Value} {x : α} (h : Blk w g t cs) (hc : ∀ j : Nat, (S.enc x)[j]? = cs[j]?) : Rd w S (some ⟨g, 0, none⟩) 1 [x] := by
  refine ⟨rfl, by omega, fun _ => ⟨g, 0, rfl, h.lt, fun i y hy j v hv => ?_⟩⟩
  match i with
  | 0 =>
    simp only [List.getElem?_cons_zero, Option.some.injEq] at hy
    subst hy
    rw [Nat.zero_mul, Nat.zero_add, h.cell, ← hc, hv]
  | i + 1 => simp at hy

set_option maxRecDepth 100000 in
theorem dark_any (w : World) : Calls Try.prog 8 #[] w fun e w' => e = .returned (.bool true) ∧ Below w.heap.size w w' := by
  go_enter Try.func8, Try.ntmps8
  go_wp2_with fail
  refine (pnew_any _).mono ?_
  rintro e w1 ⟨rfl, rfl⟩
  go_wp2_with fail
  refine alloc2_elim (K := fun w0 => Calls _ _ _ w0 _) ?_
  intro w0 hb kp kx hs
  have hx : Rd w0 shLight (some ⟨w.heap.size + 1, 0, none⟩) 1 [(⟨1, 3, ⟨false, false, false, 0, 0⟩⟩ : Light)] := Rd.of_blk1 kx (fun j => by simp [shLight, encLight])
  have ho : outS ⟨0, 0⟩ 5 [(⟨1, 3, ⟨false, false, false, 0, 0⟩⟩ : Light)] ⟨0, 0, 0⟩ = ⟨5, [], 0, false, false, false⟩ := by decide
  refine (show_any w.heap.size ⟨0, 0⟩ 5 _ ⟨0, 0, 0⟩ _ 1 1 w0 kp (by simp) hx (by omega) (by omega) (by omega) (by decide) (by decide)).mono ?_
  rintro e w1 ⟨A, m, c, rfl, R, -, K⟩
  have hm : m = 0 := by rw [← R.1, ho]; rfl
  subst hm
  have hb1 : Below w.heap.size w w1 := kept_below hb (Nat.le_refl _) K
  rw [ho, encOut]
  clear R K kx kp hx hs hb
  go_wp2_with fail
  refine alloc2_elim (K := fun w0 => Calls _ _ _ w0 _) ?_
  rintro w2 hb2 - ky -
  have hy : Rd w2 shLight (some ⟨w1.heap.size + 1, 0, none⟩) 1 [(⟨0, 2, ⟨false, true, false, 0, 0⟩⟩ : Light)] := Rd.of_blk1 ky (fun j => by simp [shLight, encLight])
  have ht : topOf (·.lit) [(⟨0, 2, ⟨false, true, false, 0, 0⟩⟩ : Light)] = 2 := by decide
  refine (highest_any _ _ 1 1 w2 hy).mono ?_
  rintro e w3 ⟨rfl, hb3⟩
  have hb4 := (hb1.trans (hb2.mono hb1.size)).trans (hb3.mono (Nat.le_trans hb1.size hb2.size))
  rw [ht]
  clear hb1 hb2 hb3 ky hy ho
  go_wp2
  go_ret
  exact ⟨rfl, hb4⟩
end Go.Proofs.Ytllkokcknlefgaa
