/- The shapes of the panel's values in memory. -/
import Derived.Test.YtllkokcknlefgaaMem
import Derived.Test.YtllkokcknlefgaaSpec
namespace Go.Proofs.Ytllkokcknlefgaa
open Go.RowKit S

def encLife (x : Life) : List Value := [.bool x.on, .bool x.lit, .bool x.acked, .int .i64 x.since, .int .i64 x.stage]
def encLight (x : Light) : List Value := [.int .i64 x.cond, .int .u8 x.prio, .bool x.life.on, .bool x.life.lit, .bool x.life.acked, .int .i64 x.life.since, .int .i64 x.life.stage]
def encLamp (x : Lamp) : List Value := [.int .i64 x.cond, .int .u8 x.prio, .int .i64 x.stage, .bool x.cause, .bool x.acked]
def shLight : Shape Light := ⟨7, encLight, fun _ => rfl, fun x v hv => by
  simp only [encLight, List.mem_cons, List.not_mem_nil, or_false] at hv
  rcases hv with rfl | rfl | rfl | rfl | rfl | rfl | rfl <;> rfl⟩
def shLamp : Shape Lamp := ⟨5, encLamp, fun _ => rfl, fun x v hv => by
  simp only [encLamp, List.mem_cons, List.not_mem_nil, or_false] at hv
  rcases hv with rfl | rfl | rfl | rfl | rfl <;> rfl⟩

/-- The seven cells of a light. -/
theorem light_cells {w : World} {A : Option Addr} {n : Nat} {l : List Light} (h : Rd w shLight A n l) {i : Nat} (hi : i < n) :
    ∃ b off x, A = some ⟨b, off, none⟩ ∧ b < w.heap.size ∧ l[i]? = some x ∧ w.cell? ⟨b, off + i * 7, none⟩ = some (.int .i64 x.cond) ∧ w.cell? ⟨b, off + i * 7 + 1, none⟩ = some (.int .u8 x.prio) ∧ w.cell? ⟨b, off + i * 7 + 2, none⟩ = some (.bool x.life.on) ∧
      w.cell? ⟨b, off + i * 7 + 3, none⟩ = some (.bool x.life.lit) ∧ w.cell? ⟨b, off + i * 7 + 4, none⟩ = some (.bool x.life.acked) ∧ w.cell? ⟨b, off + i * 7 + 5, none⟩ = some (.int .i64 x.life.since) ∧ w.cell? ⟨b, off + i * 7 + 6, none⟩ = some (.int .i64 x.life.stage) := by
  obtain ⟨b, off, x, e, hb, hx, hc⟩ := h.at_ hi
  exact ⟨b, off, x, e, hb, hx, hc 0 _ rfl, hc 1 _ rfl, hc 2 _ rfl, hc 3 _ rfl, hc 4 _ rfl, hc 5 _ rfl, hc 6 _ rfl⟩

/-- The five cells of a lamp. -/
theorem lamp_cells {w : World} {A : Option Addr} {n : Nat} {l : List Lamp} (h : Rd w shLamp A n l) {i : Nat} (hi : i < n) :
    ∃ b off x, A = some ⟨b, off, none⟩ ∧ b < w.heap.size ∧ l[i]? = some x ∧ w.cell? ⟨b, off + i * 5, none⟩ = some (.int .i64 x.cond) ∧ w.cell? ⟨b, off + i * 5 + 1, none⟩ = some (.int .u8 x.prio) ∧ w.cell? ⟨b, off + i * 5 + 2, none⟩ = some (.int .i64 x.stage) ∧
      w.cell? ⟨b, off + i * 5 + 3, none⟩ = some (.bool x.cause) ∧ w.cell? ⟨b, off + i * 5 + 4, none⟩ = some (.bool x.acked) := by
  obtain ⟨b, off, x, e, hb, hx, hc⟩ := h.at_ hi
  exact ⟨b, off, x, e, hb, hx, hc 0 _ rfl, hc 1 _ rfl, hc 2 _ rfl, hc 3 _ rfl, hc 4 _ rfl⟩
end Go.Proofs.Ytllkokcknlefgaa
