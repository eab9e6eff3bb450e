/- What is known in the midst of a Show: the program's and the document's. -/
import Derived.Test.YtllkokcknlefgaaRefLamps
import Derived.Test.YtllkokcknlefgaaSame
import Derived.Test.YtllkokcknlefgaaTop
namespace Go.Proofs.Ytllkokcknlefgaa
open Go.RowKit Go.Shelf S

/-- What was heard last, and since when. -/
structure Pan where
  audio : Int
  began : Int
  deriving DecidableEq, Inhabited

def audioS (now : Int) (l : List Light) (h : Hush) : Int := if h.silent now then 0 else topOf Life.loud l
def panS (p : Pan) (now : Int) (l : List Light) (h : Hush) : Pan := if audioS now l h = p.audio then p else ⟨audioS now l h, now⟩
def outS (p : Pan) (now : Int) (l : List Light) (h : Hush) : Out :=
  { tick := now, lamps := sortL (lampsOf l), audio := audioS now l h, sound := soundS (audioS now l h) (sinceS now (panS p now l h).began), paused := h.paused now, off := h.isOff now }

/-- Nothing of what was there has turned but block g. -/
structure Kept1 (g : Nat) (w w' : World) : Prop where
  os : w'.os = w.os
  tape : w'.tape = w.tape
  output : w'.output = w.output
  size : w.heap.size ≤ w'.heap.size
  block : ∀ k, k < w.heap.size → k ≠ g → w'.heap[k]? = w.heap[k]?

theorem Kept1.of_below {g : Nat} {w w' : World} (h : Below w.heap.size w w') : Kept1 g w w' := ⟨h.os, h.tape, h.output, h.size, fun k hk _ => h.block k hk⟩
theorem Kept1.then_below {g : Nat} {w w1 w2 : World} (h : Kept1 g w w1) (k : Below w1.heap.size w1 w2) : Kept1 g w w2 :=
  ⟨k.os.trans h.os, k.tape.trans h.tape, k.output.trans h.output, Nat.le_trans h.size k.size, fun i hi hn => (k.block i (Nat.lt_of_lt_of_le hi h.size)).trans (h.block i hi hn)⟩
theorem Kept1.set_ {g : Nat} {w w1 : World} (h : Kept1 g w w1) (i : Nat) (u : Value) : Kept1 g w (w1.setCell ⟨g, i, none⟩ u) :=
  ⟨h.os, h.tape, h.output, by simp [World.setCell]; exact h.size, fun k hk hn => (Below.heap_setCell _ _ _ _ hn).trans (h.block k hk hn)⟩
theorem Kept1.far {g b : Nat} {w w1 : World} (h : Kept1 g w w1) (i : Nat) (u : Value) (hb : w.heap.size ≤ b) : Kept1 g w (w1.setCell ⟨b, i, none⟩ u) :=
  ⟨h.os, h.tape, h.output, by simp [World.setCell]; exact h.size, fun k hk hn => (Below.heap_setCell _ _ _ _ (by show k ≠ b; omega)).trans (h.block k hk hn)⟩

theorem Kept1.trans_ {g : Nat} {w w1 w2 : World} (h : Kept1 g w w1) (k : Kept1 g w1 w2) (hs : w.heap.size ≤ w1.heap.size) : Kept1 g w w2 :=
  ⟨k.os.trans h.os, k.tape.trans h.tape, k.output.trans h.output, Nat.le_trans hs k.size, fun i hi hn => (k.block i (Nat.lt_of_lt_of_le hi hs) hn).trans (h.block i hi hn)⟩
theorem undrew {B : Nat} {w w' : World} (h : Below B w.drew w') : Below B w w' := ⟨h.os, h.tape, h.output, h.size, h.block⟩
theorem below_then {w w1 w2 : World} (h : Below w.heap.size w w1) (k : Below w1.heap.size w1 w2) : Below w.heap.size w w2 := h.trans (k.mono h.size)
/-- The zero output's cells. -/
def OutZ (w : World) (g : Nat) : Prop := Blk w g 32 #[.int .i64 0, .slice none 0 0, .int .u8 0, .bool false, .bool false, .bool false]
theorem OutZ.facts {w : World} {g : Nat} (h : OutZ w g) : (w.cell? ⟨g, 0, none⟩ = some (.int .i64 0) ∧ w.cell? ⟨g, 1, none⟩ = some (.slice none 0 0) ∧ w.cell? ⟨g, 2, none⟩ = some (.int .u8 0) ∧ w.cell? ⟨g, 3, none⟩ = some (.bool false) ∧ w.cell? ⟨g, 4, none⟩ = some (.bool false) ∧ w.cell? ⟨g, 5, none⟩ = some (.bool false)) ∧
    w.frozen? ⟨g, 0, none⟩ = false ∧ w.frozen? ⟨g, 1, none⟩ = false ∧ w.frozen? ⟨g, 2, none⟩ = false ∧ w.frozen? ⟨g, 3, none⟩ = false ∧ w.frozen? ⟨g, 4, none⟩ = false ∧ w.frozen? ⟨g, 5, none⟩ = false :=
  ⟨⟨Blk.cell h 0, Blk.cell h 1, Blk.cell h 2, Blk.cell h 3, Blk.cell h 4, Blk.cell h 5⟩, Blk.frozen h 0, Blk.frozen h 1, Blk.frozen h 2, Blk.frozen h 3, Blk.frozen h 4, Blk.frozen h 5⟩
theorem outz_new {w w1 : World} (hb : Below (w.alloc (.cells #[.int .i64 0, .slice none 0 0, .int .u8 0, .bool false, .bool false, .bool false] 32)).heap.size (w.alloc (.cells #[.int .i64 0, .slice none 0 0, .int .u8 0, .bool false, .bool false, .bool false] 32)) w1) : OutZ w1 w.heap.size := (Blk.new w _ _).below hb (by simp)
/-- From the world w0 on: what holds whenever a part of the output has been made. -/
def From (w0 w : World) : Prop := Below w0.heap.size w0 w
theorem From.drew_ (w0 : World) : From w0 w0.drew := ⟨rfl, rfl, rfl, Nat.le_refl _, fun _ _ => rfl⟩
theorem From.refl_ (w0 : World) : From w0 w0 := Below.refl _ _
theorem From.drews {w0 w : World} (h : From w0 w) : From w0 w.drew := Below.drew h
theorem From.alloc_ {w0 w : World} (h : From w0 w) (o : Obj) : From w0 (w.alloc o) := Below.alloc h h.size o
theorem From.then_ {w0 w w1 : World} (h : From w0 w) (k : Below w.heap.size w w1) : From w0 w1 := Below.trans h (k.mono h.size)

theorem hush_from {w0 w : World} {b : Nat} {t : TypeId} {h : Hush} (hk : Blk w0 b t #[.int .i64 h.untl, .int .i64 h.off, .int .u8 h.mark]) (hlt : b < w0.heap.size) (hb : From w0 w) :
    w.cell? ⟨b, 0, none⟩ = some (.int .i64 h.untl) ∧ w.cell? ⟨b, 1, none⟩ = some (.int .i64 h.off) ∧ w.cell? ⟨b, 2, none⟩ = some (.int .u8 h.mark) ∧ From w0 w :=
  have k := hk.below hb hlt
  ⟨k.cell 0, k.cell 1, k.cell 2, hb⟩

theorem kept_below {g : Nat} {w w0 w1 : World} (hb : Below w.heap.size w w0) (hg : w.heap.size ≤ g) (h : Kept1 g w0 w1) : Below w.heap.size w w1 :=
  ⟨h.os.trans hb.os, h.tape.trans hb.tape, h.output.trans hb.output, Nat.le_trans hb.size h.size, fun k hk => (h.block k (Nat.lt_of_lt_of_le hk hb.size) (by omega)).trans (hb.block k hk)⟩
theorem From.set_ {w0 w : World} (h : From w0 w) {b : Nat} (hb : w0.heap.size ≤ b) (i : Nat) (v : Value) : From w0 (w.setCell ⟨b, i, none⟩ v) := Below.setCell h hb v
/-- Six stores into one block. -/
def set6 (w : World) (b : Nat) (v0 v1 v2 v3 v4 v5 : Value) : World := (((((w.setCell ⟨b, 0, none⟩ v0).setCell ⟨b, 1, none⟩ v1).setCell ⟨b, 2, none⟩ v2).setCell ⟨b, 3, none⟩ v3).setCell ⟨b, 4, none⟩ v4).setCell ⟨b, 5, none⟩ v5
theorem From.set6_ {w0 w : World} (h : From w0 w) {b : Nat} (hb : w0.heap.size ≤ b) (v0 v1 v2 v3 v4 v5 : Value) : From w0 ((((((w.setCell ⟨b, 0, none⟩ v0).setCell ⟨b, 1, none⟩ v1).setCell ⟨b, 2, none⟩ v2).setCell ⟨b, 3, none⟩ v3).setCell ⟨b, 4, none⟩ v4).setCell ⟨b, 5, none⟩ v5) :=
  (((((h.set_ hb 0 v0).set_ hb 1 v1).set_ hb 2 v2).set_ hb 3 v3).set_ hb 4 v4).set_ hb 5 v5

/-- What Show hands back, and leaves. -/
def ShowAt (g : Nat) (w : World) (p' : Pan) (o : Out) (e : Ending) (w' : World) : Prop :=
  ∃ A m c, e = .returned (encOut o (.slice A m c)) ∧ Rd w' shLamp A m o.lamps ∧ Blk w' g 74 #[.int .u8 p'.audio, .int .i64 p'.began] ∧ Kept1 g w w'

/-- A slice that has elements does not lie in block g. -/
def NotAt (A : Option Addr) (m g : Nat) : Prop := 0 < m → ∀ b off, A = some ⟨b, off, none⟩ → b ≠ g
theorem NotAt.of_rd {α : Type} {w : World} {S : Shape α} {A : Option Addr} {n : Nat} {l : List α} (h : Rd w S A n l) : NotAt A n w.heap.size := fun hn b off e => by
  obtain ⟨b', off', e', hb, _⟩ := h.2.2 hn
  rw [e] at e'
  injection e' with e'
  injection e' with e'
  omega
theorem NotAt.of_fresh {A : Option Addr} {m g B : Nat} (h : ∀ b off, A = some ⟨b, off, none⟩ → B ≤ b) (hg : g < B) : NotAt A m g := fun _ b off e => by
  have := h b off e
  omega
/-- A slice that has elements lies at or behind B. -/
def NewAt (A : Option Addr) (m B : Nat) : Prop := 0 < m → ∀ b off, A = some ⟨b, off, none⟩ → B ≤ b
theorem NewAt.not {A : Option Addr} {m B g : Nat} (h : NewAt A m B) (hg : g < B) : NotAt A m g := fun hm b off e => by
  have := h hm b off e
  omega
theorem NewAt.of_fresh {w0 w : World} {A : Option Addr} {m : Nat} (F : From w0 w) (h : ∀ b off, A = some ⟨b, off, none⟩ → w.heap.size ≤ b) : NewAt A m w0.heap.size := fun _ b off e => Nat.le_trans F.size (h b off e)
/-- Behind the statement that makes the output. -/
def MadeAt (w0 : World) (o : Out) (v : Value) (w1 : World) : Prop := ∃ go A m c, v = .pointer (some ⟨go, 0, none⟩) ∧ w0.heap.size ≤ go ∧ From w0 w1 ∧ Rd w1 shLamp A m o.lamps ∧ Blk w1 go 32 #[.int .i64 o.tick, .slice A m c, .int .u8 0, .bool false, .bool o.paused, .bool o.off] ∧ NotAt A m go ∧ NewAt A m w0.heap.size

theorem Rd.set_ {α : Type} {w : World} {S : Shape α} {A : Option Addr} {n : Nat} {l : List α} (h : Rd w S A n l) {b : Nat} (hb : NotAt A n b) (i : Nat) (v : Value) : Rd (w.setCell ⟨b, i, none⟩ v) S A n l := by
  refine ⟨h.1, h.2.1, fun hn => ?_⟩
  obtain ⟨b', off, e, hlt, hc⟩ := h.2.2 hn
  refine ⟨b', off, e, by simp [World.setCell]; exact hlt, fun j x hx q u hu => ?_⟩
  rw [World.cell?_setCell_other w ⟨b, i, none⟩ ⟨b', _, none⟩ v (fun hh => hb hn b' off e (by first | exact congrArg Addr.block hh | exact (congrArg Addr.block hh).symm))]
  exact hc j x hx q u hu
theorem made_alloc {w0 w : World} (now : Int) (ls : List Lamp) (b1 b2 : Bool) {A : Option Addr} {m c : Nat} (F : From w0 w) (hr : Rd w shLamp A m ls) (D : NewAt A m w0.heap.size) :
    MadeAt w0 { tick := now, lamps := ls, audio := 0, sound := false, paused := b1, off := b2 } (.pointer (some ⟨w.heap.size, 0, none⟩)) (w.alloc (.cells #[.int .i64 now, .slice A m c, .int .u8 0, .bool false, .bool b1, .bool b2] 32)) :=
  ⟨_, A, m, c, rfl, F.size, F.alloc_ _, hr.alloc _, Blk.new _ _ _, NotAt.of_rd hr, D⟩
theorem made_set {w0 w : World} (now : Int) (ls : List Lamp) (b1 b2 : Bool) {g : Nat} {A : Option Addr} {m c : Nat} (F : From w0 w) (hr : Rd w shLamp A m ls) (O : OutZ w g) (G : w0.heap.size ≤ g) (N : NotAt A m g) (D : NewAt A m w0.heap.size) :
    MadeAt w0 { tick := now, lamps := ls, audio := 0, sound := false, paused := b1, off := b2 } (.pointer (some ⟨g, 0, none⟩)) ((((((w.setCell ⟨g, 0, none⟩ (.int .i64 now)).setCell ⟨g, 1, none⟩ (.slice A m c)).setCell ⟨g, 2, none⟩ (.int .u8 0)).setCell ⟨g, 3, none⟩ (.bool false)).setCell ⟨g, 4, none⟩ (.bool b1)).setCell ⟨g, 5, none⟩ (.bool b2)) :=
  ⟨g, A, m, c, rfl, G, F.set6_ G _ _ _ _ _ _, (((((hr.set_ N _ _).set_ N _ _).set_ N _ _).set_ N _ _).set_ N _ _).set_ N _ _, ((((((Blk.set_ O 0 _).set_ 1 _).set_ 2 _).set_ 3 _).set_ 4 _).set_ 5 _), N, D⟩

/-- In the midst of Show: the output's block and the panel's. -/
structure MidAt (t : TypeId) (w0 w : World) (g go : Nat) (q : Pan) (o : Out) (A : Option Addr) (m c : Nat) : Prop where
  out : Blk w go 32 #[.int .i64 o.tick, .slice A m c, .int .u8 o.audio, .bool o.sound, .bool o.paused, .bool o.off]
  rd : Rd w shLamp A m o.lamps
  pan : Blk w g t #[.int .u8 q.audio, .int .i64 q.began]
  kept : Kept1 g w0 w
/-- What stays: where the blocks lie. -/
structure Lie (w0 : World) (g go : Nat) (A : Option Addr) (m : Nat) : Prop where
  lo : g < w0.heap.size
  hi : w0.heap.size ≤ go
  no : NotAt A m go
  ng : NotAt A m g
section
variable {t : TypeId} {w0 w w1 : World} {g go : Nat} {q : Pan} {o : Out} {A : Option Addr} {m c : Nat}
theorem Lie.ne (L : Lie w0 g go A m) : go ≠ g := by have := L.lo; have := L.hi; omega
theorem MidAt.facts {tick : Int} {ls : List Lamp} {au : Int} {so pa off : Bool} (M : MidAt t w0 w g go q ⟨tick, ls, au, so, pa, off⟩ A m c) : w.cell? ⟨go, 0, none⟩ = some (.int .i64 tick) ∧ w.cell? ⟨go, 1, none⟩ = some (.slice A m c) ∧ w.cell? ⟨go, 2, none⟩ = some (.int .u8 au) ∧ w.cell? ⟨go, 3, none⟩ = some (.bool so) ∧ w.cell? ⟨go, 4, none⟩ = some (.bool pa) ∧ w.cell? ⟨go, 5, none⟩ = some (.bool off) ∧
    w.cell? ⟨g, 0, none⟩ = some (.int .u8 q.audio) ∧ w.cell? ⟨g, 1, none⟩ = some (.int .i64 q.began) ∧ w.frozen? ⟨go, 2, none⟩ = false ∧ w.frozen? ⟨go, 3, none⟩ = false ∧ w.frozen? ⟨g, 0, none⟩ = false ∧ w.frozen? ⟨g, 1, none⟩ = false ∧ go < w.heap.size ∧ g < w.heap.size :=
  ⟨M.out.cell 0, M.out.cell 1, M.out.cell 2, M.out.cell 3, M.out.cell 4, M.out.cell 5, M.pan.cell 0, M.pan.cell 1, M.out.frozen 2, M.out.frozen 3, M.pan.frozen 0, M.pan.frozen 1, M.out.lt, M.pan.lt⟩
theorem MidAt.below (M : MidAt t w0 w g go q o A m c) (h : Below w.heap.size w w1) : MidAt t w0 w1 g go q o A m c := ⟨M.out.below h M.out.lt, M.rd.below h, M.pan.below h M.pan.lt, M.kept.then_below h⟩
theorem MidAt.audio (M : MidAt t w0 w g go q o A m c) (L : Lie w0 g go A m) (a : Int) : MidAt t w0 (w.setCell ⟨go, 2, none⟩ (.int .u8 a)) g go q { o with audio := a } A m c := ⟨M.out.set_ 2 _, M.rd.set_ L.no _ _, M.pan.far (fun e => L.ne e.symm) _, M.kept.far _ _ L.hi⟩
theorem MidAt.sound (M : MidAt t w0 w g go q o A m c) (L : Lie w0 g go A m) (a : Bool) : MidAt t w0 (w.setCell ⟨go, 3, none⟩ (.bool a)) g go q { o with sound := a } A m c := ⟨M.out.set_ 3 _, M.rd.set_ L.no _ _, M.pan.far (fun e => L.ne e.symm) _, M.kept.far _ _ L.hi⟩
theorem MidAt.zero (M : MidAt t w0 w g go q o A m c) (b : Nat) (h : Blk w0 b 32 #[.int .i64 0, .slice none 0 0, .int .u8 0, .bool false, .bool false, .bool false]) (hn : b ≠ g) : OutZ w b := (M.kept.block b h.lt hn).trans h
/-- The end: the result's cells are written. -/
theorem MidAt.done {wb : World} {tick : Int} {ls : List Lamp} {au : Int} {so pa off : Bool} (M : MidAt t w0 w g go q ⟨tick, ls, au, so, pa, off⟩ A m c) (hb : Below wb.heap.size wb w0) (b : Nat) (h1 : wb.heap.size ≤ b) (hn : b ≠ g) (hA : NotAt A m b) (v0 v1 v2 v3 v4 v5 : Value) :
    Rd (set6 w b v0 v1 v2 v3 v4 v5) shLamp A m ls ∧ Blk (set6 w b v0 v1 v2 v3 v4 v5) g t #[.int .u8 q.audio, .int .i64 q.began] ∧ Kept1 g wb (set6 w b v0 v1 v2 v3 v4 v5) := by
  have k : Kept1 g wb w := (Kept1.of_below hb).trans_ M.kept hb.size
  exact ⟨(((((M.rd.set_ hA _ _).set_ hA _ _).set_ hA _ _).set_ hA _ _).set_ hA _ _).set_ hA _ _,
    (((((M.pan.far (fun e => hn e.symm) _).far (fun e => hn e.symm) _).far (fun e => hn e.symm) _).far (fun e => hn e.symm) _).far (fun e => hn e.symm) _).far (fun e => hn e.symm) _,
    (((((k.far 0 v0 h1).far 1 v1 h1).far 2 v2 h1).far 3 v3 h1).far 4 v4 h1).far 5 v5 h1⟩
theorem MidAt.turn (M : MidAt t w0 w g go q o A m c) (L : Lie w0 g go A m) (a b : Int) : MidAt t w0 ((w.setCell ⟨g, 0, none⟩ (.int .u8 a)).setCell ⟨g, 1, none⟩ (.int .i64 b)) g go ⟨a, b⟩ o A m c := ⟨(M.out.far L.ne _).far L.ne _, (M.rd.set_ L.ng _ _).set_ L.ng _ _, (M.pan.set_ 0 _).set_ 1 _, (M.kept.set_ _ _).set_ _ _⟩
end
end Go.Proofs.Ytllkokcknlefgaa
