/- The plain side of the lamps' order: what is put ahead of what; one list in order, whatever the order in which it came. -/
import Derived.Test.YtllkokcknlefgaaSpec
namespace Go.Proofs.Ytllkokcknlefgaa.S

def ahead (a b : Lamp) : Bool := decide (b.prio < a.prio ∨ (a.prio = b.prio ∧ a.cond < b.cond))
def insL (a : Lamp) : List Lamp → List Lamp
  | [] => [a]
  | b :: r => if ahead a b then a :: b :: r else b :: insL a r
def sortL (l : List Lamp) : List Lamp := l.foldl (fun out a => insL a out) []

theorem cmpLamp_lt (a b : Lamp) : decide (cmpLamp a b < 0) = ahead a b := by
  rw [Bool.eq_iff_iff]
  unfold ahead
  simp only [decide_eq_true_eq]
  rcases (by omega : b.prio < a.prio ∨ a.prio < b.prio ∨ a.prio = b.prio) with h | h | h
  · have e : cmpLamp a b = -1 := by unfold cmpLamp orI cmpI; rw [if_pos h, if_neg (by omega)]
    rw [e]; omega
  · have e : cmpLamp a b = 1 := by
      have : cmpI b.prio a.prio = 1 := by unfold cmpI; rw [if_neg (by omega), if_pos h]
      unfold cmpLamp orI; rw [this, if_neg (by omega)]
    rw [e]; omega
  · have e : cmpLamp a b = cmpI a.cond b.cond := by
      have : cmpI b.prio a.prio = 0 := by unfold cmpI; rw [if_neg (by omega), if_neg (by omega)]
      unfold cmpLamp orI; rw [this, if_pos rfl]
    rw [e]
    unfold cmpI
    by_cases h1 : a.cond < b.cond
    · rw [if_pos h1]; omega
    · rw [if_neg h1]
      by_cases h2 : b.cond < a.cond
      · rw [if_pos h2]; omega
      · rw [if_neg h2]; omega

theorem insL_perm (a : Lamp) (l : List Lamp) : (insL a l).Perm (a :: l) := by
  induction l with
  | nil => exact List.Perm.refl _
  | cons b r ih =>
    unfold insL
    split
    · exact List.Perm.refl _
    · exact (List.Perm.cons b ih).trans (List.Perm.swap a b r)

def Ord (l : List Lamp) : Prop := l.Pairwise (fun a b => ahead b a = false)

theorem ahead_trans_no {a b c : Lamp} (h1 : ahead b a = false) (h2 : ahead c b = false) : ahead c a = false := by
  unfold ahead at *
  simp only [decide_eq_false_iff_not] at *
  omega
theorem ahead_asymm {a b : Lamp} (h : ahead a b = true) : ahead b a = false := by
  unfold ahead at *
  simp only [decide_eq_true_eq, decide_eq_false_iff_not] at *
  omega

/-- The document's own way: through the list once, the new one put ahead of the first that it goes ahead of. -/
def insStep (a : Lamp) (p : List Lamp × Bool) (b : Lamp) : List Lamp × Bool := if !p.2 && ahead a b then (p.1 ++ [a] ++ [b], true) else (p.1 ++ [b], p.2)
def insTo (a : Lamp) (l : List Lamp) : List Lamp × Bool := l.foldl (insStep a) ([], false)
theorem insTo_snoc (a : Lamp) (l : List Lamp) (b : Lamp) : insTo a (l ++ [b]) = insStep a (insTo a l) b := by
  unfold insTo
  rw [List.foldl_append]
  rfl
theorem insTo_from (a : Lamp) (l : List Lamp) : ∀ p : List Lamp × Bool, (if (l.foldl (insStep a) p).2 then (l.foldl (insStep a) p).1 else (l.foldl (insStep a) p).1 ++ [a]) = if p.2 then p.1 ++ l else p.1 ++ insL a l := by
  induction l with
  | nil => intro p; cases h : p.2 <;> simp [h, insL]
  | cons b r ih =>
    intro p
    rw [List.foldl_cons, ih]
    unfold insStep
    cases h : p.2
    · cases h1 : ahead a b <;> simp [h1, insL]
    · simp
theorem insTo_end (a : Lamp) (l : List Lamp) : (if (insTo a l).2 then (insTo a l).1 else (insTo a l).1 ++ [a]) = insL a l := by
  unfold insTo
  rw [insTo_from]
  simp
theorem insTo_len (a : Lamp) (l : List Lamp) : (insTo a l).1.length ≤ l.length + 1 := by
  have h := insTo_end a l
  have h2 := (insL_perm a l).length_eq
  rw [← h] at h2
  split at h2
  · simp only [List.length_cons] at h2
    omega
  · simp only [List.length_append, List.length_cons, List.length_nil] at h2
    omega
theorem sortL_snoc (l : List Lamp) (a : Lamp) : sortL (l ++ [a]) = insL a (sortL l) := by
  unfold sortL
  rw [List.foldl_append]
  rfl
theorem insL_mem {a x : Lamp} {l : List Lamp} (h : x ∈ insL a l) : x = a ∨ x ∈ l := by
  have := (insL_perm a l).mem_iff.1 h
  simpa using this

theorem insL_ord (a : Lamp) (l : List Lamp) (h : Ord l) : Ord (insL a l) := by
  induction l with
  | nil => exact List.pairwise_singleton _ _
  | cons b r ih =>
    have hb : ∀ x ∈ r, ahead x b = false := (List.pairwise_cons.1 h).1
    have hr : Ord r := (List.pairwise_cons.1 h).2
    unfold insL
    split
    · rename_i hab
      refine List.pairwise_cons.2 ⟨fun x hx => ?_, h⟩
      rcases List.mem_cons.1 hx with rfl | hx
      · exact ahead_asymm hab
      · exact ahead_trans_no (ahead_asymm hab) (hb x hx)
    · rename_i hab
      refine List.pairwise_cons.2 ⟨fun x hx => ?_, ih hr⟩
      rcases insL_mem hx with rfl | hx
      · simpa using hab
      · exact hb x hx

theorem foldl_ins (l out : List Lamp) (ho : Ord out) : Ord (l.foldl (fun out a => insL a out) out) ∧ (l.foldl (fun out a => insL a out) out).Perm (out ++ l) := by
  induction l generalizing out with
  | nil => exact ⟨ho, by simp⟩
  | cons a l ih =>
    obtain ⟨h1, h2⟩ := ih (insL a out) (insL_ord a out ho)
    refine ⟨h1, h2.trans ?_⟩
    have h3 : (insL a out ++ l).Perm ((a :: out) ++ l) := (insL_perm a out).append_right l
    refine h3.trans ?_
    rw [List.cons_append]
    exact List.perm_middle.symm
theorem sortL_ord (l : List Lamp) : Ord (sortL l) := (foldl_ins l [] List.Pairwise.nil).1
theorem sortL_perm (l : List Lamp) : (sortL l).Perm l := by unfold sortL; simpa using (foldl_ins l [] List.Pairwise.nil).2

/-- Of lamps of unlike conditions there is one order. -/
theorem ord_unique {l m : List Lamp} (hp : l.Perm m) (hl : Ord l) (hm : Ord m) (hd : (l.map (·.cond)).Nodup) : l = m := by
  refine List.Perm.eq_of_pairwise (le := fun a b => ahead b a = false) ?_ hl hm hp
  intro a b ha hb h1 h2
  have hc : a.cond = b.cond := by
    unfold ahead at h1 h2
    simp only [decide_eq_false_iff_not] at h1 h2
    omega
  have hb' : b ∈ l := hp.mem_iff.2 hb
  obtain ⟨i, hi, rfl⟩ := List.getElem_of_mem ha
  obtain ⟨j, hj, rfl⟩ := List.getElem_of_mem hb'
  by_cases hij : i = j
  · subst hij; rfl
  · exfalso
    rw [List.nodup_iff_pairwise_ne, List.pairwise_map, List.pairwise_iff_getElem] at hd
    rcases Nat.lt_or_gt_of_ne hij with h | h
    · exact hd i j hi hj h hc
    · exact hd j i hj hi h hc.symm

theorem lamps_nodup {l : List Light} (h : (l.map (·.cond)).Nodup) : ((lampsOf l).map (·.cond)).Nodup := by
  have e : (lampsOf l).map (·.cond) = (l.filter (fun x => x.life.lit)).map (·.cond) := by
    unfold lampsOf
    rw [List.map_map]
    rfl
  rw [e]
  exact List.Nodup.sublist (List.Sublist.map _ List.filter_sublist) h

theorem sortL_unique {l : List Light} {d : List Lamp} (h : (l.map (·.cond)).Nodup) (hp : d.Perm (lampsOf l)) (ho : Ord d) : d = sortL (lampsOf l) :=
  ord_unique (hp.trans (sortL_perm _).symm) ho (sortL_ord _) ((hp.map _).nodup_iff.2 (lamps_nodup h))

/-- Lights told in another order are the same lamps. -/
theorem sortL_of_perm {l m : List Light} (h : (l.map (·.cond)).Nodup) (hp : l.Perm m) : sortL (lampsOf m) = sortL (lampsOf l) := by
  refine sortL_unique h ((sortL_perm _).trans ?_) (sortL_ord _)
  unfold lampsOf
  exact ((hp.filter _).map _).symm
end Go.Proofs.Ytllkokcknlefgaa.S
