/- Limits, plainly: what Set gives. -/
import Derived.Test.YtogenggejmbhjaaO2
set_option autoImplicit false
set_option linter.unusedSimpArgs false
set_option linter.unusedVariables false
namespace Go.Proofs.Ytogenggejmbhjaa
namespace Eng
/-- Where a limit of these names stands, or would stand. -/
def posL (l : List Lim) (x : Lim) : Nat := (l.takeWhile fun y => decide (cmpL y x < 0)).length
theorem posL_le (l : List Lim) (x : Lim) : posL l x ≤ l.length := by
  unfold posL
  exact (List.takeWhile_sublist _).length_le
theorem posL_lt (l : List Lim) (x : Lim) : ∀ j, j < posL l x → cmpL (l.getD j default) x < 0 := by
  induction l with
  | nil => intro j hj; exact absurd hj (Nat.not_lt_zero _)
  | cons y l ih =>
    intro j hj
    unfold posL at hj
    rw [List.takeWhile_cons] at hj
    by_cases h : cmpL y x < 0
    · rw [if_pos (by simpa using h), List.length_cons] at hj
      cases j with
      | zero => simpa using h
      | succ j => simpa using ih j (by unfold posL; omega)
    · rw [if_neg (by simpa using h)] at hj
      exact absurd hj (Nat.not_lt_zero _)
theorem posL_at (l : List Lim) (x : Lim) (h : posL l x < l.length) : 0 ≤ cmpL (l.getD (posL l x) default) x := by
  induction l with
  | nil => exact absurd h (Nat.not_lt_zero _)
  | cons y l ih =>
    by_cases hy : cmpL y x < 0
    · have e : posL (y :: l) x = posL l x + 1 := by
        unfold posL; rw [List.takeWhile_cons, if_pos (by simpa using hy), List.length_cons]
      rw [e] at h ⊢
      simpa using ih (by simpa using h)
    · have e : posL (y :: l) x = 0 := by
        unfold posL; rw [List.takeWhile_cons, if_neg (by simpa using hy)]; rfl
      rw [e]
      simpa using hy
theorem sorted_of {l : List Lim} (h : rightP l) : ∀ i j, i < j → j < l.length → cmpL (l.getD i default) (l.getD j default) < 0 := by
  intro i j hij hj
  induction j with
  | zero => omega
  | succ j ih =>
    have h1 := (h.2 (j + 1) hj).2 (by omega)
    rw [Nat.add_sub_cancel] at h1
    rcases Nat.lt_or_ge i j with h2 | h2
    · exact cmpL_trans (ih h2 (by omega)) h1
    · obtain rfl : i = j := by omega
      exact h1
theorem cmpL_self (x : Lim) : cmpL x x = 0 := cmpL_eq.2 ⟨rfl, rfl⟩
theorem cmpL_sameR {a b c : Lim} (h : sameN b c) : cmpL a b = cmpL a c := by unfold cmpL; rw [h.1, h.2]
theorem cmpL_sameL {a b c : Lim} (h : sameN a b) : cmpL a c = cmpL b c := by unfold cmpL; rw [h.1, h.2]
theorem posL_ge {l : List Lim} (h : rightP l) (x : Lim) : ∀ j, posL l x ≤ j → j < l.length → 0 ≤ cmpL (l.getD j default) x := by
  intro j hj hl
  have h0 := posL_at l x (by omega)
  rcases Nat.lt_or_eq_of_le hj with h1 | h1
  · have h2 := sorted_of h _ _ h1 hl
    rcases Int.lt_or_le (cmpL (l.getD j default) x) 0 with h3 | h3
    · have := cmpL_trans h2 h3
      omega
    · exact h3
  · rw [← h1]; exact h0
theorem posL_gt {l : List Lim} (h : rightP l) (x : Lim) : ∀ j, posL l x < j → j < l.length → 0 < cmpL (l.getD j default) x := by
  intro j hj hl
  have h0 := posL_at l x (by omega)
  have h2 := sorted_of h _ _ hj hl
  rcases Int.lt_or_le 0 (cmpL (l.getD j default) x) with h3 | h3
  · exact h3
  · have h4 := posL_ge h x j (by omega) hl
    have h5 : cmpL (l.getD j default) x = 0 := by omega
    rw [cmpL_sameR (cmpL_eq.1 h5)] at h2
    omega
theorem posL_same (l : List Lim) {x y : Lim} (h : sameN x y) : posL l x = posL l y := by
  unfold posL
  congr 1
  congr 1
  funext z
  rw [cmpL_sameR h]
/-- Is it there? -/
def foundL (l : List Lim) (x : Lim) : Bool := decide (posL l x < l.length) && decide (cmpL (l.getD (posL l x) default) x = 0)
open Classical in
/-- What Set gives. -/
noncomputable def setL (l : List Lim) (x : Lim) : List Lim × Int :=
  if ¬ (rightP l ∧ mayL x = true) then (l, 1) else
  if foundL l x = true then (l.set (posL l x) x, 0) else
  if l.length = 32 then (l, 5) else (l.take (posL l x) ++ x :: l.drop (posL l x), 0)
theorem setL_bad {l : List Lim} {x : Lim} (h : ¬ (rightP l ∧ mayL x = true)) : setL l x = (l, 1) := by unfold setL; rw [if_pos h]
theorem setL_found {l : List Lim} {x : Lim} (h : rightP l) (hx : mayL x = true) (hf : foundL l x = true) : setL l x = (l.set (posL l x) x, 0) := by unfold setL; rw [if_neg (fun n => n ⟨h, hx⟩), if_pos hf]
theorem setL_full {l : List Lim} {x : Lim} (h : rightP l) (hx : mayL x = true) (hf : ¬ foundL l x = true) (hl : l.length = 32) : setL l x = (l, 5) := by unfold setL; rw [if_neg (fun n => n ⟨h, hx⟩), if_neg hf, if_pos hl]
theorem setL_ins {l : List Lim} {x : Lim} (h : rightP l) (hx : mayL x = true) (hf : ¬ foundL l x = true) (hl : l.length ≠ 32) : setL l x = (l.take (posL l x) ++ x :: l.drop (posL l x), 0) := by unfold setL; rw [if_neg (fun n => n ⟨h, hx⟩), if_neg hf, if_neg hl]
theorem foundL_spec {l : List Lim} {x : Lim} : foundL l x = true ↔ posL l x < l.length ∧ sameN (l.getD (posL l x) default) x := by
  unfold foundL
  rw [Bool.and_eq_true, decide_eq_true_eq, decide_eq_true_eq, cmpL_eq]
theorem getD_set {l : List Lim} {n : Nat} {x : Lim} (j : Nat) (hn : n < l.length) : (l.set n x).getD j default = if j = n then x else l.getD j default := by
  simp only [List.getD_eq_getElem?_getD, List.getElem?_set]
  split
  · rename_i h; subst h; rw [if_pos rfl]; simp [hn]
  · rename_i h; rw [if_neg (fun e => h e.symm)]
theorem getD_ins {l : List Lim} {n : Nat} {x : Lim} (j : Nat) (hn : n ≤ l.length) : (l.take n ++ x :: l.drop n).getD j default = if j < n then l.getD j default else if j = n then x else l.getD (j - 1) default := by
  have ht : (l.take n).length = n := by simp; omega
  simp only [List.getD_eq_getElem?_getD]
  by_cases h1 : j < n
  · rw [List.getElem?_append_left (by omega), List.getElem?_take, if_pos h1, if_pos h1]
  · rw [List.getElem?_append_right (by omega), ht, if_neg h1]
    by_cases h2 : j = n
    · subst h2; simp
    · rw [if_neg h2, show j - n = (j - 1 - n) + 1 by omega, List.getElem?_cons_succ, List.getElem?_drop, show n + (j - 1 - n) = j - 1 by omega]
theorem right_set {l : List Lim} {x : Lim} (h : rightP l) (hx : mayL x = true) (hf : foundL l x = true) : rightP (l.set (posL l x) x) := by
  obtain ⟨hlt, hs⟩ := foundL_spec.1 hf
  refine ⟨by simpa using h.1, fun i hi => ?_⟩
  have hi' : i < l.length := by simpa using hi
  have hi2 := h.2 i hi'
  rw [getD_set i hlt, getD_set (i - 1) hlt]
  constructor
  · split
    · exact hx
    · exact hi2.1
  · intro h0
    have h3 := hi2.2 h0
    by_cases e1 : i = posL l x
    · rw [if_pos e1, if_neg (by omega), ← cmpL_sameR hs, ← e1]; exact h3
    · rw [if_neg e1]
      split
      · rename_i e2
        rw [← cmpL_sameL hs, ← e2]; exact h3
      · exact h3
theorem right_ins {l : List Lim} {x : Lim} (h : rightP l) (hx : mayL x = true) (hf : ¬ foundL l x = true) (hl : l.length ≠ 32) : rightP (l.take (posL l x) ++ x :: l.drop (posL l x)) := by
  have hle := posL_le l x
  have hlen : (l.take (posL l x) ++ x :: l.drop (posL l x)).length = l.length + 1 := by simp; omega
  refine ⟨by have := h.1; omega, fun i hi => ?_⟩
  rw [hlen] at hi
  rw [getD_ins i hle, getD_ins (i - 1) hle]
  have hat : posL l x < l.length → 0 < cmpL (l.getD (posL l x) default) x := fun hp => by
    have h0 := posL_at l x hp
    have : cmpL (l.getD (posL l x) default) x ≠ 0 := fun e => hf (foundL_spec.2 ⟨hp, cmpL_eq.1 e⟩)
    omega
  constructor
  · split
    · exact (h.2 i (by omega)).1
    · split
      · exact hx
      · exact (h.2 (i - 1) (by omega)).1
  · intro h0
    by_cases e1 : i < posL l x
    · rw [if_pos e1, if_pos (by omega)]; exact (h.2 i (by omega)).2 h0
    · rw [if_neg e1]
      by_cases e2 : i = posL l x
      · rw [if_pos e2, if_pos (by omega)]
        exact posL_lt l x _ (by omega)
      · rw [if_neg e2]
        by_cases e3 : i - 1 = posL l x
        · rw [if_neg (by omega), if_pos e3, e3]
          have := hat (by omega)
          have := cmpL_swap x (l.getD (posL l x) default)
          omega
        · rw [if_neg (by omega), if_neg e3]
          exact (h.2 (i - 1) (by omega)).2 (by omega)
theorem hit_iff {x : Lim} {a s : ByteArray} : hit x a s = true ↔ x.acc = a ∧ x.sym = s := by
  rw [hit, Bool.and_eq_true, beq_iff_eq, beq_iff_eq]
  exact ⟨fun h => ⟨ba_eq h.1, ba_eq h.2⟩, fun h => by rw [h.1, h.2]; exact ⟨rfl, rfl⟩⟩
theorem find_at {l : List Lim} (h : rightP l) {j : Nat} (hj : j < l.length) {a s : ByteArray} (ha : (l.getD j default).acc = a) (hs : (l.getD j default).sym = s) : findL l a s = (l.getD j default, true) := by
  have key : ∀ k, k ≤ j → (l.drop k).find? (fun x => hit x a s) = some (l.getD j default) := by
    intro k hk
    induction hd : j - k generalizing k with
    | zero =>
      obtain rfl : k = j := by omega
      rw [find_step l a s k hj, if_pos (hit_iff.2 ⟨ha, hs⟩)]
    | succ n ih =>
      rw [find_step l a s k (by omega), if_neg]
      · exact ih (k + 1) (by omega) (by omega)
      · intro hh
        have h1 := hit_iff.1 hh
        have h2 := sorted_of h k j (by omega) hj
        rw [cmpL_eq.2 ⟨by rw [h1.1, ha], by rw [h1.2, hs]⟩] at h2
        omega
  have := key 0 (by omega)
  rw [List.drop_zero] at this
  unfold findL
  rw [this]
end Eng
end Go.Proofs.Ytogenggejmbhjaa
