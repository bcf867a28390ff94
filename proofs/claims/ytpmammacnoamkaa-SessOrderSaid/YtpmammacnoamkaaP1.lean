/- Reseq, plainly: single numbers that come in whatever order. -/
import Derived.Test.YtpmammacnoamkaaR4
set_option autoImplicit false
set_option linter.unusedSimpArgs false
set_option linter.unusedVariables false
namespace Go.Proofs.Ytpmammacnoamkaa
namespace Eng
def mk (m : Nat) : Itm := ⟨m, (m : Int) + 1, zM⟩
/-- Those that are there, from a number on. -/
def heldN (c : List Bool) (a : Nat) : List Itm :=
  if h : 61 ≤ a then [] else if c.getD a false = true then mk a :: heldN c (a + 1) else heldN c (a + 1)
termination_by 61 - a
theorem held_end (c : List Bool) {a : Nat} (h : 61 ≤ a) : heldN c a = [] := by rw [heldN]; simp [h]
theorem held_yes (c : List Bool) {a : Nat} (h : a < 61) (hc : c.getD a false = true) : heldN c a = mk a :: heldN c (a + 1) := by
  rw [heldN]; simp only [Nat.not_le.2 h, dite_false]; rw [if_pos hc]
theorem held_no (c : List Bool) {a : Nat} (h : a < 61) (hc : ¬ c.getD a false = true) : heldN c a = heldN c (a + 1) := by
  rw [heldN]; simp only [Nat.not_le.2 h, dite_false]; rw [if_neg hc]
/-- Downward. -/
theorem down {P : Nat → Prop} (h61 : ∀ a, 61 ≤ a → P a) (hs : ∀ a, a < 61 → P (a + 1) → P a) : ∀ a, P a := by
  intro a
  rcases Nat.lt_or_ge a 61 with h | h
  · have : ∀ k a, 61 - a = k → a ≤ 61 → P a := by
      intro k
      induction k with
      | zero => intro a h1 h2; exact h61 a (by omega)
      | succ k ih => intro a h1 h2; exact hs a (by omega) (ih (a + 1) (by omega) (by omega))
    exact this _ a rfl (by omega)
  · exact h61 a h
theorem held_len (c : List Bool) : ∀ a, (heldN c a).length ≤ 61 - a := by
  refine down (fun a h => by rw [held_end c h]; simp) (fun a h ih => ?_)
  by_cases hc : c.getD a false = true
  · rw [held_yes c h hc, List.length_cons]; omega
  · rw [held_no c h hc]; omega
theorem mk_may {m : Nat} (h1 : 1 ≤ m) (h2 : m ≤ 61) : mayI (mk m) = true := by
  simp only [mayI, Bool.and_eq_true, decide_eq_true_eq]
  refine ⟨⟨?_, ?_⟩, ?_⟩
  · show (1 : Int) ≤ (m : Int); omega
  · show (m : Int) < (m : Int) + 1; omega
  · show (m : Int) + 1 ≤ 2199023255552; omega
theorem held_chain (c : List Bool) : ∀ a : Nat, ∀ last : Int, 1 ≤ a → last < (a : Int) → chainI last (heldN c a) = true := by
  refine down (fun a h last _ _ => by rw [held_end c h]; rfl) (fun a h ih last h1 h2 => ?_)
  by_cases hc : c.getD a false = true
  · rw [held_yes c h hc, chainI, mk_may h1 (by omega), decide_eq_true (by show last < (a : Int); exact h2)]
    exact ih _ (by omega) (by show (a : Int) < ((a + 1 : Nat) : Int); omega)
  · rw [held_no c h hc]; exact ih last (by omega) (by omega)
theorem held_right (c : List Bool) {n : Nat} (h1 : 1 ≤ n) (h2 : n ≤ 61) : rightB n (heldN c (n + 1)) = true := by
  have := held_len c (n + 1)
  simp only [rightB, Bool.and_eq_true, decide_eq_true_eq]
  exact ⟨⟨⟨by omega, by omega⟩, by omega⟩, held_chain c (n + 1) n (by omega) (by omega)⟩
theorem posI_cons (y : Itm) (l : List Itm) (x : Itm) : posI (y :: l) x = if y.fr < x.fr then posI l x + 1 else 0 := by
  unfold posI
  rw [List.takeWhile_cons]
  by_cases h : y.fr < x.fr
  · rw [if_pos (by simpa using h), if_pos h]; rfl
  · rw [if_neg (by simpa using h), if_neg h]; rfl
def foundI (l : List Itm) (x : Itm) : Prop := posI l x < l.length ∧ (l.getD (posI l x) default).fr = x.fr
def insI (l : List Itm) (x : Itm) : List Itm := l.take (posI l x) ++ x :: l.drop (posI l x)
theorem found_lt {y : Itm} {l : List Itm} {x : Itm} (h : y.fr < x.fr) : foundI (y :: l) x ↔ foundI l x := by
  unfold foundI
  rw [posI_cons, if_pos h]
  simp
theorem found_ge {y : Itm} {l : List Itm} {x : Itm} (h : ¬ y.fr < x.fr) : foundI (y :: l) x ↔ y.fr = x.fr := by
  unfold foundI
  rw [posI_cons, if_neg h]
  simp
theorem ins_lt {y : Itm} {l : List Itm} {x : Itm} (h : y.fr < x.fr) : insI (y :: l) x = y :: insI l x := by
  unfold insI
  rw [posI_cons, if_pos h]
  simp
theorem ins_ge {y : Itm} {l : List Itm} {x : Itm} (h : ¬ y.fr < x.fr) : insI (y :: l) x = x :: y :: l := by
  unfold insI
  rw [posI_cons, if_neg h]
  simp
theorem held_head (c : List Bool) : ∀ a, ∀ y l, heldN c a = y :: l → (a : Int) ≤ y.fr := by
  refine down (fun a h y l e => by rw [held_end c h] at e; cases e) (fun a h ih y l e => ?_)
  by_cases hc : c.getD a false = true
  · rw [held_yes c h hc] at e; cases e; exact Int.le_refl _
  · rw [held_no c h hc] at e; have := ih y l e; omega
theorem getD_setB (c : List Bool) (n j : Nat) (b : Bool) (h : n < c.length) : (c.set n b).getD j false = if j = n then b else c.getD j false := by
  simp only [List.getD_eq_getElem?_getD, List.getElem?_set]
  split
  · rename_i e; subst e; rw [if_pos rfl]; simp [h]
  · rename_i e; rw [if_neg (fun e2 => e e2.symm)]
theorem held_set (c : List Bool) (n : Nat) (hl : n < c.length) : ∀ a, n < a → heldN (c.set n true) a = heldN c a := by
  refine down (fun a h _ => by rw [held_end _ h, held_end _ h]) (fun a h ih hn => ?_)
  have e : (c.set n true).getD a false = c.getD a false := by rw [getD_setB c n a true hl, if_neg (by omega)]
  by_cases hc : c.getD a false = true
  · rw [held_yes c h hc, held_yes _ h (by rw [e]; exact hc), ih (by omega)]
  · rw [held_no c h hc, held_no _ h (by rw [e]; exact hc), ih (by omega)]
theorem held_found (c : List Bool) (n : Nat) (hn : n < 61) (hc : c.getD n false = true) : ∀ a, a ≤ n → foundI (heldN c a) (mk n) := by
  refine down (fun a h h1 => by omega) (fun a h ih h1 => ?_)
  by_cases ha : c.getD a false = true
  · rw [held_yes c h ha]
    rcases Nat.lt_or_eq_of_le h1 with h2 | rfl
    · exact (found_lt (by show (a : Int) < n; omega)).2 (ih (by omega))
    · exact (found_ge (by show ¬ (a : Int) < a; omega)).2 rfl
  · rw [held_no c h ha]
    rcases Nat.lt_or_eq_of_le h1 with h2 | rfl
    · exact ih (by omega)
    · exact absurd hc ha
theorem held_ins (c : List Bool) (n : Nat) (hn : n < 61) (hl : n < c.length) (hc : ¬ c.getD n false = true) : ∀ a, a ≤ n → ¬ foundI (heldN c a) (mk n) ∧ insI (heldN c a) (mk n) = heldN (c.set n true) a := by
  refine down (fun a h h1 => by omega) (fun a h ih h1 => ?_)
  by_cases ha : c.getD a false = true
  · rcases Nat.lt_or_eq_of_le h1 with h2 | rfl
    · have e : (c.set n true).getD a false = true := by rw [getD_setB c n a true hl, if_neg (by omega)]; exact ha
      rw [held_yes c h ha, held_yes _ h e]
      have hlt : (mk a).fr < (mk n).fr := by show (a : Int) < n; omega
      obtain ⟨i1, i2⟩ := ih (by omega)
      exact ⟨fun hf => i1 ((found_lt hlt).1 hf), by rw [ins_lt hlt, i2]⟩
    · exact absurd ha hc
  · rcases Nat.lt_or_eq_of_le h1 with h2 | rfl
    · have e : ¬ (c.set n true).getD a false = true := by rw [getD_setB c n a true hl, if_neg (by omega)]; exact ha
      rw [held_no c h ha, held_no _ h e]
      exact ih (by omega)
    · have e : (c.set a true).getD a false = true := by rw [getD_setB c a a true hl, if_pos rfl]
      rw [held_no c h ha, held_yes _ h e, held_set c a hl (a + 1) (by omega)]
      cases hh : heldN c (a + 1) with
      | nil => exact ⟨fun hf => absurd hf.1 (by simp [posI]), rfl⟩
      | cons y l =>
        have := held_head c (a + 1) y l hh
        have hge : ¬ y.fr < (mk a).fr := by show ¬ y.fr < (a : Int); omega
        exact ⟨fun hf => by have := (found_ge hge).1 hf; have : y.fr = (a : Int) := this; omega, ins_ge hge⟩
/-- Items of the numbers from a on, ahead of b. -/
def itemsN (a b : Nat) : List Itm := (List.range' a (b - a)).map mk
theorem items_none (a : Nat) : itemsN a a = [] := by simp [itemsN]
theorem items_cons {a b : Nat} (h : a < b) : itemsN a b = mk a :: itemsN (a + 1) b := by
  unfold itemsN
  rw [show b - a = (b - (a + 1)) + 1 by omega, List.range'_succ]
  rfl
theorem items_len (a b : Nat) : (itemsN a b).length = b - a := by simp [itemsN]
theorem items_get {a b j : Nat} (h : j < b - a) : (itemsN a b).getD j default = mk (a + j) := by
  unfold itemsN
  rw [List.getD_eq_getElem?_getD, List.getElem?_map, List.getElem?_range' (by omega)]
  simp
/-- What is told, once the next number is a. -/
theorem held_drain (c : List Bool) : ∀ a, a ≤ 61 → ∃ N, a ≤ N ∧ N ≤ 61 ∧ (∀ m, a ≤ m → m < N → c.getD m false = true) ∧ (N < 61 → ¬ c.getD N false = true) ∧ drain a (heldN c a) = (itemsN a N, (N : Int), heldN c (N + 1)) := by
  refine down (fun a h h1 => ?_) (fun a h ih _ => ?_)
  · obtain rfl : a = 61 := by omega
    exact ⟨61, Nat.le_refl _, Nat.le_refl _, fun m h1 h2 => by omega, fun h => by omega, by rw [held_end c h, held_end c (by omega), items_none]; rfl⟩
  · by_cases hc : c.getD a false = true
    · obtain ⟨N, h1, h2, h3, h4, h5⟩ := ih (by omega)
      refine ⟨N, by omega, h2, fun m hm1 hm2 => ?_, h4, ?_⟩
      · rcases Nat.lt_or_eq_of_le hm1 with h | rfl
        · exact h3 m (by omega) hm2
        · exact hc
      · rw [held_yes c h hc, drain, if_pos (show (mk a).fr ≤ (a : Int) from Int.le_refl _), if_pos (by show (a : Int) < (a : Int) + 1; omega)]
        have e : (mk a).to = ((a + 1 : Nat) : Int) := by show (a : Int) + 1 = _; omega
        rw [e, h5, items_cons (a := a) (b := N) (by omega)]
    · refine ⟨a, Nat.le_refl _, by omega, fun m h1 h2 => by omega, fun _ => hc, ?_⟩
      rw [held_no c h hc, items_none]
      cases hh : heldN c (a + 1) with
      | nil => rfl
      | cons y l =>
        have := held_head c (a + 1) y l hh
        rw [drain, if_neg (by omega)]
theorem keepS_found {l : List Itm} {x : Itm} (h : foundI l x) : keepS l x = (l, 3) := by unfold keepS; exact if_pos h
theorem keepS_full {l : List Itm} {x : Itm} (h : ¬ foundI l x) (hl : 64 ≤ l.length) : keepS l x = (l, 4) := by unfold keepS; exact (if_neg h).trans (if_pos hl)
theorem keepS_ins {l : List Itm} {x : Itm} (h : ¬ foundI l x) (hl : ¬ 64 ≤ l.length) : keepS l x = (insI l x, 2) := by unfold keepS; exact (if_neg h).trans (if_neg hl)
/-- Those that came, and the next number. -/
structure InvN (c : List Bool) (n : Nat) : Prop where
  len : c.length = 61
  lo : 1 ≤ n
  hi : n ≤ 61
  yes : ∀ m, 1 ≤ m → m < n → c.getD m false = true
  no : n < 61 → ¬ c.getD n false = true
theorem step_n {c : List Bool} {n k : Nat} (hI : InvN c n) (h1 : 1 ≤ k) (h2 : k ≤ 60) : ∃ (N : Nat) (code : Int), n ≤ N ∧ InvN (c.set k true) N ∧ comeS n (heldN c (n + 1)) (mk k) = (((N : Int), heldN (c.set k true) (N + 1)), itemsN n N, code) ∧
    (code = 1 ∨ code = 2 ∨ code = 3) ∧ (code = 3 ↔ c.getD k false = true) ∧ (code = 1 ↔ n < N) := by
  obtain ⟨hl, lo, hi, yes, no⟩ := hI
  have hright := held_right c lo hi
  have hmay := mk_may (m := k) h1 (by omega)
  have base : comeS n (heldN c (n + 1)) (mk k) = if (mk k).to ≤ n then (((n : Int), heldN c (n + 1)), [], 3) else if (n : Int) < (mk k).fr then (((n : Int), (keepS (heldN c (n + 1)) (mk k)).1), [], (keepS (heldN c (n + 1)) (mk k)).2) else
      (((drain (mk k).to (heldN c (n + 1))).2.1, (drain (mk k).to (heldN c (n + 1))).2.2), mk k :: (drain (mk k).to (heldN c (n + 1))).1, 1) := by
    rw [comeS, if_neg (fun h => h ⟨hright, hmay⟩)]
  have hk : k < c.length := by omega
  have same : c.getD k false = true → c.set k true = c := fun h => by
    apply List.ext_getElem?
    intro j
    rw [List.getElem?_set]
    split
    · rename_i e; subst e
      rw [List.getD_eq_getElem?_getD, List.getElem?_eq_getElem hk] at h
      rw [List.getElem?_eq_getElem hk]
      exact congrArg some h.symm
    · rfl
  rcases Nat.lt_trichotomy k n with hkn | rfl | hkn
  · have hc := yes k h1 hkn
    rw [same hc]
    refine ⟨n, 3, Nat.le_refl _, ⟨hl, lo, hi, yes, no⟩, ?_, .inr (.inr rfl), ⟨fun _ => hc, fun _ => rfl⟩, ⟨fun h => absurd h (by decide), fun h => by omega⟩⟩
    rw [base, if_pos (by show (k : Int) + 1 ≤ n; omega), items_none]
  · have hc := no (by omega)
    have ec : heldN (c.set k true) (k + 1) = heldN c (k + 1) := held_set c k hk (k + 1) (by omega)
    obtain ⟨N, g1, g2, g3, g4, g5⟩ := held_drain (c.set k true) (k + 1) (by omega)
    refine ⟨N, 1, by omega, ⟨by simpa using hl, by omega, g2, fun m m1 m2 => ?_, fun h => g4 h⟩, ?_, .inl rfl, ⟨fun h => absurd h (by decide), fun h => absurd h hc⟩, ⟨fun _ => by omega, fun _ => rfl⟩⟩
    · rcases Nat.lt_or_ge m (k + 1) with h | h
      · rw [getD_setB c k m true hk]
        split
        · rfl
        · exact yes m m1 (by omega)
      · exact g3 m h m2
    · have e : (mk k).to = ((k + 1 : Nat) : Int) := by show (k : Int) + 1 = _; omega
      rw [base, if_neg (by show ¬ (k : Int) + 1 ≤ k; omega), if_neg (by show ¬ (k : Int) < k; omega), e, ← ec, g5, items_cons (a := k) (b := N) (by omega)]
  · have e1 : ¬ (mk k).to ≤ n := by show ¬ (k : Int) + 1 ≤ n; omega
    have e2 : (n : Int) < (mk k).fr := by show (n : Int) < k; omega
    rw [base, if_neg e1, if_pos e2]
    by_cases hc : c.getD k false = true
    · have hf := held_found c k (by omega) hc (n + 1) (by omega)
      rw [same hc]
      refine ⟨n, 3, Nat.le_refl _, ⟨hl, lo, hi, yes, no⟩, ?_, .inr (.inr rfl), ⟨fun _ => hc, fun _ => rfl⟩, ⟨fun h => absurd h (by decide), fun h => by omega⟩⟩
      rw [keepS_found hf, items_none]
    · obtain ⟨hf, hi2⟩ := held_ins c k (by omega) hk hc (n + 1) (by omega)
      have hlen := held_len c (n + 1)
      refine ⟨n, 2, Nat.le_refl _, ⟨by simpa using hl, lo, hi, fun m m1 m2 => by rw [getD_setB c k m true hk, if_neg (by omega)]; exact yes m m1 m2, fun h => by rw [getD_setB c k n true hk, if_neg (by omega)]; exact no h⟩, ?_, .inr (.inl rfl), ⟨fun h => absurd h (by decide), fun h => absurd h hc⟩, ⟨fun h => absurd h (by decide), fun h => by omega⟩⟩
      rw [keepS_ins hf (by omega), items_none, hi2]
end Eng
end Go.Proofs.Ytpmammacnoamkaa
