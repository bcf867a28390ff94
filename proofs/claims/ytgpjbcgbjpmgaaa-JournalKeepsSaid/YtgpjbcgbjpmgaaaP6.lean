/- Records, one behind the other: All reads what was written. -/
import Derived.Test.YtgpjbcgbjpmgaaaP9
set_option autoImplicit false
set_option linter.unusedSimpArgs false
set_option linter.unusedVariables false
set_option maxRecDepth 100000
namespace Go.Proofs.Ytgpjbcgbjpmgaaa
namespace Eng
theorem all_nil : all [] = ([], 0) := all_no (n := 0) (e := 2) (r := []) (by rfl) (by decide)
/-- The records' bytes, one behind the other. -/
abbrev puts (l : List (List Int)) : List (List Int) := l.map put
/-- Where the records end. -/
def ends (l : List (List Int)) (i : Nat) : List Int := (List.range (i + 1)).map fun k => (tot (puts l) k : Int)
theorem ends_len (l : List (List Int)) (i : Nat) : (ends l i).length = i + 1 := by simp [ends]
theorem ends_succ (l : List (List Int)) (i : Nat) : ends l i ++ [(tot (puts l) (i + 1) : Int)] = ends l (i + 1) := by
  rw [ends, ends, List.range_succ (n := i + 1), List.map_append]; rfl
theorem ends_get (l : List (List Int)) (i k : Nat) (h : k ≤ i) : (ends l i).getD k 0 = tot (puts l) k := by
  simp [ends, List.getD_eq_getElem?_getD, show k < i + 1 by omega]
theorem take_ss (l : List (List Int)) (i : Nat) : (l.map fun x => [sB x]).take i = (l.take i).map fun x => [sB x] := List.map_take.symm
theorem puts_get (l : List (List Int)) (i : Nat) (h : i < l.length) : (puts l).getD i default = put (l.getD i default) := by
  simp [List.getD_eq_getElem?_getD, h]
theorem all_puts (l : List (List Int)) (rest : List Int) (h : ∀ r, r ∈ l → 1 ≤ r.length ∧ r.length ≤ 4096) : all ((puts l).flatten ++ rest) = (l ++ (all rest).1, (puts l).flatten.length + (all rest).2) := by
  induction l with
  | nil => simp
  | cons r l ih =>
    have hr := h r (List.mem_cons_self ..)
    have e : (puts (r :: l)).flatten ++ rest = put r ++ ((puts l).flatten ++ rest) := by simp
    have hd6 : ∀ x : List Int, (put r ++ x).drop (6 + (r.length : Int)).toNat = x := fun x => by
      rw [show (6 + (r.length : Int)).toNat = (put r).length by rw [put_len]; omega, List.drop_left]
    rw [e, all_ok (next_put r _ hr.1 hr.2), hd6, ih fun r hr => h r (List.mem_cons_of_mem _ hr)]
    simp only [List.cons_append, List.map_cons, List.flatten_cons, List.length_append, put_len]
    rw [show (6 + (r.length : Int)).toNat = 6 + r.length by omega]
    simp only [Prod.mk.injEq, true_and]
    exact Nat.add_assoc _ _ _ ▸ rfl
/-- Cut anywhere, all whole records are told. -/
theorem all_cut (l : List (List Int)) (w p : Nat) (h : ∀ r, r ∈ l → 1 ≤ r.length ∧ r.length ≤ 4096) (hw : w ≤ l.length) (h1 : tot (puts l) w ≤ p) (h2 : w < l.length → p < tot (puts l) (w + 1)) (h3 : p ≤ (puts l).flatten.length) : all ((puts l).flatten.take p) = (l.take w, tot (puts l) w) := by
  have hs : (puts l).flatten = (puts (l.take w)).flatten ++ (puts (l.drop w)).flatten := by
    rw [← List.flatten_append, ← List.map_append, List.take_append_drop]
  have ht : tot (puts l) w = (puts (l.take w)).flatten.length := by rw [tot, puts, puts, List.map_take]
  have e : (puts l).flatten.take p = (puts (l.take w)).flatten ++ ((puts (l.drop w)).flatten).take (p - tot (puts l) w) := by
    rw [hs, List.take_append, ← ht, List.take_of_length_le (by omega)]
  have hn : all (((puts (l.drop w)).flatten).take (p - tot (puts l) w)) = ([], 0) := by
    by_cases hwl : w < l.length
    · have hg := h2 hwl
      have hr : 1 ≤ (l.getD w default).length ∧ (l.getD w default).length ≤ 4096 := by
        apply h
        rw [List.getD_eq_getElem?_getD, List.getElem?_eq_getElem hwl]
        exact List.getElem_mem hwl
      rw [tot_succ _ _ (by simpa using hwl), puts_get _ _ hwl] at hg
      have ed : l.drop w = l.getD w default :: l.drop (w + 1) := by
        rw [List.getD_eq_getElem?_getD, List.getElem?_eq_getElem hwl]; exact List.drop_eq_getElem_cons hwl
      rw [ed]
      generalize l.getD w default = r at hr hg
      have e2 : ((puts (r :: l.drop (w + 1))).flatten).take (p - tot (puts l) w) = (put r).take (p - tot (puts l) w) := by
        rw [show (puts (r :: l.drop (w + 1))).flatten = put r ++ (puts (l.drop (w + 1))).flatten by simp, List.take_append_of_le_length (by omega)]
      rw [e2]
      exact all_no (next_cut r _ hr.1 hr.2 (by rw [put_len] at hg; omega)) (by decide)
    · rw [List.drop_eq_nil_of_le (by omega)]
      rw [show (puts ([] : List (List Int))).flatten = [] from rfl, List.take_nil]; exact all_nil
  rw [e, all_puts _ _ fun r hr => h r (List.mem_of_mem_take hr), hn, ht, List.append_nil, Nat.add_zero]
theorem byt_puts (l : List (List Int)) (h : ∀ r, r ∈ l → Byt r) : Byt (puts l).flatten := by
  induction l with
  | nil => exact byt_nil
  | cons r l ih =>
    rw [show (puts (r :: l)).flatten = put r ++ (puts l).flatten by simp]
    exact byt_app (byt_put (h r (List.mem_cons_self ..))) (ih fun r hr => h r (List.mem_cons_of_mem _ hr))
theorem tot_le100 (l : List (List Int)) (k : Nat) (h : ∀ j, j < k → j < l.length → (l.getD j default).length ≤ 100) (hk : k ≤ l.length) : tot (puts l) k ≤ k * 106 := by
  induction k with
  | zero => simp [tot]
  | succ k ih =>
    have := ih (fun j h1 h2 => h j (by omega) h2) (by omega)
    have h1 := h k (by omega) (by omega)
    rw [tot_succ _ _ (by simp; omega), puts_get _ _ (by omega), put_len]
    omega
theorem all_len (b : List Int) : (all b).1.length ≤ b.length := by
  generalize hn : b.length = n
  induction n using Nat.strongRecOn generalizing b with
  | ind n ih =>
    obtain ⟨⟨r, m, e⟩, hnx⟩ : ∃ q, next b = q := ⟨_, rfl⟩
    by_cases he : e = 0
    · subst he
      have hp := next_pos _ _ _ _ hnx
      have := hp.1 rfl
      rw [all_ok hnx]
      have := ih (b.drop m.toNat).length (by rw [List.length_drop]; omega) _ rfl
      rw [List.length_drop] at this
      simp only [List.length_cons]
      omega
    · rw [all_no hnx he]; simp
end Eng
end Go.Proofs.Ytgpjbcgbjpmgaaa
