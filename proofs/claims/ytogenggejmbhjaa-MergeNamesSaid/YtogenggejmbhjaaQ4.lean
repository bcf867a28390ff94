/- Positions sorted in place: symMerge. -/
import Derived.Test.YtogenggejmbhjaaQ3
set_option autoImplicit false
set_option linter.unusedSimpArgs false
set_option linter.unusedVariables false
set_option maxRecDepth 100000
namespace Go.Proofs.Ytogenggejmbhjaa
namespace Eng
def srch (Q : Nat → Bool) (lo hi : Nat) : Nat :=
  if lo < hi then (if Q ((lo + hi) / 2) = true then srch Q ((lo + hi) / 2 + 1) hi else srch Q lo ((lo + hi) / 2)) else lo
termination_by hi - lo
decreasing_by all_goals omega
theorem srch_bd (Q : Nat → Bool) : ∀ (n lo hi : Nat), hi - lo ≤ n → lo ≤ hi → lo ≤ srch Q lo hi ∧ srch Q lo hi ≤ hi := by
  intro n
  induction n with
  | zero => intro lo hi h1 h2; rw [srch, if_neg (by omega)]; omega
  | succ n ih =>
    intro lo hi h1 h2
    rw [srch]
    split
    · split
      · have := ih ((lo + hi) / 2 + 1) hi (by omega) (by omega); omega
      · have := ih lo ((lo + hi) / 2) (by omega) (by omega); omega
    · omega
def shU : Nat → Nat → List Pos → List Pos
  | 0, _, l => l
  | c + 1, k, l => shU c (k + 1) (swp l k (k + 1))
def shD : Nat → Nat → List Pos → List Pos
  | 0, _, l => l
  | c + 1, k, l => shD c (k - 1) (swp l k (k - 1))
def symF (l : List Pos) (a m b : Nat) : List Pos :=
  if a < m ∧ m < b then
    if m - a = 1 then shU (srch (fun h => decide (cmpP (l.getD h default) (l.getD a default) < 0)) m b - 1 - a) a l else
    if b - m = 1 then shD (m - srch (fun h => !decide (cmpP (l.getD m default) (l.getD h default) < 0)) a m) m l else
    let mid := (a + b) / 2
    let start := srch (fun c => !decide (cmpP (l.getD (mid + m - 1 - c) default) (l.getD c default) < 0)) (if mid < m then mid + m - b else a) (if mid < m then mid else m)
    let l1 := if start < m ∧ m < mid + m - start then rotF m (m - start) (mid + m - start - m) l else l
    let l2 := if a < start ∧ start < mid then symF l1 a start mid else l1
    if mid < mid + m - start ∧ mid + m - start < b then symF l2 mid (mid + m - start) b else l2
  else l
termination_by b - a
decreasing_by all_goals omega
theorem rotF_len (m : Nat) : ∀ (n i j : Nat) (l : List Pos), i + j ≤ n → (rotF m i j l).length = l.length := by
  intro n
  induction n with
  | zero => intro i j l h; rw [rotF, if_pos (by omega)]
  | succ n ih =>
    intro i j l h
    rw [rotF]
    split
    · rfl
    · split
      · exact swR_len _ _ _ _ _
      · split
        · rw [ih _ _ _ (by omega), swR_len]
        · rw [ih _ _ _ (by omega), swR_len]
theorem shU_len : ∀ (c k : Nat) (l : List Pos), (shU c k l).length = l.length
  | 0, _, _ => rfl
  | c + 1, k, l => by unfold shU; rw [shU_len c, swp_len]
theorem shD_len : ∀ (c k : Nat) (l : List Pos), (shD c k l).length = l.length
  | 0, _, _ => rfl
  | c + 1, k, l => by unfold shD; rw [shD_len c, swp_len]
end Eng
end Go.Proofs.Ytogenggejmbhjaa
