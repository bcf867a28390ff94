/- SessFills, plainly. -/
import Derived.Test.YtpmammacnoamkaaM9
set_option autoImplicit false
set_option linter.unusedSimpArgs false
set_option linter.unusedVariables false
set_option maxRecDepth 100000
namespace Go.Proofs.Ytpmammacnoamkaa
namespace Eng
def hold (P : Nat → Bool) (f : Nat → Msg) : Nat → Nat → List Itm
  | _, 0 => []
  | a, c + 1 => if P a = true then ⟨a, (a : Int) + 1, f a⟩ :: hold P f (a + 1) c else hold P f (a + 1) c
def runN (P : Nat → Bool) : Nat → Nat → Nat
  | _, 0 => 0
  | a, c + 1 => if P a = true then runN P (a + 1) c + 1 else 0
theorem run_le (P : Nat → Bool) : ∀ c a, runN P a c ≤ c
  | 0, _ => Nat.le_refl _
  | c + 1, a => by
    unfold runN
    have := run_le P c (a + 1)
    split <;> omega
theorem run_all (P : Nat → Bool) : ∀ c a k, k < runN P a c → P (a + k) = true
  | 0, a, k, h => by simp [runN] at h
  | c + 1, a, k, h => by
    unfold runN at h
    split at h
    · rename_i hp
      cases k with
      | zero => exact hp
      | succ k =>
        have := run_all P c (a + 1) k (by omega)
        rw [show a + (k + 1) = a + 1 + k by omega]; exact this
    · omega
theorem run_stop (P : Nat → Bool) : ∀ c a, runN P a c < c → P (a + runN P a c) = false
  | 0, a, h => by omega
  | c + 1, a, h => by
    unfold runN at h ⊢
    split at h
    · rename_i hp
      rw [if_pos hp]
      have := run_stop P c (a + 1) (by omega)
      rw [show a + (runN P (a + 1) c + 1) = a + 1 + runN P (a + 1) c by omega]; exact this
    · rename_i hp
      rw [if_neg hp]
      simpa using hp
variable {P : Nat → Bool} {f : Nat → Msg}
theorem hold_len : ∀ (c a : Nat), (hold P f a c).length ≤ c
  | 0, _ => Nat.le_refl _
  | c + 1, a => by
    have := hold_len c (a + 1)
    unfold hold
    split
    · simp; omega
    · omega
theorem hold_chain (c : Nat) : ∀ (a : Nat) (last : Int), last < a → 1 ≤ a → a + c ≤ 1000 → chainI last (hold P f a c) = true := by
  induction c with
  | zero => intros; rfl
  | succ c ih =>
    intro a last h1 h2 h3
    unfold hold
    split
    · exact chainI_cons.2 ⟨mayI_iff.2 ⟨by show 1 ≤ (a : Int); omega, by show (a : Int) < a + 1; omega, by show (a : Int) + 1 ≤ 2199023255552; omega⟩, h1, ih (a + 1) a (by omega) (by omega) (by omega)⟩
    · exact ih (a + 1) last (by omega) (by omega) (by omega)
theorem hold_keep : ∀ (c a : Nat) (x : Itm), (a : Int) + c ≤ x.fr → ¬ foundI (hold P f a c) x ∧ insI (hold P f a c) x = hold P f a c ++ [x]
  | 0, a, x, _ => ⟨fun h => absurd h.1 (by simp [hold]), rfl⟩
  | c + 1, a, x, h => by
    obtain ⟨h1, h2⟩ := hold_keep c (a + 1) x (by omega)
    unfold hold
    split
    · have hlt : (⟨a, (a : Int) + 1, f a⟩ : Itm).fr < x.fr := by show (a : Int) < x.fr; omega
      exact ⟨fun hf => h1 ((found_lt hlt).1 hf), by rw [ins_lt hlt, h2]; rfl⟩
    · exact ⟨h1, h2⟩
theorem hold_snoc : ∀ (c a : Nat), hold P f a (c + 1) = hold P f a c ++ if P (a + c) = true then [⟨((a + c : Nat) : Int), ((a + c : Nat) : Int) + 1, f (a + c)⟩] else []
  | 0, a => by
    show hold P f a 1 = hold P f a 0 ++ _
    simp only [hold, Nat.add_zero, List.nil_append]
  | c + 1, a => by
    have := hold_snoc c (a + 1)
    rw [hold, this, show a + 1 + c = a + (c + 1) by omega]
    rw [show hold P f a (c + 1) = if P a = true then ⟨a, (a : Int) + 1, f a⟩ :: hold P f (a + 1) c else hold P f (a + 1) c from rfl]
    split <;> rfl
theorem hold_split : ∀ (d a c : Nat), d ≤ c → hold P f a c = hold P f a d ++ hold P f (a + d) (c - d)
  | 0, a, c, _ => by simp [hold]
  | d + 1, a, 0, h => by omega
  | d + 1, a, c + 1, h => by
    have := hold_split d (a + 1) c (by omega)
    rw [show hold P f a (c + 1) = if P a = true then ⟨a, (a : Int) + 1, f a⟩ :: hold P f (a + 1) c else hold P f (a + 1) c from rfl,
      show hold P f a (d + 1) = if P a = true then ⟨a, (a : Int) + 1, f a⟩ :: hold P f (a + 1) d else hold P f (a + 1) d from rfl, this,
      show a + 1 + d = a + (d + 1) by omega, show c + 1 - (d + 1) = c - d by omega]
    split <;> rfl
/-- The head of what is held lies behind what is next. -/
theorem hold_fr : ∀ (c a : Nat) {y : Itm} {l : List Itm}, hold P f a c = y :: l → ∃ q, a ≤ q ∧ q < a + c ∧ y.fr = (q : Int) ∧ P q = true ∧ ∀ k, a ≤ k → k < q → P k = false
  | 0, a, y, l, h => by simp [hold] at h
  | c + 1, a, y, l, h => by
    unfold hold at h
    split at h
    · rename_i hp
      simp only [List.cons.injEq] at h
      exact ⟨a, Nat.le_refl _, by omega, by rw [← h.1], hp, fun k h1 h2 => by omega⟩
    · rename_i hp
      obtain ⟨q, h1, h2, h3, h4, h5⟩ := hold_fr c (a + 1) h
      refine ⟨q, by omega, by omega, h3, h4, fun k k1 k2 => ?_⟩
      rcases Nat.lt_or_eq_of_le k1 with h | rfl
      · exact h5 k h k2
      · simpa using hp
theorem hold_drain : ∀ (c a : Nat), drain a (hold P f a c) = (hold P f a (runN P a c), ((a + runN P a c : Nat) : Int), hold P f (a + runN P a c) (c - runN P a c))
  | 0, a => by simp [hold, drain, runN]
  | c + 1, a => by
    by_cases hp : P a = true
    · have ih := hold_drain c (a + 1)
      rw [show hold P f a (c + 1) = ⟨a, (a : Int) + 1, f a⟩ :: hold P f (a + 1) c by rw [hold, if_pos hp], show runN P a (c + 1) = runN P (a + 1) c + 1 by rw [runN, if_pos hp]]
      rw [drain, if_pos (show (⟨a, (a : Int) + 1, f a⟩ : Itm).fr ≤ a from Int.le_refl _), if_pos (show (a : Int) < a + 1 by omega)]
      have e : ((a : Int) + 1) = ((a + 1 : Nat) : Int) := by omega
      show (_ :: (drain ((a : Int) + 1) (hold P f (a + 1) c)).1, (drain ((a : Int) + 1) (hold P f (a + 1) c)).2.1, (drain ((a : Int) + 1) (hold P f (a + 1) c)).2.2) = _
      rw [e, ih]
      rw [show hold P f a (runN P (a + 1) c + 1) = ⟨a, (a : Int) + 1, f a⟩ :: hold P f (a + 1) (runN P (a + 1) c) by rw [hold, if_pos hp], show a + 1 + runN P (a + 1) c = a + (runN P (a + 1) c + 1) by omega, show c + 1 - (runN P (a + 1) c + 1) = c - runN P (a + 1) c by omega]
      rfl
    · rw [show runN P a (c + 1) = 0 by rw [runN, if_neg hp]]
      simp only [Nat.add_zero, Nat.sub_zero]
      rw [show hold P f a 0 = [] from rfl]
      cases hh : hold P f a (c + 1) with
      | nil => rfl
      | cons y l =>
        obtain ⟨q, h1, h2, h3, h4, h5⟩ := hold_fr (c + 1) a hh
        rw [drain, if_neg]
        rw [h3]
        intro hle
        have : q = a := by omega
        subst this
        exact hp h4
end Eng
end Go.Proofs.Ytpmammacnoamkaa
