/- The order of limits' names is a strict one. -/
import Derived.Test.YtogenggejmbhjaaM1
set_option autoImplicit false
set_option linter.unusedSimpArgs false
set_option linter.unusedVariables false
namespace Go.Proofs.Ytogenggejmbhjaa
namespace Eng
theorem bl_irr (a : List UInt8) : Op.bytesLess a a = false := by
  induction a with
  | nil => rfl
  | cons x xs ih => simp [Op.bytesLess, ih]
theorem bl_trans (a b c : List UInt8) (h1 : Op.bytesLess a b = true) (h2 : Op.bytesLess b c = true) : Op.bytesLess a c = true := by
  induction a generalizing b c with
  | nil =>
    cases b with
    | nil => exact h2
    | cons y ys =>
      cases c with
      | nil => simp [Op.bytesLess] at h2
      | cons z zs => simp [Op.bytesLess]
  | cons x xs ih =>
    cases b with
    | nil => simp [Op.bytesLess] at h1
    | cons y ys =>
      cases c with
      | nil => simp [Op.bytesLess] at h2
      | cons z zs =>
        simp only [Op.bytesLess, Bool.or_eq_true, Bool.and_eq_true, decide_eq_true_eq, beq_iff_eq] at h1 h2 ⊢
        rcases h1 with h1 | ⟨rfl, h1⟩
        · rcases h2 with h2 | ⟨rfl, h2⟩
          · exact .inl (UInt8.lt_trans h1 h2)
          · exact .inl h1
        · rcases h2 with h2 | ⟨rfl, h2⟩
          · exact .inl h2
          · exact .inr ⟨rfl, ih _ _ h1 h2⟩
theorem bl_total (a b : List UInt8) : Op.bytesLess a b = true ∨ a = b ∨ Op.bytesLess b a = true := by
  induction a generalizing b with
  | nil => cases b with
    | nil => exact .inr (.inl rfl)
    | cons y ys => exact .inl (by simp [Op.bytesLess])
  | cons x xs ih => cases b with
    | nil => exact .inr (.inr (by simp [Op.bytesLess]))
    | cons y ys =>
      simp only [Op.bytesLess, Bool.or_eq_true, Bool.and_eq_true, decide_eq_true_eq, beq_iff_eq]
      by_cases hxy : x = y
      · subst hxy
        rcases ih ys with h | rfl | h
        · exact .inl (.inr ⟨rfl, h⟩)
        · exact .inr (.inl rfl)
        · exact .inr (.inr (.inr ⟨rfl, h⟩))
      · rcases UInt8.lt_or_lt_of_ne hxy with h | h
        · exact .inl (.inl h)
        · exact .inr (.inr (.inl h))
theorem bl_asym (a b : List UInt8) (h : Op.bytesLess a b = true) : Op.bytesLess b a = false := by
  cases hb : Op.bytesLess b a with
  | false => rfl
  | true =>
    have := bl_trans a b a h hb
    rw [bl_irr] at this
    cases this
theorem ba_eq {a b : ByteArray} (h : a.data.toList = b.data.toList) : a = b := by
  cases a with | mk a => cases b with | mk b => cases a; cases b; simp_all
theorem cmpS_lt {a b : ByteArray} : cmpS a b < 0 ↔ Op.bytesLess a.data.toList b.data.toList = true := by
  unfold cmpS
  by_cases h : Op.bytesLess a.data.toList b.data.toList = true
  · rw [if_pos h]; simp [h]
  · rw [if_neg h]; split <;> simp [h]
theorem cmpS_eq {a b : ByteArray} : cmpS a b = 0 ↔ a = b := by
  unfold cmpS
  constructor
  · intro h
    split at h
    · cases h
    · rename_i h1
      split at h
      · cases h
      · rename_i h2
        simp only [Bool.not_eq_true', Bool.not_eq_false, Bool.or_eq_true, beq_iff_eq] at h2
        rcases h2 with h2 | h2
        · exact absurd h2 h1
        · exact ba_eq h2
  · rintro rfl
    rw [if_neg (by rw [bl_irr]; decide), if_neg (by simp)]
theorem cmpS_cases (a b : ByteArray) : (cmpS a b = -1 ∧ cmpS b a = 1) ∨ (cmpS a b = 0 ∧ a = b) ∨ (cmpS a b = 1 ∧ cmpS b a = -1) := by
  rcases bl_total a.data.toList b.data.toList with h | h | h
  · left
    have h2 := bl_asym _ _ h
    unfold cmpS
    rw [if_pos h, if_neg (by rw [h2]; decide), if_pos]
    · exact ⟨rfl, rfl⟩
    · rw [h2, Bool.false_or, Bool.not_eq_true', beq_eq_false_iff_ne]
      intro e; rw [e, bl_irr] at h; cases h
  · have := ba_eq h
    exact .inr (.inl ⟨cmpS_eq.2 this, this⟩)
  · right; right
    have h2 := bl_asym _ _ h
    unfold cmpS
    rw [if_neg (by rw [h2]; decide), if_pos h, if_pos]
    · exact ⟨rfl, rfl⟩
    · rw [h2, Bool.false_or, Bool.not_eq_true', beq_eq_false_iff_ne]
      intro e; rw [e, bl_irr] at h; cases h
/-- Have two limits the same names? -/
def sameN (a b : Lim) : Prop := a.acc = b.acc ∧ a.sym = b.sym
theorem cmpL_eq {a b : Lim} : cmpL a b = 0 ↔ sameN a b := by
  unfold cmpL sameN
  by_cases h : cmpS a.acc b.acc = 0
  · rw [if_neg (fun x => x h), cmpS_eq, ← cmpS_eq (a := a.acc)]; exact ⟨fun x => ⟨h, x⟩, fun x => x.2⟩
  · rw [if_pos h]; exact ⟨fun x => absurd x h, fun x => absurd (cmpS_eq.2 x.1) h⟩
theorem cmpL_swap (a b : Lim) : cmpL b a = - cmpL a b := by
  unfold cmpL
  rcases cmpS_cases a.acc b.acc with ⟨h1, h2⟩ | ⟨h1, h2⟩ | ⟨h1, h2⟩
  · rw [if_pos (by omega), if_pos (by omega)]; omega
  · have h3 : cmpS b.acc a.acc = 0 := cmpS_eq.2 h2.symm
    rw [if_neg (by omega), if_neg (by omega)]
    rcases cmpS_cases a.sym b.sym with ⟨h1, h2⟩ | ⟨h1, h2⟩ | ⟨h1, h2⟩
    · omega
    · have := cmpS_eq.2 h2.symm; omega
    · omega
  · rw [if_pos (by omega), if_pos (by omega)]; omega
theorem cmpL_trans {a b c : Lim} (h1 : cmpL a b < 0) (h2 : cmpL b c < 0) : cmpL a c < 0 := by
  have tr : ∀ {x y z : ByteArray}, cmpS x y < 0 → cmpS y z < 0 → cmpS x z < 0 := fun h1 h2 => cmpS_lt.2 (bl_trans _ _ _ (cmpS_lt.1 h1) (cmpS_lt.1 h2))
  unfold cmpL at *
  by_cases e1 : cmpS a.acc b.acc = 0
  · rw [if_neg (fun x => x e1)] at h1
    have ha := cmpS_eq.1 e1
    rw [ha]
    by_cases e2 : cmpS b.acc c.acc = 0
    · rw [if_neg (fun x => x e2)] at h2 ⊢
      exact tr h1 h2
    · rw [if_pos e2] at h2 ⊢
      exact h2
  · rw [if_pos e1] at h1
    by_cases e2 : cmpS b.acc c.acc = 0
    · have hb := cmpS_eq.1 e2
      rw [← hb, if_pos e1]
      exact h1
    · rw [if_pos e2] at h2
      have := tr h1 h2
      rw [if_pos (by omega)]
      exact this
end Eng
end Go.Proofs.Ytogenggejmbhjaa
