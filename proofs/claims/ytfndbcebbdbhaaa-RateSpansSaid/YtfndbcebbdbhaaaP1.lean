/- A part of the proofs of this seat's laws: contracts of the functions that they call. No condition. -/
import Derived.Test.YtfndbcebbdbhaaaT7
set_option autoImplicit false
set_option linter.unusedSimpArgs false
set_option linter.unusedVariables false
namespace Go.Proofs.Ytfndbcebbdbhaaa
namespace Eng
theorem okT_mono {ts : List Int} {n : Nat} (h : okT ts n) : ∀ {j i : Nat}, i ≤ j → j < n → ts.getD i 0 ≤ ts.getD j 0
  | 0, i, hi, _ => by have : i = 0 := by omega
                      subst this; exact Int.le_refl _
  | j + 1, i, hi, hj => by
    by_cases e : i = j + 1
    · subst e; exact Int.le_refl _
    · have h1 := okT_mono h (j := j) (i := i) (by omega) (by omega)
      have h2 := (h (j + 1) hj).2.2 (by omega)
      simp only [Nat.add_sub_cancel] at h2
      omega
theorem nowB_fits (most span : Int) (ts : List Int) (now : Int) : nowB most span ts now = true ↔ fits most span ts now := by
  constructor
  · intro h
    obtain ⟨h1, h2, h3, h4⟩ := nowB_spec h
    refine ⟨h1, h2, h3, fun i hi => ?_⟩
    have := okT_mono h1.2.2.2.2.2 (j := ts.length - 1) (i := i) (by omega) (by omega)
    omega
  · rintro ⟨h1, h2, h3, h4⟩
    unfold nowB
    simp only [Bool.and_eq_true, decide_eq_true_eq, Bool.or_eq_true, rightB_eq]
    refine ⟨⟨⟨h1, h2⟩, h3⟩, ?_⟩
    by_cases e : ts.length = 0
    · exact .inl e
    · exact .inr (h4 _ (by omega))
theorem late_eq {span now : Int} {ts : List Int} : ∀ {k : Nat}, k ≤ ts.length → (late span now ts k = k ↔ ∀ i, i < k → now - ts.getD i 0 < span)
  | 0, _ => by simp [late]
  | k + 1, hk => by
    have h1 := late_succ span now ts k (by omega)
    have h2 := late_le span now ts k
    have h3 := late_eq (span := span) (now := now) (ts := ts) (k := k) (by omega)
    constructor
    · intro h i hi
      split at h1
      · rename_i hc
        by_cases e : i = k
        · rw [e]; exact hc
        · exact h3.1 (by omega) i (by omega)
      · omega
    · intro h
      rw [if_pos (h k (by omega))] at h1
      have := h3.2 fun i hi => h i (by omega)
      omega
theorem late_most {most span : Int} {ts : List Int} {now : Int} (h : right most span ts) : most ≤ (late span now ts ts.length : Int) ↔ ((ts.length : Int) = most ∧ now - ts.getD 0 0 < span) := by
  obtain ⟨h1, h2, h3, h4, h5, h6⟩ := h
  have hl := late_le span now ts ts.length
  have he := late_eq (span := span) (now := now) (ts := ts) (Nat.le_refl _)
  constructor
  · intro hm
    refine ⟨by omega, ?_⟩
    exact he.1 (by omega) 0 (by omega)
  · rintro ⟨e1, e2⟩
    have := he.2 fun i hi => by
      have := okT_mono h6 (j := i) (i := 0) (by omega) hi
      omega
    omega
theorem take_eq (most span : Int) (ts : List Int) (now : Int) : takeS most span ts now = takeR most span ts now := by
  unfold takeS takeR
  have h1 := nowB_fits most span ts now
  have h2 := fitsB_eq most span ts now
  by_cases hf : fits most span ts now
  · have e1 : nowB most span ts now = true := h1.2 hf
    have e2 : fitsB most span ts now = true := h2.2 hf
    rw [e1, e2]
    simp only [reduceCtorEq, if_false]
    have hm := late_most (now := now) hf.1
    obtain ⟨g1, g2, g3, g4, g5, g6⟩ := hf.1
    by_cases hl : (ts.length : Int) = most
    · rw [if_pos hl]
      by_cases hs : now - ts.getD 0 0 < span
      · rw [if_pos hs, if_pos (hm.2 ⟨hl, hs⟩)]
      · rw [if_neg hs, if_neg fun h => hs (hm.1 h).2, if_pos (by omega)]
        cases ts with
        | nil => simp at hl; omega
        | cons a l => rfl
    · rw [if_neg hl, if_neg fun h => hl (hm.1 h).1, if_neg (by omega)]
  · have e1 : nowB most span ts now = false := by rw [← Bool.not_eq_true, h1]; exact hf
    have e2 : fitsB most span ts now = false := by rw [← Bool.not_eq_true, h2]; exact hf
    rw [e1, e2]
    rfl
end Eng
end Go.Proofs.Ytfndbcebbdbhaaa
