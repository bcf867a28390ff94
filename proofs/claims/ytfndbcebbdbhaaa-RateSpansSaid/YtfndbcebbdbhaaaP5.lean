/- A part of the proofs of this seat's laws: contracts of the functions that they call. No condition. -/
import Derived.Test.YtfndbcebbdbhaaaL6
set_option autoImplicit false
set_option linter.unusedSimpArgs false
set_option linter.unusedVariables false
namespace Go.Proofs.Ytfndbcebbdbhaaa
namespace Eng
/-- What a list of times that went through is: sorted, in [0, now], and from most on each a span behind. -/
structure Thr (m : Nat) (long now : Int) (th : List Int) : Prop where
  rng : ∀ j, j < th.length → 0 ≤ th.getD j 0 ∧ th.getD j 0 ≤ now
  srt : ∀ j, 0 < j → j < th.length → th.getD (j - 1) 0 ≤ th.getD j 0
  gap : ∀ j, m ≤ j → j < th.length → th.getD (j - m) 0 + long ≤ th.getD j 0
theorem Thr.mono {m : Nat} {long now now' : Int} {th : List Int} (h : Thr m long now th) (hn : now ≤ now') : Thr m long now' th :=
  ⟨fun j hj => ⟨(h.rng j hj).1, Int.le_trans (h.rng j hj).2 hn⟩, h.srt, h.gap⟩
theorem Thr.le {m : Nat} {long now : Int} {th : List Int} (h : Thr m long now th) : ∀ {j i : Nat}, i ≤ j → j < th.length → th.getD i 0 ≤ th.getD j 0
  | 0, i, hi, _ => by have : i = 0 := by omega
                      subst this; exact Int.le_refl _
  | j + 1, i, hi, hj => by
    by_cases e : i = j + 1
    · subst e; exact Int.le_refl _
    · have h1 := h.le (j := j) (i := i) (by omega) (by omega)
      have h2 := h.srt (j + 1) (by omega) hj
      simp only [Nat.add_sub_cancel] at h2
      omega
theorem getD_app (th : List Int) (a : Int) (j : Nat) : (th ++ [a]).getD j 0 = if j < th.length then th.getD j 0 else if j = th.length then a else 0 := by
  simp only [List.getD_eq_getElem?_getD, List.getElem?_append]
  split
  · rfl
  · split
    · rename_i h; subst h; simp
    · rename_i h1 h2
      rw [List.getElem?_eq_none (by simp; omega)]; rfl
theorem getD_drop (th : List Int) (a j : Nat) : (th.drop a).getD j 0 = th.getD (a + j) 0 := by
  simp [List.getD_eq_getElem?_getD, List.getElem?_drop]
/-- The last ones: what a rate holds. -/
def lastM (m : Nat) (th : List Int) : List Int := th.drop (th.length - m)
theorem Thr.push {m : Nat} {long now : Int} {th : List Int} (h : Thr m long now th) (h0 : 0 ≤ now) (hm : 1 ≤ m) (hg : m ≤ th.length → th.getD (th.length - m) 0 + long ≤ now) : Thr m long now (th ++ [now]) where
  rng j hj := by
    rw [getD_app]
    simp at hj
    split
    · exact h.rng j (by omega)
    · rw [if_pos (by omega)]; omega
  srt j h1 hj := by
    simp at hj
    rw [getD_app, getD_app, if_pos (by omega)]
    split
    · exact h.srt j h1 (by omega)
    · rw [if_pos (by omega)]; exact (h.rng (j - 1) (by omega)).2
  gap j h1 hj := by
    simp at hj
    rw [getD_app, getD_app, if_pos (by omega)]
    split
    · exact h.gap j h1 (by omega)
    · rw [if_pos (by omega), show j = th.length by omega]; exact hg (by omega)
theorem Thr.right {m : Nat} {long now : Int} {th : List Int} (h : Thr m long now th) (h1 : 1 ≤ m) (h2 : m ≤ 100) (h3 : 1 ≤ long) (h4 : long ≤ 1099511627776) (hn : now ≤ 4611686018427387904) : right m long (lastM m th) := by
  refine ⟨by omega, by omega, h3, h4, ?_, fun j hj => ?_⟩
  · simp [lastM]; omega
  · have hl : (lastM m th).length = th.length - (th.length - m) := by simp [lastM]
    rw [hl] at hj
    unfold lastM
    rw [getD_drop, getD_drop]
    have := h.rng (th.length - m + j) (by omega)
    refine ⟨this.1, by omega, fun hp => ?_⟩
    have := h.srt (th.length - m + j) (by omega) (by omega)
    rw [show th.length - m + (j - 1) = th.length - m + j - 1 by omega]
    exact this
theorem Thr.nowB {m : Nat} {long now : Int} {th : List Int} (h : Thr m long now th) (h1 : 1 ≤ m) (h2 : m ≤ 100) (h3 : 1 ≤ long) (h4 : long ≤ 1099511627776) (h0 : 0 ≤ now) (hn : now ≤ 4611686018427387904) : nowB m long (lastM m th) now = true := by
  refine nowB_mk (h.right h1 h2 h3 h4 hn) h0 hn ?_
  have hl : (lastM m th).length = th.length - (th.length - m) := by simp [lastM]
  by_cases e : (lastM m th).length = 0
  · exact .inl e
  · refine .inr ?_
    rw [hl] at e ⊢
    unfold lastM
    rw [getD_drop]
    exact (h.rng _ (by omega)).2
theorem late_lo {span now : Int} {ts : List Int} {a : Nat} (h : ∀ j, j < a → j < ts.length → ¬ now - ts.getD j 0 < span) : ∀ {k : Nat}, k ≤ ts.length → late span now ts k ≤ k - a
  | 0, _ => by simp [late]
  | k + 1, hk => by
    have h1 := late_succ span now ts k (by omega)
    have h2 := late_lo h (k := k) (by omega)
    by_cases e : k < a
    · rw [if_neg (h k e (by omega))] at h1; omega
    · split at h1 <;> omega
theorem late_hi {span now : Int} {ts : List Int} {a : Nat} (h : ∀ j, a ≤ j → j < ts.length → now - ts.getD j 0 < span) : ∀ {k : Nat}, k ≤ ts.length → k - a ≤ late span now ts k
  | 0, _ => by simp
  | k + 1, hk => by
    have h1 := late_succ span now ts k (by omega)
    have h2 := late_hi h (k := k) (by omega)
    by_cases e : k < a
    · omega
    · rw [if_pos (h k (by omega) (by omega))] at h1; omega
theorem lastM_push (m : Nat) (th : List Int) (a : Int) (h : m ≤ th.length) (hm : 1 ≤ m) : lastM m (th ++ [a]) = (lastM m th).drop 1 ++ [a] := by
  unfold lastM
  rw [List.drop_drop, List.length_append, List.length_cons, List.length_nil, List.drop_append_of_le_length (by omega)]
  congr 2
  omega
theorem lastM_short (m : Nat) (th : List Int) (a : Int) (h : th.length < m) : lastM m (th ++ [a]) = lastM m th ++ [a] := by
  unfold lastM
  rw [List.length_append, List.length_cons, List.length_nil, show th.length + (0 + 1) - m = 0 by omega, show th.length - m = 0 by omega]
  rfl
/-- What comes: it goes through just if fewer than most went through lately. -/
theorem Thr.step {m : Nat} {long now : Int} {th : List Int} (h : Thr m long now th) (h1 : 1 ≤ m) (h2 : m ≤ 100) (h3 : 1 ≤ long) (h4 : long ≤ 1099511627776) (h0 : 0 ≤ now) (hn : now ≤ 4611686018427387904) :
    late long now th th.length ≤ m ∧ (if late long now th th.length < m then takeS m long (lastM m th) now = (lastM m (th ++ [now]), true, 0) ∧ Thr m long now (th ++ [now]) else takeS m long (lastM m th) now = (lastM m th, false, 0)) := by
  have hb := h.nowB h1 h2 h3 h4 h0 hn
  have hl : (lastM m th).length = th.length - (th.length - m) := by simp [lastM]
  have hle := late_le long now th th.length
  by_cases hs : th.length < m
  · refine ⟨by omega, ?_⟩
    rw [if_pos (by omega), takeS_room hb (by omega), lastM_short _ _ _ hs]
    exact ⟨rfl, h.push h0 h1 fun _ => by omega⟩
  · have h9 : (lastM m th).getD 0 0 = th.getD (th.length - m) 0 := by unfold lastM; rw [getD_drop]; rfl
    by_cases hh : now - th.getD (th.length - m) 0 < long
    · have hi := late_hi (span := long) (now := now) (ts := th) (a := th.length - m) (fun j ha hj => by have := h.le (i := th.length - m) (j := j) ha hj; omega) (Nat.le_refl _)
      have lo := late_lo (span := long) (now := now) (ts := th) (a := th.length - m) (fun j ha hj => by
        have g := h.gap (j + m) (by omega) (by omega)
        have r := (h.rng (j + m) (by omega)).2
        rw [Nat.add_sub_cancel] at g
        omega) (Nat.le_refl _)
      refine ⟨by omega, ?_⟩
      rw [if_neg (by omega)]
      exact takeS_held hb (by omega) (by rw [h9]; exact hh)
    · have lo := late_lo (span := long) (now := now) (ts := th) (a := th.length - m + 1) (fun j ha hj => by have := h.le (i := j) (j := th.length - m) (by omega) (by omega); omega) (Nat.le_refl _)
      refine ⟨by omega, ?_⟩
      rw [if_pos (by omega), takeS_full hb (by omega) (by rw [h9]; exact hh), lastM_push _ _ _ (by omega) h1]
      exact ⟨rfl, h.push h0 h1 fun _ => by omega⟩
end Eng
end Go.Proofs.Ytfndbcebbdbhaaa
