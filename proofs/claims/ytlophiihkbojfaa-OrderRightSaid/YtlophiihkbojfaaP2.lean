/- A part of the proofs of this seat's laws: contracts of the functions that they call. No condition. -/
import Derived.Test.YtlophiihkbojfaaT7
set_option autoImplicit false
set_option linter.unusedSimpArgs false
set_option linter.unusedVariables false
namespace Go.Proofs.Ytlophiihkbojfaa
namespace Eng
def filled (a : Ord) (w : Wh) (e : Int) : Prop := w.kind.tmod 4 = 1 ∧ e = 0 ∧ a.id = w.id
structure StepP (a b : Ord) (w : Wh) (e : Int) : Prop where
  id : b.id = a.id
  qty : b.qty = a.qty
  op : (!a.op && b.op) = false
  le : leftI b ≤ leftI a
  fill : filled a w e → b.done = a.done + w.qty ∧ leftI a - leftI b = w.qty ∧ 0 ≤ b.done ∧ b.done ≤ 1099511627776
  rest : ¬ filled a w e → b.done = a.done
theorem step_same {a : Ord} {w : Wh} {e : Int} (h : ¬ filled a w e) : StepP a a w e :=
  ⟨rfl, rfl, by cases a.op <;> rfl, Int.le_refl _, fun h' => absurd h' h, fun _ => rfl⟩
theorem left_shut (x : Ord) : leftI (shut x) = 0 := by
  rw [leftI, if_neg]
  rintro ⟨_, h⟩
  cases h
theorem step_shut {a : Ord} {w : Wh} {e : Int} (h : ¬ filled a w e) : StepP a (shut a) w e :=
  ⟨rfl, rfl, by cases a.op <;> rfl, by rw [left_shut]; exact (leftI_le a).2.1, fun h' => absurd h' h, fun _ => rfl⟩
theorem fill_one {x : Ord} {q : Int} (hm : mayB x = true) (ho : x.op = true) (h1 : 1 ≤ q) (h2 : q ≤ leftI x) : mayB (flO x q) = true ∧ leftI (flO x q) = leftI x - q ∧ 0 ≤ x.done + q ∧ x.done + q ≤ x.qty := by
  have hx : leftI x = x.qty - x.done := by rw [leftI, if_pos ⟨hm, ho⟩]
  have hs := mayB_spec hm
  have hm2 : mayB (flO x q) = true := by
    simp only [mayB, Bool.and_eq_true, decide_eq_true_eq] at hm ⊢
    exact ⟨⟨hm.1.1, show 0 ≤ x.done + q by omega⟩, show x.done + q ≤ x.qty by omega⟩
  refine ⟨hm2, ?_, by omega, by omega⟩
  by_cases c : x.done + q < x.qty
  · rw [leftI, if_pos ⟨hm2, by simp [flO, c]⟩, hx]
    show x.qty - (x.done + q) = _
    omega
  · rw [leftI, if_neg (by rintro ⟨_, h⟩; simp [flO, c] at h), hx]
    omega
theorem getD_set_ne {l : List Ord} {i k : Nat} {a : Ord} (h : i ≠ k) : (l.set i a).getD k default = l.getD k default := by
  simp [List.getD_eq_getElem?_getD, List.getElem?_set_ne h]
theorem getD_set_eq {l : List Ord} {i : Nat} {a : Ord} (h : i < l.length) : (l.set i a).getD i default = a := by
  simp [List.getD_eq_getElem?_getD, h]
theorem getD_app {l : List Ord} {k : Nat} {a : Ord} (h : k < l.length) : (l ++ [a]).getD k default = l.getD k default := by
  simp [List.getD_eq_getElem?_getD, List.getElem?_append_left h]
theorem distinct {l : List Ord} {id : ByteArray} (hR : rightB l = true) (hp : 0 ≤ placeI l id) {k : Nat} (hk : k < l.length) (hne : (placeI l id).toNat ≠ k) : (l.getD k default).id ≠ id := by
  intro he
  obtain ⟨h1, h2, h3⟩ := placeN_spec (placeI_spec hp)
  rcases Nat.lt_or_gt_of_ne hne with c | c
  · have hr := ((rightB_spec.1 hR).2 k hk).2
    have := placeN_spec0 (placeI_none hr) (placeI l id).toNat (by simp; omega)
    have e : (l.take k).getD (placeI l id).toNat default = l.getD (placeI l id).toNat default := by
      simp [List.getD_eq_getElem?_getD, List.getElem?_take, c]
    rw [e] at this
    have h4 : eqN (l.getD (placeI l id).toNat default) (l.getD k default).id = true := by rw [he]; exact h3
    rw [h4] at this; cases this
  · have := h2 k c
    rw [eqN_iff.2 he] at this; cases this
theorem doS_ok {l : List Ord} {w : Wh} (hR : rightB l = true) {n : List Ord} {e : Int} (h : doS l w = (n, e)) :
    rightB n = true ∧ l.length ≤ n.length ∧ (e ≠ 0 → n = l) ∧ ∀ k, k < l.length → StepP (l.getD k default) (n.getD k default) w e := by
  have err : ∀ e' : Int, e' ≠ 0 → (l, e') = (n, e) → rightB n = true ∧ l.length ≤ n.length ∧ (e ≠ 0 → n = l) ∧ ∀ k, k < l.length → StepP (l.getD k default) (n.getD k default) w e := by
    intro e' he heq
    cases heq
    exact ⟨hR, Nat.le_refl _, fun _ => rfl, fun k _ => step_same fun hf => he hf.2.1⟩
  have hlen := (rightB_spec.1 hR).1
  unfold doS at h
  split at h
  · rename_i hk
    have nf : ∀ a, ¬ filled a w e := fun a hf => by have := hf.1; omega
    unfold newS at h
    split at h
    · exact err 1 (by omega) h
    rename_i c1
    split at h
    · exact err 7 (by omega) h
    rename_i c2
    split at h
    · exact err 5 (by omega) h
    rename_i c3
    cases h
    simp only [not_or, Bool.not_eq_false] at c1
    exact ⟨right_app hR (by omega) c1.2 (by exact Int.not_le.1 c2), by simp, fun h => absurd rfl h, fun k hk => by rw [getD_app hk]; exact step_same (nf _)⟩
  split at h
  · rename_i hk0 hk
    unfold fillS at h
    split at h
    · exact err 1 (by omega) h
    split at h
    · exact err 6 (by omega) h
    rename_i cO
    split at h
    · exact err 1 (by omega) h
    rename_i cQ
    split at h
    · exact err 9 (by omega) h
    cases h
    obtain ⟨o1, o2, o3⟩ := openI_spec cO
    have hlt := placeI_lt l w.id
    rw [← o1] at cQ ⊢
    have hm := ((rightB_spec.1 hR).2 (placeI l w.id).toNat (by omega)).1
    obtain ⟨f1, f2, f3, f4⟩ := fill_one hm o3 (q := w.qty) (by omega) (by omega)
    have hs := mayB_spec hm
    refine ⟨right_set hR rfl f1, by simp, fun h => absurd rfl h, fun k hk => ?_⟩
    by_cases c : (placeI l w.id).toNat = k
    · subst c
      rw [getD_set_eq (by omega)]
      have hid : (l.getD (placeI l w.id).toNat default).id = w.id := eqN_iff.1 (placeN_spec (placeI_spec o2)).2.2
      refine ⟨rfl, rfl, by rw [o3]; rfl, by rw [f2]; omega, fun _ => ⟨rfl, by rw [f2]; omega, f3, ?_⟩, fun hn => absurd ⟨by assumption, rfl, hid⟩ hn⟩
      show (l.getD (placeI l w.id).toNat default).done + w.qty ≤ _
      omega
    · rw [getD_set_ne c]
      exact step_same fun hf => distinct hR o2 hk c hf.2.2
  split at h
  · rename_i hk0 hk1 hk
    have nf : ∀ a, ¬ filled a w e := fun a hf => by have := hf.1; omega
    unfold closeS at h
    split at h
    · exact err 1 (by omega) h
    split at h
    · exact err 6 (by omega) h
    rename_i cO
    cases h
    obtain ⟨o1, o2, o3⟩ := openI_spec cO
    have hlt := placeI_lt l w.id
    rw [← o1]
    have hm := ((rightB_spec.1 hR).2 (placeI l w.id).toNat (by omega)).1
    refine ⟨right_set hR rfl hm, by simp, fun h => absurd rfl h, fun k hk => ?_⟩
    by_cases c : (placeI l w.id).toNat = k
    · subst c
      rw [getD_set_eq (by omega)]; exact step_shut (nf _)
    · rw [getD_set_ne c]; exact step_same (nf _)
  · rename_i hk0 hk1 hk2
    have nf : ∀ a, ¬ filled a w e := fun a hf => hk1 hf.1
    unfold changeS at h
    split at h
    · exact err 1 (by omega) h
    split at h
    · exact err 6 (by omega) h
    rename_i cO
    split at h
    · exact err 1 (by omega) h
    rename_i cM
    split at h
    · exact err 7 (by omega) h
    rename_i cP
    split at h
    · exact err 5 (by omega) h
    rename_i cL
    cases h
    obtain ⟨o1, o2, o3⟩ := openI_spec cO
    have hlt := placeI_lt l w.id
    rw [← o1] at cM ⊢
    have hm := ((rightB_spec.1 hR).2 (placeI l w.id).toNat (by omega)).1
    have hids := map_set_id l (placeI l w.id).toNat (shut (l.getD (placeI l w.id).toNat default)) rfl
    have hR2 : rightB (l.set (placeI l w.id).toNat (shut (l.getD (placeI l w.id).toNat default))) = true := right_set hR rfl hm
    refine ⟨right_app hR2 (by simp; omega) (by simpa only [Bool.not_eq_false] using cM) (by rw [placeI_congr hids]; exact Int.not_le.1 cP), by simp, fun h => absurd rfl h, fun k hk => ?_⟩
    rw [getD_app (by simpa using hk)]
    by_cases c : (placeI l w.id).toNat = k
    · subst c
      rw [getD_set_eq (by omega)]; exact step_shut (nf _)
    · rw [getD_set_ne c]; exact step_same (nf _)
end Eng
end Go.Proofs.Ytlophiihkbojfaa
