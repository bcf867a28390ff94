/- A part of the proofs of this seat's laws: contracts of the functions that they call. No condition. -/
import Derived.Test.YtlophiihkbojfaaT6
set_option autoImplicit false
set_option linter.unusedSimpArgs false
set_option linter.unusedVariables false
namespace Go.Proofs.Ytlophiihkbojfaa
namespace Eng
theorem placeN_congr {id : ByteArray} : ∀ {l l' : List Ord}, l.map Ord.id = l'.map Ord.id → placeN id l = placeN id l'
  | [], [], _ => rfl
  | [], _ :: _, h => by simp at h
  | _ :: _, [], h => by simp at h
  | o :: l, o' :: l', h => by
    simp only [List.map_cons, List.cons.injEq] at h
    have e : eqN o id = eqN o' id := by simp only [eqN, h.1]
    rw [placeN, placeN, e, placeN_congr h.2]
theorem placeI_congr {id : ByteArray} {l l' : List Ord} (h : l.map Ord.id = l'.map Ord.id) : placeI l id = placeI l' id := by
  unfold placeI; rw [placeN_congr h]
theorem map_set_id (l : List Ord) (i : Nat) (a : Ord) (h : a.id = (l.getD i default).id) : (l.set i a).map Ord.id = l.map Ord.id := by
  rw [List.map_set]
  apply List.ext_getElem?
  intro j
  rw [List.getElem?_set]
  split
  · rename_i e
    subst e
    split
    · rename_i hl
      simp only [List.length_map] at hl
      simp [hl, h, List.getD_eq_getElem?_getD]
    · rename_i hl
      rw [List.getElem?_eq_none (by omega)]
  · rfl
theorem getD_id {l l' : List Ord} (h : l.map Ord.id = l'.map Ord.id) (i : Nat) : (l.getD i default).id = (l'.getD i default).id := by
  have h1 : (l.map Ord.id)[i]? = (l'.map Ord.id)[i]? := by rw [h]
  simp only [List.getElem?_map] at h1
  simp only [List.getD_eq_getElem?_getD]
  cases e1 : l[i]? <;> cases e2 : l'[i]? <;> simp_all
theorem placeN_append {id : ByteArray} (o : Ord) : ∀ {l : List Ord}, placeN id (l ++ [o]) = match placeN id l with
    | some k => some k
    | none => if eqN o id then some l.length else none
  | [] => by simp only [List.nil_append, placeN]; split <;> rfl
  | x :: l => by
    rw [List.cons_append, placeN, placeN]
    split
    · rfl
    · rw [placeN_append o (l := l)]
      cases placeN id l with
      | some k => rfl
      | none =>
        simp only [Option.map_none]
        split <;> rfl
theorem eqN_iff {o : Ord} {id : ByteArray} : eqN o id = true ↔ o.id = id := by
  simp only [eqN, beq_iff_eq]
  constructor
  · intro h
    cases o; cases id
    simp only at h ⊢
    apply ByteArray.ext
    exact Array.toList_inj.1 h
  · rintro rfl; rfl
/-- A list whose entries keep their names, and stay what may be, is right as it was. -/
theorem right_set {l : List Ord} {i : Nat} {a : Ord} (h : rightB l = true) (hid : a.id = (l.getD i default).id) (hm : mayB a = true) : rightB (l.set i a) = true := by
  rw [rightB_spec] at h ⊢
  have e := map_set_id l i a hid
  refine ⟨by simpa using h.1, fun j hj => ?_⟩
  simp only [List.length_set] at hj
  have hj' := h.2 j hj
  constructor
  · by_cases c : i = j
    · subst c
      rw [show (l.set i a).getD i default = a by simp [List.getD_eq_getElem?_getD, hj]]
      exact hm
    · rw [show (l.set i a).getD j default = l.getD j default by simp [List.getD_eq_getElem?_getD, List.getElem?_set_ne c]]
      exact hj'.1
  · rw [getD_id e, placeI_congr (l := (l.set i a).take j) (l' := l.take j) (by rw [List.map_take, List.map_take, e])]
    exact hj'.2
theorem right_app {l : List Ord} {a : Ord} (h : rightB l = true) (hl : l.length < 64) (hm : mayB a = true) (hp : placeI l a.id < 0) : rightB (l ++ [a]) = true := by
  rw [rightB_spec] at h ⊢
  refine ⟨by simp; omega, fun j hj => ?_⟩
  simp only [List.length_append, List.length_cons, List.length_nil] at hj
  by_cases c : j = l.length
  · subst c
    rw [show (l ++ [a]).getD l.length default = a by simp [List.getD_eq_getElem?_getD]]
    refine ⟨hm, ?_⟩
    rw [List.take_left' rfl]; exact hp
  · rw [show (l ++ [a]).getD j default = l.getD j default by simp [List.getD_eq_getElem?_getD, List.getElem?_append_left (show j < l.length by omega)], List.take_append_of_le_length (by omega)]
    exact h.2 j (by omega)
theorem openI_spec {l : List Ord} {id : ByteArray} (h : ¬ openI l id < 0) : placeI l id = openI l id ∧ 0 ≤ placeI l id ∧ (l.getD (placeI l id).toNat default).op = true := by
  unfold openI at h ⊢
  split
  · rename_i c; rw [if_pos c] at h; omega
  · rename_i c
    rw [if_neg c] at h
    refine ⟨rfl, by omega, ?_⟩
    cases e : (l.getD (placeI l id).toNat default).op
    · exact absurd ⟨by omega, e⟩ c
    · rfl
theorem placeI_spec {l : List Ord} {id : ByteArray} (h : 0 ≤ placeI l id) : placeN id l = some (placeI l id).toNat := by
  cases e : placeN id l with
  | none => simp [placeI, e] at h
  | some i => simp [placeI, e]
theorem placeI_of {l : List Ord} {id : ByteArray} {k : Nat} (h : placeN id l = some k) : placeI l id = k := by simp [placeI, h]
theorem placeI_none {l : List Ord} {id : ByteArray} (h : placeI l id < 0) : placeN id l = none := by
  unfold placeI at h
  split at h
  · omega
  · assumption
theorem changeS_ok {l : List Ord} {old id : ByteArray} {qty price : Int} (h0 : (changeS l old id qty price).2 = 0) :
    ∃ x : Ord, x.op = true ∧ findS l old = (x, true) ∧ changeS l old id qty price = (l.set (openI l old).toNat (shut x) ++ [chO x id qty price], 0) ∧
      findS (l.set (openI l old).toNat (shut x) ++ [chO x id qty price]) old = (shut x, true) ∧ findS (l.set (openI l old).toNat (shut x) ++ [chO x id qty price]) id = (chO x id qty price, true) := by
  unfold changeS at h0 ⊢
  split at h0
  · simp at h0
  rename_i hR
  split at h0
  · simp at h0
  rename_i hO
  split at h0
  · simp at h0
  rename_i hM
  split at h0
  · simp at h0
  rename_i hP
  split at h0
  · simp at h0
  rename_i hL
  rw [if_neg hR, if_neg hO, if_neg hM, if_neg hP, if_neg hL]
  have hR' : rightB l = true := by simpa using hR
  have hM' : mayB (chO (l.getD (openI l old).toNat default) id qty price) = true := by simpa only [Bool.not_eq_false] using hM
  obtain ⟨o1, o2, o3⟩ := openI_spec hO
  have hlt := placeI_lt l old
  rw [← o1]
  refine ⟨l.getD (placeI l old).toNat default, o3, ?_, by rw [o1], ?_⟩
  · rw [findS, if_pos ⟨hR', o2⟩]
  rw [← o1] at hM'
  generalize hx : l.getD (placeI l old).toNat default = x at *
  have hmx : mayB (shut x) = true := by
    have := (rightB_spec.1 hR').2 (placeI l old).toNat (by omega)
    rw [hx] at this
    exact this.1
  have hids := map_set_id l (placeI l old).toNat (shut x) (by rw [hx]; rfl)
  have hR2 : rightB (l.set (placeI l old).toNat (shut x)) = true := right_set hR' (by rw [hx]; rfl) hmx
  have hR3 : rightB (l.set (placeI l old).toNat (shut x) ++ [chO x id qty price]) = true := right_app hR2 (by simp; omega) hM' (by rw [placeI_congr hids]; exact Int.not_le.1 hP)
  have hp1 : placeN old (l.set (placeI l old).toNat (shut x) ++ [chO x id qty price]) = some (placeI l old).toNat := by
    rw [placeN_append, placeN_congr hids, placeI_spec o2]
  have hp2 : placeN id (l.set (placeI l old).toNat (shut x) ++ [chO x id qty price]) = some l.length := by
    rw [placeN_append, placeN_congr hids, placeI_none (Int.not_le.1 hP)]
    simp only []
    rw [if_pos (eqN_iff.2 (show (chO x id qty price).id = id from rfl))]; simp
  constructor
  · have e : placeI (l.set (placeI l old).toNat (shut x) ++ [chO x id qty price]) old = placeI l old := by
      rw [placeI_of hp1]; omega
    rw [findS, e, if_pos ⟨hR3, o2⟩]
    congr 1
    simp [List.getD_eq_getElem?_getD, List.getElem?_append_left (show (placeI l old).toNat < (l.set (placeI l old).toNat (shut x)).length by simp; omega), show (placeI l old).toNat < l.length by omega]
  · have e : placeI (l.set (placeI l old).toNat (shut x) ++ [chO x id qty price]) id = l.length := placeI_of hp2
    rw [findS, e, if_pos ⟨hR3, by omega⟩]
    congr 1
    simp [List.getD_eq_getElem?_getD, List.getElem?_append_right]
theorem changeS_err {l : List Ord} {old id : ByteArray} {qty price : Int} (h0 : (changeS l old id qty price).2 ≠ 0) : (changeS l old id qty price).1 = l := by
  unfold changeS at h0 ⊢
  split
  · rfl
  split
  · rfl
  split
  · rfl
  split
  · rfl
  split
  · rfl
  · simp_all
end Eng
end Go.Proofs.Ytlophiihkbojfaa
