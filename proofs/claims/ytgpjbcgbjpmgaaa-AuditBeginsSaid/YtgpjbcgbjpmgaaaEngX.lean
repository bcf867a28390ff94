/- The types, read off the program. -/
import Derived.Test.YtgpjbcgbjpmgaaaEngW
set_option autoImplicit false
set_option linter.unusedSimpArgs false
set_option linter.unusedVariables false
namespace Go.Proofs.Ytgpjbcgbjpmgaaa
namespace Eng

def eqTag (P : Program) (f : Field) : Option (Nat × Nat) :=
  if f.name = "_" then none else
  match P.underlying f.type with
  | some .bool => some (f.offset, 0)
  | some (.int _) => some (f.offset, 1)
  | some .string => some (f.offset, 2)
  | _ => none

def eqTags (P : Program) : List Field → Option (List (Nat × Nat))
  | [] => some []
  | f :: r => match eqTag P f, eqTags P r with
    | some x, some l => some (x :: l)
    | _, _ => none

def eqLOf (P : Program) (t : Nat) (d : TypeDesc) : Option (List (Nat × Nat)) :=
  if P.stoodInHeld t || P.eqGuardType P.depth t then none else
  match d with
  | .struct fs => eqTags P fs.toList
  | _ => none

theorem eqTag_ok {P : Program} {f : Field} {x : Nat × Nat} (h : eqTag P f = some x) : EqF P f x := by
  unfold eqTag at h
  split at h
  · cases h
  · rename_i hn
    split at h
    · rename_i hu; cases h; exact ⟨hn, rfl, .inl ⟨rfl, hu⟩⟩
    · rename_i k hu; cases h; exact ⟨hn, rfl, .inr (.inl ⟨rfl, k, hu⟩)⟩
    · rename_i hu; cases h; exact ⟨hn, rfl, .inr (.inr ⟨rfl, hu⟩)⟩
    · cases h

theorem eqTags_ok {P : Program} : ∀ {fs : List Field} {l : List (Nat × Nat)}, eqTags P fs = some l → All2 (EqF P) fs l
  | [], l, h => by cases h; trivial
  | f :: r, l, h => by
    simp only [eqTags] at h
    split at h
    · rename_i x l' hx hl; cases h; exact ⟨eqTag_ok hx, eqTags_ok hl⟩
    · cases h

theorem eqLOf_ok {P : Program} {t : Nat} {d : TypeDesc} (hd : P.underlying t = some d) {l : List (Nat × Nat)} (h : eqLOf P t d = some l) : EqOk P t l := by
  unfold eqLOf at h
  split at h
  · cases h
  · rename_i hc
    simp only [Bool.or_eq_true, not_or, Bool.not_eq_true] at hc
    split at h
    · rename_i fs; exact ⟨hc.1, hc.2, fs, hd, eqTags_ok h⟩
    · cases h

def tyOf (P : Program) (t : Nat) : Option Ty :=
  match P.underlying t, P.info? t with
  | some d, some i => match i.zero with
    | some z => if okVal z && z.cells.size == i.size && (isAggD d || i.size == 1) then some ⟨d, z, i.size, i.bytes, eqLOf P t d⟩ else none
    | none => none
  | _, _ => none

theorem tyOf_ok (P : Program) : TysOk P (tyOf P) := by
  intro t ty h
  unfold tyOf at h
  split at h
  · rename_i d i hd hi
    split at h
    · rename_i z hz
      split at h
      · rename_i hc
        simp only [Bool.and_eq_true, beq_iff_eq, Bool.or_eq_true] at hc
        cases h
        exact ⟨hd, ⟨i, hi, hz, rfl, rfl⟩, hc.1.1, hc.1.2, fun ha => by
          rcases hc.2 with h | h
          · rw [ha] at h; cases h
          · exact h, fun l hl => eqLOf_ok hd hl⟩
      · cases h
    · cases h
  · cases h

end Eng
end Go.Proofs.Ytgpjbcgbjpmgaaa
