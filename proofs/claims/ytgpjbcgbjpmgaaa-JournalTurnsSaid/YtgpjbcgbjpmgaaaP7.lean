/- Bytes, and four of them as a number. -/
import Derived.Test.YtgpjbcgbjpmgaaaP8
set_option autoImplicit false
set_option linter.unusedSimpArgs false
set_option linter.unusedVariables false
set_option maxRecDepth 100000
namespace Go.Proofs.Ytgpjbcgbjpmgaaa
namespace Eng
def Byt (b : List Int) : Prop := ∀ j, 0 ≤ b.getD j 0 ∧ b.getD j 0 ≤ 255
theorem cv32 (b : List Int) (j : Nat) : IntKind.u32.wrap (b.getD j 0) = ((BitVec.ofInt 32 (b.getD j 0)).toNat : Int) := by
  simp only [IntKind.wrap, IntKind.bits, IntKind.signed, BitVec.toNat_ofInt]
  simp
  omega
theorem byt_drop {b : List Int} (h : Byt b) (p : Nat) : Byt (b.drop p) := fun j => by
  have := h (p + j)
  rwa [List.getD_eq_getElem?_getD, List.getElem?_drop, ← List.getD_eq_getElem?_getD]
theorem byt_take {b : List Int} (h : Byt b) (p : Nat) : Byt (b.take p) := fun j => by
  have := h j
  rw [List.getD_eq_getElem?_getD, List.getElem?_take]
  split
  · rwa [← List.getD_eq_getElem?_getD]
  · simp
def asmV (a b c d : BitVec 8) : BitVec 32 := (a.setWidth 32 <<< 24) ||| (b.setWidth 32 <<< 16) ||| (c.setWidth 32 <<< 8) ||| d.setWidth 32
theorem asmV_get (a b c d : BitVec 8) (i : Nat) (hi : i < 32) : (asmV a b c d).getLsbD i = if i < 8 then d.getLsbD i else if i < 16 then c.getLsbD (i - 8) else if i < 24 then b.getLsbD (i - 16) else a.getLsbD (i - 24) := by
  unfold asmV
  simp only [BitVec.getLsbD_or, BitVec.getLsbD_shiftLeft, BitVec.getLsbD_setWidth, hi, decide_true, Bool.true_and]
  have z : ∀ (x : BitVec 8) (j : Nat), 8 ≤ j → x.getLsbD j = false := fun x j h => BitVec.getLsbD_of_ge _ _ h
  rcases Nat.lt_or_ge i 8 with h1 | h1
  · simp [h1, show i < 16 by omega, show i < 24 by omega, show i < 32 by omega]
  · rcases Nat.lt_or_ge i 16 with h2 | h2
    · simp [h2, show i < 24 by omega, show ¬ i < 8 by omega, z d i h1, show i - 8 < 32 by omega]
    · rcases Nat.lt_or_ge i 24 with h3 | h3
      · simp [h3, show ¬ i < 16 by omega, show ¬ i < 8 by omega, z d i h1, z c (i - 8) (by omega), show i - 8 < 32 by omega, show i - 16 < 32 by omega]
      · simp [show ¬ i < 24 by omega, show ¬ i < 16 by omega, show ¬ i < 8 by omega, z d i h1, z c (i - 8) (by omega), z b (i - 16) (by omega), show i - 24 < 32 by omega]
theorem asmV_0 (a b c d : BitVec 8) : (asmV a b c d).setWidth 8 = d := by
  apply BitVec.eq_of_getLsbD_eq
  intro i hi
  rw [BitVec.getLsbD_setWidth, asmV_get _ _ _ _ _ (by omega)]
  simp [hi]
theorem asmV_8 (a b c d : BitVec 8) : (asmV a b c d >>> 8).setWidth 8 = c := by
  apply BitVec.eq_of_getLsbD_eq
  intro i hi
  rw [BitVec.getLsbD_setWidth, BitVec.getLsbD_ushiftRight, asmV_get _ _ _ _ _ (by omega)]
  simp [hi, show ¬ 8 + i < 8 by omega, show 8 + i < 16 by omega]
theorem asmV_16 (a b c d : BitVec 8) : (asmV a b c d >>> 16).setWidth 8 = b := by
  apply BitVec.eq_of_getLsbD_eq
  intro i hi
  rw [BitVec.getLsbD_setWidth, BitVec.getLsbD_ushiftRight, asmV_get _ _ _ _ _ (by omega)]
  simp [hi, show ¬ 16 + i < 8 by omega, show ¬ 16 + i < 16 by omega, show 16 + i < 24 by omega]
theorem asmV_24 (a b c d : BitVec 8) : (asmV a b c d >>> 24).setWidth 8 = a := by
  apply BitVec.eq_of_getLsbD_eq
  intro i hi
  rw [BitVec.getLsbD_setWidth, BitVec.getLsbD_ushiftRight, asmV_get _ _ _ _ _ (by omega)]
  simp [hi, show ¬ 24 + i < 8 by omega, show ¬ 24 + i < 16 by omega, show ¬ 24 + i < 24 by omega]
theorem asmV_self (s : BitVec 32) : asmV ((s >>> 24).setWidth 8) ((s >>> 16).setWidth 8) ((s >>> 8).setWidth 8) (s.setWidth 8) = s := by
  apply BitVec.eq_of_getLsbD_eq
  intro i hi
  rw [asmV_get _ _ _ _ _ hi]
  simp only [BitVec.getLsbD_setWidth, BitVec.getLsbD_ushiftRight]
  repeat' split
  · simp [*]
  · simp [show i - 8 < 8 by omega, show 8 + (i - 8) = i by omega]
  · simp [show i - 16 < 8 by omega, show 16 + (i - 16) = i by omega]
  · simp [show i - 24 < 8 by omega, show 24 + (i - 24) = i by omega]
theorem ofInt_w (x : Int) (h : 0 ≤ x ∧ x ≤ 255) : BitVec.ofInt 32 x = (BitVec.ofInt 8 x).setWidth 32 := by
  obtain ⟨n, rfl⟩ : ∃ n : Nat, x = n := ⟨x.toNat, by omega⟩
  apply BitVec.eq_of_toNat_eq
  simp only [BitVec.ofInt_natCast, BitVec.toNat_setWidth, BitVec.toNat_ofNat]
  omega
theorem byt_cons {x : Int} {xs : List Int} (hx : 0 ≤ x ∧ x ≤ 255) (h : Byt xs) : Byt (x :: xs) := fun j => by
  cases j with
  | zero => exact hx
  | succ j => exact h j
theorem byt_nil : Byt [] := fun j => by simp
theorem byt_app {xs ys : List Int} (h1 : Byt xs) (h2 : Byt ys) : Byt (xs ++ ys) := by
  induction xs with
  | nil => exact h2
  | cons x xs ih => exact byt_cons (h1 0) (ih fun j => h1 (j + 1))
theorem bv8_rng (x : BitVec 8) : (0 : Int) ≤ (x.toNat : Int) ∧ (x.toNat : Int) ≤ 255 := by have := x.isLt; omega
theorem byt_hd (n : Nat) : Byt (hd n) := byt_cons (by omega) (byt_cons (by omega) byt_nil)
theorem byt_b4 (s : BitVec 32) : Byt (b4 s) := byt_cons (bv8_rng _) (byt_cons (bv8_rng _) (byt_cons (bv8_rng _) (byt_cons (bv8_rng _) byt_nil)))
theorem byt_put {r : List Int} (h : Byt r) : Byt (put r) := byt_app (byt_hd _) (byt_app (byt_b4 _) h)
theorem byt_set {b : List Int} (h : Byt b) (k : Nat) {v : Int} (hv : 0 ≤ v ∧ v ≤ 255) : Byt (b.set k v) := fun j => by
  rw [List.getD_eq_getElem?_getD, List.getElem?_set]
  split
  · split
    · exact hv
    · simp
  · rw [← List.getD_eq_getElem?_getD]; exact h j
theorem flip_rng (x : Int) (j : Nat) : 0 ≤ flip x j ∧ flip x j ≤ 255 := bv8_rng _
theorem bv_eq (a b : BitVec 32) : ((a.toNat : Int) == (b.toNat : Int)) = decide (a = b) := by
  rw [Bool.eq_iff_iff]
  simp only [beq_iff_eq, decide_eq_true_eq]
  rw [← BitVec.toNat_inj]
  omega
end Eng
end Go.Proofs.Ytgpjbcgbjpmgaaa
