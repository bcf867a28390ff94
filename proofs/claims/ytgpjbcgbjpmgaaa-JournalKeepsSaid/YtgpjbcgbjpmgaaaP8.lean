/- The plain law of the sums: one step is linear and loses nothing, so one byte that differs makes the sums differ. -/
import Derived.Test.YtgpjbcgbjpmgaaaC7
set_option autoImplicit false
set_option linter.unusedSimpArgs false
set_option linter.unusedVariables false
set_option maxRecDepth 100000
namespace Go.Proofs.Ytgpjbcgbjpmgaaa
namespace Eng
theorem low_odd (n : BitVec 32) : (n &&& 1#32 = 1#32) ↔ n.getLsbD 0 = true := by
  constructor
  · intro h
    have := congrArg (fun x : BitVec 32 => x.getLsbD 0) h
    simpa using this
  · intro h
    apply BitVec.eq_of_getLsbD_eq
    intro i hi
    rw [BitVec.getLsbD_and]
    cases i with
    | zero => simp [h]
    | succ i => simp [BitVec.getLsbD_one]
theorem bit1_def (n : BitVec 32) : bit1 n = (n >>> 1) ^^^ (if n.getLsbD 0 then 3988292384#32 else 0#32) := by
  unfold bit1
  by_cases h : n.getLsbD 0 = true
  · rw [if_pos ((low_odd n).2 h), if_pos h]
  · rw [if_neg (fun x => h ((low_odd n).1 x)), if_neg h, BitVec.xor_zero]
theorem bit1_xor (a b : BitVec 32) : bit1 (a ^^^ b) = bit1 a ^^^ bit1 b := by
  simp only [bit1_def, BitVec.ushiftRight_xor_distrib, BitVec.getLsbD_xor]
  apply BitVec.eq_of_getLsbD_eq
  intro i hi
  simp only [BitVec.getLsbD_xor]
  generalize (a >>> 1).getLsbD i = x
  generalize (b >>> 1).getLsbD i = y
  have h0 : (0#32).getLsbD i = false := BitVec.getLsbD_zero
  cases a.getLsbD 0 <;> cases b.getLsbD 0 <;> simp only [Bool.false_eq_true, if_true, if_false, h0, Bool.xor_false, Bool.true_bne, Bool.xor_true, Bool.not_true, Bool.not_false, bne_self_eq_false, Bool.false_bne, Bool.bne_false, Bool.xor_self] <;> (generalize (3988292384#32).getLsbD i = z; cases x <;> cases y <;> cases z <;> rfl)
theorem bit1_top (n : BitVec 32) : (bit1 n).getLsbD 31 = n.getLsbD 0 := by
  rw [bit1_def, BitVec.getLsbD_xor, BitVec.getLsbD_ushiftRight]
  have : n.getLsbD (1 + 31) = false := BitVec.getLsbD_of_ge _ _ (by omega)
  rw [this]
  cases n.getLsbD 0 <;> rfl
theorem bit1_inj {a b : BitVec 32} (h : bit1 a = bit1 b) : a = b := by
  have h0 : a.getLsbD 0 = b.getLsbD 0 := by rw [← bit1_top, ← bit1_top, h]
  have h1 : a >>> 1 = b >>> 1 := by
    rw [bit1_def, bit1_def, h0] at h
    have := congrArg (fun x => x ^^^ (if b.getLsbD 0 then 3988292384#32 else 0#32)) h
    simpa [BitVec.xor_assoc, BitVec.xor_self] using this
  apply BitVec.eq_of_getLsbD_eq
  intro i hi
  cases i with
  | zero => exact h0
  | succ i =>
    have := congrArg (fun x : BitVec 32 => x.getLsbD i) h1
    simp only [BitVec.getLsbD_ushiftRight] at this
    rwa [Nat.add_comm]  at this
theorem bits_xor (k : Nat) (a b : BitVec 32) : bits k (a ^^^ b) = bits k a ^^^ bits k b := by
  induction k with
  | zero => rfl
  | succ k ih => rw [bits, ih, bit1_xor]; rfl
theorem bits_inj (k : Nat) {a b : BitVec 32} (h : bits k a = bits k b) : a = b := by
  induction k with
  | zero => exact h
  | succ k ih => exact ih (bit1_inj h)
theorem bits_high (k : Nat) (hk : k ≤ 8) (a : BitVec 32) (h : ∀ i, i < 8 → a.getLsbD i = false) : bits k a = a >>> k := by
  induction k with
  | zero => simp [bits]
  | succ k ih =>
    rw [bits, ih (by omega), bit1_def, BitVec.getLsbD_ushiftRight, Nat.add_zero, h k (by omega)]
    simp only [Bool.false_eq_true, if_false, BitVec.xor_zero]
    rw [← BitVec.shiftRight_add]
/-- A byte's step, bit by bit. -/
theorem upd8_bits (n : BitVec 32) (c : Int) : upd8 n c = bits 8 (n ^^^ (BitVec.ofInt 8 c).setWidth 32) := by
  have e : n ^^^ (BitVec.ofInt 8 c).setWidth 32 = ((n >>> 8) <<< 8) ^^^ (n.setWidth 8 ^^^ BitVec.ofInt 8 c).setWidth 32 := by
    apply BitVec.eq_of_getLsbD_eq
    intro i hi
    simp only [BitVec.getLsbD_xor, BitVec.getLsbD_setWidth, BitVec.getLsbD_shiftLeft, BitVec.getLsbD_ushiftRight, hi, decide_true, Bool.true_and]
    by_cases h8 : i < 8
    · simp [h8]
    · have : (BitVec.ofInt 8 c).getLsbD i = false := BitVec.getLsbD_of_ge _ _ (by omega)
      rw [this]
      simp [h8, show 8 + (i - 8) = i by omega]
  rw [e, bits_xor, bits_high 8 (by omega)]
  · rw [upd8, tab]
    congr 1
    apply BitVec.eq_of_getLsbD_eq
    intro i hi
    simp only [BitVec.getLsbD_shiftLeft, BitVec.getLsbD_ushiftRight]
    by_cases h24 : 8 + i < 32
    · simp [show 8 + i - 8 = i by omega, h24, show ¬ 8 + i < 8 by omega]
    · have : n.getLsbD (8 + i) = false := BitVec.getLsbD_of_ge _ _ (by omega)
      simp [h24, this]
  · intro i hi
    simp [BitVec.getLsbD_shiftLeft, hi]
theorem upd8_inj {a b : BitVec 32} {c : Int} (h : upd8 a c = upd8 b c) : a = b := by
  rw [upd8_bits, upd8_bits] at h
  have := congrArg (fun x => x ^^^ (BitVec.ofInt 8 c).setWidth 32) (bits_inj 8 h)
  simpa [BitVec.xor_assoc, BitVec.xor_self] using this
theorem upd8_byte {a : BitVec 32} {c d : Int} (h : upd8 a c = upd8 a d) : BitVec.ofInt 8 c = BitVec.ofInt 8 d := by
  rw [upd8_bits, upd8_bits] at h
  have := congrArg (fun x => (a ^^^ x).setWidth 8) (bits_inj 8 h)
  simpa [← BitVec.xor_assoc, BitVec.xor_self] using this
theorem crcF_inj {a b : BitVec 32} (xs : List Int) (h : crcF a xs = crcF b xs) : a = b := by
  induction xs generalizing a b with
  | nil => exact h
  | cons x xs ih => exact upd8_inj (ih h)
theorem crcS_byte (xs ys : List Int) (c d : Int) (h : BitVec.ofInt 8 c ≠ BitVec.ofInt 8 d) : crcS (xs ++ c :: ys) ≠ crcS (xs ++ d :: ys) := by
  intro e
  unfold crcS at e
  have e := BitVec.not_inj.1 e
  rw [crcF_app, crcF_app] at e
  exact h (upd8_byte (crcF_inj ys e))
theorem split_at (b : List Int) (k : Nat) (h : k < b.length) : b = b.take k ++ b.getD k 0 :: b.drop (k + 1) := by
  rw [List.getD_eq_getElem?_getD, List.getElem?_eq_getElem h, Option.getD_some, ← List.drop_eq_getElem_cons h, List.take_append_drop]
theorem crcS_set (b : List Int) (k : Nat) (v : Int) (h : k < b.length) (hv : BitVec.ofInt 8 v ≠ BitVec.ofInt 8 (b.getD k 0)) : crcS (b.set k v) ≠ crcS b := by
  rw [List.set_eq_take_append_cons_drop, if_pos h]
  have e := split_at b k h
  intro x
  exact crcS_byte (b.take k) (b.drop (k + 1)) v (b.getD k 0) hv (x.trans (congrArg crcS e))
/-- A bit of a byte, turned. -/
def flip (x : Int) (j : Nat) : Int := ((BitVec.ofInt 8 x ^^^ (1#8 <<< j)).toNat : Int)
theorem flip_ne (x : Int) (j : Nat) (hj : j < 8) : BitVec.ofInt 8 (flip x j) ≠ BitVec.ofInt 8 x := by
  intro h
  unfold flip at h
  rw [ofInt_toNat] at h
  have := congrArg (fun y => BitVec.ofInt 8 x ^^^ y) h
  simp only [← BitVec.xor_assoc, BitVec.xor_self, BitVec.zero_xor] at this
  have := congrArg (fun y : BitVec 8 => y.getLsbD j) this
  simp [BitVec.getLsbD_shiftLeft, hj] at this
theorem sh1 (j : Nat) (hj : j < 8) : IntKind.u8.wrap (1 * 2 ^ min j IntKind.u8.bits) = ((1#8 <<< j).toNat : Int) := by
  have : ∀ j : _root_.Fin 8, IntKind.u8.wrap (1 * 2 ^ min j.1 IntKind.u8.bits) = ((1#8 <<< j.1).toNat : Int) := by decide
  exact this ⟨j, hj⟩
theorem flip_eq (x : Int) (j : Nat) : IntKind.u8.wrap ((BitVec.ofInt IntKind.u8.bits x ^^^ BitVec.ofInt IntKind.u8.bits ((1#8 <<< j).toNat : Int)).toNat : Int) = flip x j := by
  have e : BitVec.ofInt 8 x ^^^ BitVec.ofInt 8 ((1#8 <<< j).toNat : Int) = BitVec.ofInt 8 x ^^^ (1#8 <<< j) := by rw [ofInt_toNat]
  exact (congrArg (fun x : BitVec 8 => IntKind.u8.wrap ((x.toNat : Nat) : Int)) e).trans (wrap_bv8 _)
theorem get_u8 (xs : List Int) (k : Nat) (h : k < xs.length) : (xs.map fun n => [V.x (.int .u8 n)]).getD k [] = [V.x (.int .u8 (xs.getD k 0))] := by
  simp [List.getD_eq_getElem?_getD, h]
theorem set_u8 (xs : List Int) (k : Nat) (v : Int) : (xs.map fun n => [V.x (.int .u8 n)]).set k [V.x (.int .u8 v)] = (xs.set k v).map fun n => [V.x (.int .u8 n)] := by
  rw [List.map_set]
theorem take_set (xs : List Int) (k : Nat) (v : Int) : (xs.set k v).take xs.length = xs.set k v := List.take_of_length_le (by simp)
theorem tmod_nat (a : Int) (n : Nat) (ha : 0 ≤ a) : ∃ k : Nat, a.tmod (n : Int) = k ∧ (n ≠ 0 → k < n) := by
  refine ⟨(a.tmod (n : Int)).toNat, ?_, fun h => ?_⟩
  · have := Int.tmod_nonneg (n : Int) ha; omega
  · have h1 := Int.tmod_nonneg (n : Int) ha
    have h2 := Int.tmod_lt_of_pos a (show 0 < (n : Int) by omega)
    omega
end Eng
end Go.Proofs.Ytgpjbcgbjpmgaaa
