/- The sums of bytes, bit by bit, and what the operations on 32-bit numbers come to. -/
import Derived.Test.YtgpjbcgbjpmgaaaEngZ
set_option autoImplicit false
set_option linter.unusedSimpArgs false
set_option linter.unusedVariables false
namespace Go.Proofs.Ytgpjbcgbjpmgaaa
namespace Eng

def bit1 (n : BitVec 32) : BitVec 32 := if (n &&& 1#32) = 1#32 then (n >>> 1) ^^^ 3988292384#32 else n >>> 1
def bits : Nat → BitVec 32 → BitVec 32
  | 0, n => n
  | k + 1, n => bit1 (bits k n)
def tab (c : BitVec 8) : BitVec 32 := bits 8 (c.setWidth 32)
def upd8 (n : BitVec 32) (c : Int) : BitVec 32 := (n >>> 8) ^^^ tab (n.setWidth 8 ^^^ BitVec.ofInt 8 c)
def crcF (n : BitVec 32) (xs : List Int) : BitVec 32 := xs.foldl upd8 n
def crcS (xs : List Int) : BitVec 32 := ~~~ (crcF 4294967295#32 xs)

theorem ofInt_toNat {m : Nat} (n : BitVec m) : BitVec.ofInt m (n.toNat : Int) = n := by
  rw [show ((n.toNat : Nat) : Int) = (n.toNat : Int) from rfl, BitVec.ofInt_natCast, BitVec.ofNat_toNat, BitVec.setWidth_eq]
theorem wrap_bv (n : BitVec 32) : IntKind.u32.wrap ((n.toNat : Nat) : Int) = (n.toNat : Int) := wrap_u32 _ (by omega) (by have := n.isLt; omega)
theorem wrap_bv8 (n : BitVec 8) : IntKind.u8.wrap ((n.toNat : Nat) : Int) = (n.toNat : Int) := wrap_u8 _ (by omega) (by have := n.isLt; omega)
theorem bv_xor (a b : BitVec 32) : IntKind.u32.wrap ((BitVec.ofInt IntKind.u32.bits (a.toNat : Int) ^^^ BitVec.ofInt IntKind.u32.bits (b.toNat : Int)).toNat : Int) = ((a ^^^ b).toNat : Int) := by
  have e : BitVec.ofInt 32 (a.toNat : Int) ^^^ BitVec.ofInt 32 (b.toNat : Int) = a ^^^ b := by rw [ofInt_toNat, ofInt_toNat]
  exact (congrArg (fun x : BitVec 32 => IntKind.u32.wrap ((x.toNat : Nat) : Int)) e).trans (wrap_bv _)
theorem bv_xorP (a : BitVec 32) : IntKind.u32.wrap ((BitVec.ofInt IntKind.u32.bits (a.toNat : Int) ^^^ BitVec.ofInt IntKind.u32.bits 3988292384).toNat : Int) = ((a ^^^ 3988292384#32).toNat : Int) := bv_xor a 3988292384#32
theorem bv_and1 (a : BitVec 32) : IntKind.u32.wrap ((BitVec.ofInt IntKind.u32.bits (a.toNat : Int) &&& BitVec.ofInt IntKind.u32.bits 1).toNat : Int) = ((a &&& 1#32).toNat : Int) := by
  have e : BitVec.ofInt 32 (a.toNat : Int) &&& BitVec.ofInt 32 1 = a &&& 1#32 := by rw [ofInt_toNat]; rfl
  exact (congrArg (fun x : BitVec 32 => IntKind.u32.wrap ((x.toNat : Nat) : Int)) e).trans (wrap_bv _)
theorem bv_not (a : BitVec 32) : IntKind.u32.wrap ((BitVec.ofInt IntKind.u32.bits IntKind.u32.max ^^^ BitVec.ofInt IntKind.u32.bits (a.toNat : Int)).toNat : Int) = ((~~~ a).toNat : Int) := by
  have e : BitVec.ofInt 32 IntKind.u32.max ^^^ BitVec.ofInt 32 (a.toNat : Int) = ~~~ a := by rw [ofInt_toNat, show BitVec.ofInt 32 IntKind.u32.max = BitVec.allOnes 32 from by decide, BitVec.allOnes_xor]
  exact (congrArg (fun x : BitVec 32 => IntKind.u32.wrap ((x.toNat : Nat) : Int)) e).trans (wrap_bv _)
theorem un_not (a : BitVec 32) : unE .xor (.e (.c (.v (.x (.int .u32 (a.toNat : Int)))))) = .ret (.e (.c (.v (.x (.int .u32 ((~~~ a).toNat : Int))))), []) := by
  rw [← bv_not]; rfl
theorem bv_shr (k : Nat) (a : BitVec 32) (hk : k ≤ 32) : ((a.toNat : Nat) : Int).fdiv (2 ^ (min k IntKind.u32.bits)) = ((a >>> k).toNat : Int) := by
  rw [show min k IntKind.u32.bits = k from Nat.min_eq_left hk, Int.fdiv_eq_ediv_of_nonneg _ (by exact Int.le_of_lt (Int.pow_pos (by omega)))]
  rw [BitVec.toNat_ushiftRight, Nat.shiftRight_eq_div_pow]
  norm_cast
theorem bv_shr1 (a : BitVec 32) : ((a.toNat : Nat) : Int).fdiv (2 ^ (min (Int.toNat 1) IntKind.u32.bits)) = ((a >>> 1).toNat : Int) := bv_shr 1 a (by omega)
theorem bv_shr8 (a : BitVec 32) : ((a.toNat : Nat) : Int).fdiv (2 ^ (min (Int.toNat 8) IntKind.u32.bits)) = ((a >>> 8).toNat : Int) := bv_shr 8 a (by omega)
theorem bv_shr16 (a : BitVec 32) : ((a.toNat : Nat) : Int).fdiv (2 ^ (min (Int.toNat 16) IntKind.u32.bits)) = ((a >>> 16).toNat : Int) := bv_shr 16 a (by omega)
theorem bv_shr24 (a : BitVec 32) : ((a.toNat : Nat) : Int).fdiv (2 ^ (min (Int.toNat 24) IntKind.u32.bits)) = ((a >>> 24).toNat : Int) := bv_shr 24 a (by omega)
theorem bv_low (a : BitVec 32) : IntKind.u8.wrap ((a.toNat : Nat) : Int) = ((a.setWidth 8).toNat : Int) := by
  simp only [IntKind.wrap, IntKind.bits, IntKind.signed, BitVec.toNat_setWidth]
  simp
theorem bv_xor8 (a : BitVec 8) (c : Int) : IntKind.u8.wrap ((BitVec.ofInt IntKind.u8.bits (a.toNat : Int) ^^^ BitVec.ofInt IntKind.u8.bits c).toNat : Int) = ((a ^^^ BitVec.ofInt 8 c).toNat : Int) := by
  have e : BitVec.ofInt 8 (a.toNat : Int) ^^^ BitVec.ofInt 8 c = a ^^^ BitVec.ofInt 8 c := by rw [ofInt_toNat]
  exact (congrArg (fun x : BitVec 8 => IntKind.u8.wrap ((x.toNat : Nat) : Int)) e).trans (wrap_bv8 _)
theorem bv_odd (a : BitVec 32) : (((a &&& 1#32).toNat : Int) == 1) = decide (a &&& 1#32 = 1#32) := by
  rw [Bool.eq_iff_iff]
  simp only [beq_iff_eq, decide_eq_true_eq]
  rw [← BitVec.toNat_inj]
  simp only [BitVec.toNat_ofNat]
  omega
theorem bits_odd {k : Nat} {n : BitVec 32} (h : bits k n &&& 1#32 = 1#32) : (bits k n >>> 1) ^^^ 3988292384#32 = bits (k + 1) n := by
  rw [bits, bit1, if_pos h]
theorem bits_even {k : Nat} {n : BitVec 32} (h : ¬ bits k n &&& 1#32 = 1#32) : (bits k n >>> 1) = bits (k + 1) n := by
  rw [bits, bit1, if_neg h]

/-- The table's cells, of which the first i have been made. -/
def sumsAt (i : Nat) : List C := (List.range 256).map fun j => .v (.x (.int .u32 (if j < i then (bits 8 (BitVec.ofNat 32 j)).toNat else 0 : Nat)))
theorem sumsAt_len (i : Nat) : (sumsAt i).length = 256 := by simp [sumsAt]
theorem sums_put (x y z : C) (i : Nat) (h : i < 256) : List.take (3 + i) (x :: y :: z :: sumsAt i) ++ [.v (.x (.int .u32 ((bits 8 (BitVec.ofNat 32 i)).toNat : Int)))] ++ List.drop (3 + i) (y :: z :: sumsAt i) = x :: y :: z :: sumsAt (i + 1) := by
  change splice (x :: y :: z :: sumsAt i) (3 + i) [.v (.x (.int .u32 ((bits 8 (BitVec.ofNat 32 i)).toNat : Int)))] = _
  rw [Nat.add_comm 3 i]
  unfold splice
  simp only [List.take_succ_cons, List.cons_append, List.length_singleton]
  rw [show i + 3 + 1 = (i + 1) + 3 by omega]
  simp only [List.drop_succ_cons]
  congr 3
  apply List.ext_getElem?
  intro j
  rcases Nat.lt_trichotomy j i with hj | hj | hj
  · rw [List.getElem?_append_left (by simp [sumsAt_len]; omega), List.getElem?_append_left (by simp [sumsAt_len]; omega), List.getElem?_take, if_pos hj]
    simp only [sumsAt, List.getElem?_map, List.getElem?_range (show j < 256 by omega), Option.map_some, if_pos hj, if_pos (show j < i + 1 by omega)]
  · subst hj
    rw [List.getElem?_append_left (by simp [sumsAt_len]; omega), List.getElem?_append_right (by simp [sumsAt_len]; omega)]
    simp only [List.length_take, sumsAt_len, Nat.min_eq_left (Nat.le_of_lt h), Nat.sub_self, List.getElem?_cons_zero]
    simp only [sumsAt, List.getElem?_map, List.getElem?_range h, Option.map_some, if_pos (show j < j + 1 by omega)]
  · rw [List.getElem?_append_right (by simp [sumsAt_len]; omega), List.getElem?_drop]
    simp only [List.length_append, List.length_take, sumsAt_len, Nat.min_eq_left (Nat.le_of_lt h), List.length_singleton]
    rw [show i + 1 + (j - (i + 1)) = j by omega]
    by_cases h2 : j < 256
    · simp only [sumsAt, List.getElem?_map, List.getElem?_range h2, Option.map_some, if_neg (show ¬ j < i by omega), if_neg (show ¬ j < i + 1 by omega)]
    · rw [List.getElem?_eq_none (by simp [sumsAt_len]; omega), List.getElem?_eq_none (by simp [sumsAt_len]; omega)]
theorem sums_get (c : BitVec 8) : (sumsAt 256).getD c.toNat default = .v (.x (.int .u32 ((tab c).toNat : Int))) := by
  have h : c.toNat < 256 := c.isLt
  simp only [List.getD_eq_getElem?_getD, sumsAt, List.getElem?_map, List.getElem?_range h, Option.map_some, Option.getD_some, if_pos h]
  rw [tab, show BitVec.ofNat 32 c.toNat = c.setWidth 32 from by apply BitVec.eq_of_toNat_eq; simp]
end Eng
end Go.Proofs.Ytgpjbcgbjpmgaaa
