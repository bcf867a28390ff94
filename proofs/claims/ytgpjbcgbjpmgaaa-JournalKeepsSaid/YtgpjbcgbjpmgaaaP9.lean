/- The plain law of records: what Put writes, Next reads; one bit turned, its sum tells. -/
import Derived.Test.YtgpjbcgbjpmgaaaC9
set_option autoImplicit false
set_option linter.unusedSimpArgs false
set_option linter.unusedVariables false
set_option maxRecDepth 100000
namespace Go.Proofs.Ytgpjbcgbjpmgaaa
namespace Eng
theorem asm4_V (b : List Int) (hb : Byt b) : asm4 b = asmV (BitVec.ofInt 8 (b.getD 2 0)) (BitVec.ofInt 8 (b.getD 3 0)) (BitVec.ofInt 8 (b.getD 4 0)) (BitVec.ofInt 8 (b.getD 5 0)) := by
  unfold asm4 asmV
  rw [ofInt_w _ (hb 2), ofInt_w _ (hb 3), ofInt_w _ (hb 4), ofInt_w _ (hb 5)]
theorem getD_set_ne (b : List Int) (k j : Nat) (v : Int) (h : k ≠ j) : (b.set k v).getD j 0 = b.getD j 0 := by
  rw [List.getD_eq_getElem?_getD, List.getElem?_set_ne h, ← List.getD_eq_getElem?_getD]
theorem getD_set_eq (b : List Int) (k : Nat) (v : Int) (h : k < b.length) : (b.set k v).getD k 0 = v := by
  rw [List.getD_eq_getElem?_getD, List.getElem?_set_self h]; rfl
theorem put_L (r rest : List Int) (h : r.length ≤ 4096) : nextL (put r ++ rest) = r.length := by
  show ((r.length / 256 % 256 : Nat) : Int) * 256 + ((r.length % 256 : Nat) : Int) = r.length
  omega
theorem put_R (r rest : List Int) (h : r.length ≤ 4096) : nextR (put r ++ rest) = r := by
  rw [nextR, put_L r rest h, show (6 + (r.length : Int)).toNat = 6 + r.length by omega, show put r ++ rest = hd r.length ++ (b4 (sm r) ++ (r ++ rest)) by simp [put]]
  rw [show 6 + r.length = r.length + 6 by omega]
  show (r ++ rest).take r.length = r
  rw [List.take_append_of_le_length (Nat.le_refl _), List.take_length]
theorem asm4_put (r rest : List Int) : asm4 (put r ++ rest) = sm r := by
  have w : ∀ x : BitVec 8, BitVec.ofInt 32 (x.toNat : Int) = x.setWidth 32 := fun x => by
    rw [ofInt_w _ (bv8_rng x), ofInt_toNat]
  have g2 : (put r ++ rest).getD 2 0 = (((sm r >>> 24).setWidth 8).toNat : Int) := rfl
  have g3 : (put r ++ rest).getD 3 0 = (((sm r >>> 16).setWidth 8).toNat : Int) := rfl
  have g4 : (put r ++ rest).getD 4 0 = (((sm r >>> 8).setWidth 8).toNat : Int) := rfl
  have g5 : (put r ++ rest).getD 5 0 = (((sm r).setWidth 8).toNat : Int) := rfl
  unfold asm4
  rw [g2, g3, g4, g5, w, w, w, w]
  exact asmV_self (sm r)
/-- What Put writes, Next reads, whatever comes behind. -/
theorem next_put (r rest : List Int) (h1 : 1 ≤ r.length) (h : r.length ≤ 4096) : next (put r ++ rest) = (r, 6 + (r.length : Int), 0) := by
  have hl : (put r ++ rest).length = 6 + r.length + rest.length := by rw [List.length_append, put_len]
  unfold next
  rw [put_L r rest h, put_R r rest h, asm4_put, if_neg (by omega), if_neg (by omega), if_neg (by omega), if_pos]
  rfl
/-- A beginning of a record is told to be short. -/
theorem next_cut (r : List Int) (i : Nat) (h1 : 1 ≤ r.length) (h : r.length ≤ 4096) (hi : i < 6 + r.length) : next ((put r).take i) = ([], 0, 2) := by
  have hl : ((put r).take i).length = i := by rw [List.length_take, put_len]; omega
  unfold next
  by_cases h6 : i < 6
  · rw [if_pos (by omega)]
  rw [if_neg (by omega)]
  have e : nextL ((put r).take i) = r.length := by
    have := put_L r [] h
    rw [List.append_nil] at this
    rw [← this]
    unfold nextL
    rw [List.getD_eq_getElem?_getD, List.getD_eq_getElem?_getD, List.getElem?_take_of_lt (by omega), List.getElem?_take_of_lt (by omega), ← List.getD_eq_getElem?_getD, ← List.getD_eq_getElem?_getD]
  rw [e, if_neg (by omega), if_pos (by omega)]
/-- One bit of a record's sum or bytes turned: its sum tells. -/
theorem spoilt (r : List Int) (k j : Nat) (hr : Byt r) (h1 : 1 ≤ r.length) (h : r.length ≤ 4096) (hk2 : 2 ≤ k) (hk : k < (put r).length) (hj : j < 8) : next ((put r).set k (flip ((put r).getD k 0) j)) = ([], 0, 11) := by
  have hp := put_L r [] h
  have hp4 := asm4_put r []
  have hR := put_R r [] h
  rw [List.append_nil] at hp hp4 hR
  have hne := flip_ne ((put r).getD k 0) j hj
  have hrg := flip_rng ((put r).getD k 0) j
  generalize flip ((put r).getD k 0) j = v at hne hrg ⊢
  have hL : nextL ((put r).set k v) = r.length := by
    rw [← hp]; unfold nextL
    rw [getD_set_ne _ _ _ _ (by omega), getD_set_ne _ _ _ _ (by omega)]
  have hl : ((put r).set k v).length = 6 + r.length := by rw [List.length_set, put_len]
  unfold next
  rw [hL, if_neg (by omega), if_neg (by omega), if_neg (by omega), if_neg]
  have hb := byt_set (byt_put hr) k hrg
  have hs := byt_put hr
  have e1 : ((put r).set k v).take 2 = hd r.length := by
    rw [List.take_set_of_le (by omega)]; rfl
  rw [e1, nextR, hL, show (6 + (r.length : Int)).toNat = ((put r).set k v).length by omega, List.take_length]
  by_cases h6 : k < 6
  · have e2 : ((put r).set k v).drop 6 = r := by
      rw [List.drop_set_of_lt h6]; rfl
    rw [e2]
    intro hx
    have hx : asm4 ((put r).set k v) = asm4 (put r) := hx.symm.trans hp4.symm
    rw [asm4_V _ hb, asm4_V _ hs] at hx
    have p24 := congrArg (fun x : BitVec 32 => (x >>> 24).setWidth 8) hx
    have p16 := congrArg (fun x : BitVec 32 => (x >>> 16).setWidth 8) hx
    have p8 := congrArg (fun x : BitVec 32 => (x >>> 8).setWidth 8) hx
    have p0 := congrArg (fun x : BitVec 32 => x.setWidth 8) hx
    simp only [asmV_24] at p24
    simp only [asmV_16] at p16
    simp only [asmV_8] at p8
    simp only [asmV_0] at p0
    rcases (show k = 2 ∨ k = 3 ∨ k = 4 ∨ k = 5 by omega) with rfl | rfl | rfl | rfl
    · rw [getD_set_eq _ _ _ hk] at p24; exact hne p24
    · rw [getD_set_eq _ _ _ hk] at p16; exact hne p16
    · rw [getD_set_eq _ _ _ hk] at p8; exact hne p8
    · rw [getD_set_eq _ _ _ hk] at p0; exact hne p0
  · have e2 : hd r.length ++ ((put r).set k v).drop 6 = (hd r.length ++ r).set (k - 4) v := by
      obtain ⟨i, rfl⟩ : ∃ i, k = i + 6 := ⟨k - 6, by omega⟩
      show hd r.length ++ r.set i v = _
      rw [show i + 6 - 4 = i + 2 by omega]; rfl
    have e3 : asm4 ((put r).set k v) = sm r := by
      rw [← hp4]; unfold asm4
      rw [getD_set_ne _ _ _ _ (by omega), getD_set_ne _ _ _ _ (by omega), getD_set_ne _ _ _ _ (by omega), getD_set_ne _ _ _ _ (by omega)]
    rw [e2, e3]
    have hkl : k - 4 < (hd r.length ++ r).length := by
      rw [put_len] at hk; show k - 4 < r.length + 1 + 1; omega
    refine crcS_set _ _ _ hkl ?_
    have e4 : (hd r.length ++ r).getD (k - 4) 0 = (put r).getD k 0 := by
      obtain ⟨i, rfl⟩ : ∃ i, k = i + 6 := ⟨k - 6, by omega⟩
      rw [show i + 6 - 4 = i + 2 by omega]; rfl
    rw [e4]; exact hne
end Eng
end Go.Proofs.Ytgpjbcgbjpmgaaa
