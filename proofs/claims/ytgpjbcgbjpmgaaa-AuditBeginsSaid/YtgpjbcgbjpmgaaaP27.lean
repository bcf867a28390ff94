/- The plain law of the chain of sums: what differs stays different; what Check tells. -/
import Derived.Test.YtgpjbcgbjpmgaaaA2
set_option autoImplicit false
set_option linter.unusedSimpArgs false
set_option linter.unusedVariables false
set_option maxRecDepth 100000
namespace Go.Proofs.Ytgpjbcgbjpmgaaa
namespace Eng
theorem bits_sh (x : BitVec 32) (h : ∀ i, 24 ≤ i → x.getLsbD i = false) : bits 8 (x <<< 8) = x := by
  rw [bits_high 8 (by omega)]
  · apply BitVec.eq_of_getLsbD_eq
    intro i hi
    simp only [BitVec.getLsbD_ushiftRight, BitVec.getLsbD_shiftLeft]
    by_cases h24 : 24 ≤ i
    · rw [h i h24]; simp; omega
    · simp [show 8 + i < 32 by omega, show ¬ 8 + i < 8 by omega]
  · intro i hi
    simp [BitVec.getLsbD_shiftLeft, hi]
theorem xor_zero_eq {a b : BitVec 32} (h : a ^^^ b = 0#32) : a = b := by
  have := congrArg (fun x => x ^^^ b) h
  simpa [BitVec.xor_assoc, BitVec.xor_self] using this
theorem w_high (d : BitVec 8) (k i : Nat) (h : 8 + k ≤ i) : (d.setWidth 32 <<< k).getLsbD i = false := by
  simp only [BitVec.getLsbD_shiftLeft, BitVec.getLsbD_setWidth]
  rw [BitVec.getLsbD_of_ge d (i - k) (by omega)]
  simp
theorem w_high0 (d : BitVec 8) (i : Nat) (h : 8 ≤ i) : (d.setWidth 32).getLsbD i = false := by
  simp only [BitVec.getLsbD_setWidth]
  rw [BitVec.getLsbD_of_ge d i (by omega)]
  simp
/-- Four bytes that come to nothing are nothing. -/
theorem four_zero (d3 d2 d1 d0 : BitVec 8) (h : bits 8 (bits 8 (bits 8 (d3.setWidth 32) ^^^ d2.setWidth 32) ^^^ d1.setWidth 32) = d0.setWidth 32) : asmV d3 d2 d1 d0 = 0#32 := by
  have e1 : bits 8 (bits 8 (d3.setWidth 32) ^^^ d2.setWidth 32) ^^^ d1.setWidth 32 = d0.setWidth 32 <<< 8 := by
    apply bits_inj 8
    rw [h, bits_sh _ fun i hi => w_high0 d0 i (by omega)]
  have e2 : bits 8 (d3.setWidth 32) ^^^ d2.setWidth 32 = (d0.setWidth 32 <<< 8 ^^^ d1.setWidth 32) <<< 8 := by
    apply bits_inj 8
    rw [bits_sh _ fun i hi => by rw [BitVec.getLsbD_xor, w_high d0 8 i (by omega), w_high0 d1 i (by omega)]; rfl, ← e1, BitVec.xor_assoc, BitVec.xor_self, BitVec.xor_zero]
  have e3 : d3.setWidth 32 = ((d0.setWidth 32 <<< 8 ^^^ d1.setWidth 32) <<< 8 ^^^ d2.setWidth 32) <<< 8 := by
    apply bits_inj 8
    rw [bits_sh, ← e2, BitVec.xor_assoc, BitVec.xor_self, BitVec.xor_zero]
    intro i hi
    rw [BitVec.getLsbD_xor, w_high0 d2 i (by omega), BitVec.getLsbD_shiftLeft, BitVec.getLsbD_xor, w_high d0 8 _ (by omega), w_high0 d1 _ (by omega)]
    simp
  have g : ∀ i, i < 32 → (d3.setWidth 32).getLsbD i = if i < 8 then false else if i < 16 then d2.getLsbD (i - 8) else if i < 24 then d1.getLsbD (i - 16) else d0.getLsbD (i - 24) := by
    intro i hi
    rw [e3]
    have hz : ∀ (x : BitVec 8) (j : Nat), 8 ≤ j → x.getLsbD j = false := fun x j h => BitVec.getLsbD_of_ge _ _ h
    simp only [BitVec.getLsbD_shiftLeft, BitVec.getLsbD_xor, BitVec.getLsbD_setWidth, hi, decide_true, Bool.true_and]
    rcases Nat.lt_or_ge i 8 with h1 | h1
    · simp [h1]
    · rcases Nat.lt_or_ge i 16 with h2 | h2
      · simp [h2, show ¬ i < 8 by omega, show i - 8 < 8 by omega, show i - 8 < 32 by omega]
      · rcases Nat.lt_or_ge i 24 with h3 | h3
        · simp [h3, show ¬ i < 8 by omega, show ¬ i < 16 by omega, show ¬ i - 8 < 8 by omega, hz d2 (i - 8) (by omega), show i - 8 - 8 < 8 by omega, show i - 8 < 32 by omega, show i - 8 - 8 < 32 by omega, show i - 8 - 8 = i - 16 by omega, show i - 16 < 8 by omega, show i - 16 < 32 by omega]
        · simp [show ¬ i < 8 by omega, show ¬ i < 16 by omega, show ¬ i < 24 by omega, show ¬ i - 8 < 8 by omega, hz d2 (i - 8) (by omega), show ¬ i - 8 - 8 < 8 by omega, hz d1 (i - 8 - 8) (by omega), show i - 8 < 32 by omega, show i - 8 - 8 < 32 by omega, show i - 8 - 8 - 8 < 32 by omega, show i - 8 - 8 - 8 = i - 24 by omega, show i - 24 < 32 by omega]
  apply BitVec.eq_of_getLsbD_eq
  intro i hi
  rw [asmV_get _ _ _ _ _ hi, BitVec.getLsbD_zero]
  have lo : ∀ j, j < 8 → d3.getLsbD j = false := fun j hj => by
    have := g j (by omega)
    rw [if_pos hj, BitVec.getLsbD_setWidth] at this
    simpa [show j < 32 by omega] using this
  have hi0 : ∀ j, 8 ≤ j → j < 32 → (d3.setWidth 32).getLsbD j = false := fun j h1 _ => w_high0 d3 j h1
  repeat' split
  · have := g (i + 24) (by omega)
    rw [hi0 _ (by omega) (by omega), if_neg (by omega), if_neg (by omega), if_neg (by omega)] at this
    rw [show i = i + 24 - 24 by omega]; exact this.symm
  · have := g (i - 8 + 16) (by omega)
    rw [hi0 _ (by omega) (by omega), if_neg (by omega), if_neg (by omega), if_pos (by omega)] at this
    rw [show i - 8 = i - 8 + 16 - 16 by omega]; exact this.symm
  · have := g (i - 16 + 8) (by omega)
    rw [hi0 _ (by omega) (by omega), if_neg (by omega), if_pos (by omega)] at this
    rw [show i - 16 = i - 16 + 8 - 8 by omega]; exact this.symm
  · exact lo _ (by omega)
theorem w_xor (a b : BitVec 8) : (a ^^^ b).setWidth 32 = a.setWidth 32 ^^^ b.setWidth 32 := by
  apply BitVec.eq_of_getLsbD_eq
  intro i hi
  simp [BitVec.getLsbD_setWidth, hi]
theorem step_xor (x y : BitVec 32) (a b : BitVec 8) : bits 8 (x ^^^ a.setWidth 32) ^^^ bits 8 (y ^^^ b.setWidth 32) = bits 8 (x ^^^ y ^^^ (a ^^^ b).setWidth 32) := by
  rw [← bits_xor, w_xor]
  congr 1
  ac_rfl
/-- The four bytes of a sum lose nothing of it. -/
theorem crc4_inj (n s t : BitVec 32) (h : crcF n (b4 s) = crcF n (b4 t)) : s = t := by
  have key : ∀ (n : BitVec 32) (a b c d : BitVec 8), crcF n [(a.toNat : Int), (b.toNat : Int), (c.toNat : Int), (d.toNat : Int)] = bits 8 (bits 8 (bits 8 (bits 8 (n ^^^ a.setWidth 32) ^^^ b.setWidth 32) ^^^ c.setWidth 32) ^^^ d.setWidth 32) := by
    intro n a b c d
    show upd8 (upd8 (upd8 (upd8 n _) _) _) _ = _
    rw [upd8_bits, upd8_bits, upd8_bits, upd8_bits, ofInt_toNat, ofInt_toNat, ofInt_toNat, ofInt_toNat]
  rw [b4, b4, key, key] at h
  rw [← asmV_self s, ← asmV_self t]
  generalize (s >>> 24).setWidth 8 = a at *
  generalize (s >>> 16).setWidth 8 = b at *
  generalize (s >>> 8).setWidth 8 = c at *
  generalize s.setWidth 8 = d at *
  generalize (t >>> 24).setWidth 8 = a' at *
  generalize (t >>> 16).setWidth 8 = b' at *
  generalize (t >>> 8).setWidth 8 = c' at *
  generalize t.setWidth 8 = d' at *
  have h := bits_inj 8 h
  have e : bits 8 (bits 8 (bits 8 ((a ^^^ a').setWidth 32) ^^^ (b ^^^ b').setWidth 32) ^^^ (c ^^^ c').setWidth 32) = (d ^^^ d').setWidth 32 := by
    have h2 : bits 8 ((a ^^^ a').setWidth 32) = bits 8 (n ^^^ a.setWidth 32) ^^^ bits 8 (n ^^^ a'.setWidth 32) := by
      rw [step_xor, BitVec.xor_self, BitVec.zero_xor]
    rw [h2, ← step_xor, ← step_xor, w_xor]
    generalize bits 8 (bits 8 (bits 8 (n ^^^ a.setWidth 32) ^^^ b.setWidth 32) ^^^ c.setWidth 32) = p at h ⊢
    generalize bits 8 (bits 8 (bits 8 (n ^^^ a'.setWidth 32) ^^^ b'.setWidth 32) ^^^ c'.setWidth 32) = q at h ⊢
    have := congrArg (fun x => q ^^^ x ^^^ d.setWidth 32) h
    have l : q ^^^ (p ^^^ d.setWidth 32) ^^^ d.setWidth 32 = p ^^^ q := by
      rw [BitVec.xor_assoc, BitVec.xor_assoc, BitVec.xor_self, BitVec.xor_zero, BitVec.xor_comm]
    have r : q ^^^ (q ^^^ d'.setWidth 32) ^^^ d.setWidth 32 = d.setWidth 32 ^^^ d'.setWidth 32 := by
      rw [← BitVec.xor_assoc q q, BitVec.xor_self, BitVec.zero_xor, BitVec.xor_comm]
    rw [l, r] at this
    exact this
  have z := four_zero _ _ _ _ e
  have z24 := congrArg (fun x : BitVec 32 => (x >>> 24).setWidth 8) z
  have z16 := congrArg (fun x : BitVec 32 => (x >>> 16).setWidth 8) z
  have z8 := congrArg (fun x : BitVec 32 => (x >>> 8).setWidth 8) z
  have z0 := congrArg (fun x : BitVec 32 => x.setWidth 8) z
  simp only [asmV_24] at z24
  simp only [asmV_16] at z16
  simp only [asmV_8] at z8
  simp only [asmV_0] at z0
  have x8 : ∀ {x y : BitVec 8}, x ^^^ y = 0#8 → x = y := fun {x y} h => by
    have := congrArg (fun z => z ^^^ y) h
    simpa [BitVec.xor_assoc, BitVec.xor_self] using this
  rw [x8 (z24.trans (by rfl)), x8 (z16.trans (by rfl)), x8 (z8.trans (by rfl)), x8 (z0.trans (by rfl))]
theorem nextA_inj {s t : BitVec 32} {r : List Int} (h : nextA s r = nextA t r) : s = t := by
  unfold nextA crcS at h
  have h := BitVec.not_inj.1 h
  rw [crcF_app, crcF_app] at h
  exact crc4_inj _ _ _ (crcF_inj r h)
/-- Check goes on as long as the sums are those. -/
theorem chk_go (l : List (List Int)) (ss : List (BitVec 32)) (hok : allOk l) (m : Nat) (hm : m ≤ l.length) (hs : m ≤ ss.length) (h : ∀ i, i < m → ss.getD i 0#32 = lastA (l.take (i + 1))) : chkF 0#32 l ss 0 = chkF (lastA (l.take m)) (l.drop m) (ss.drop m) m := by
  induction m with
  | zero => rfl
  | succ m ih =>
    rw [ih (by omega) (by omega) fun i hi => h i (by omega), getD_drop l m (by omega), getD_drop0 ss m (by omega), chk_on (hok m (by omega)), ← lastA_succ l m (by omega)]
    rw [h m (by omega), lastA_succ l m (by omega)]
theorem chk_self (l : List (List Int)) (hok : allOk l) : chkF 0#32 l (psum l l.length) 0 = (l.length, 0) := by
  rw [chk_go l _ hok l.length (Nat.le_refl _) (by rw [psum_len]; exact Nat.le_refl _) fun i hi => psum_get l _ i hi, List.drop_length, chk_end, if_pos]
  exact List.drop_eq_nil_of_le (by rw [psum_len]; exact Nat.le_refl _)
theorem chk_few (l : List (List Int)) (k : Nat) (hok : allOk l) (hk : k ≤ l.length) : chkF 0#32 l ((psum l l.length).take k) 0 = (k, if k = l.length then 0 else 2) := by
  have hl : ((psum l l.length).take k).length = k := by rw [List.length_take, psum_len]; omega
  rw [chk_go l _ hok k hk (by omega) fun i hi => by
    rw [List.getD_eq_getElem?_getD, List.getElem?_take_of_lt hi, ← List.getD_eq_getElem?_getD]; exact psum_get l _ i (by omega), List.drop_eq_nil_of_le (show ((psum l l.length).take k).length ≤ k by omega)]
  by_cases h : k = l.length
  · rw [if_pos h, h, List.drop_length, chk_end, if_pos rfl]
  · rw [if_neg h, getD_drop l k (by omega), chk_short (hok k (by omega))]
theorem chk_many (l : List (List Int)) (k : Nat) (hok : allOk l) (hk : k ≤ l.length) : chkF 0#32 (l.take k) (psum l l.length) 0 = (k, if k = l.length then 0 else 2) := by
  have hl : (l.take k).length = k := by rw [List.length_take]; omega
  have hok2 : allOk (l.take k) := fun j hj => by
    rw [List.getD_eq_getElem?_getD, List.getElem?_take_of_lt (by omega), ← List.getD_eq_getElem?_getD]; exact hok j (by omega)
  rw [chk_go (l.take k) _ hok2 k (by omega) (by rw [psum_len]; omega) fun i hi => by
    rw [psum_get l _ i (by omega), List.take_take, Nat.min_eq_left (by omega)], List.drop_eq_nil_of_le (show (l.take k).length ≤ k by omega), chk_end]
  by_cases h : k = l.length
  · rw [if_pos h, if_pos (List.drop_eq_nil_of_le (by rw [psum_len]; omega))]
  · rw [if_neg h, if_neg]
    intro x
    have := congrArg List.length x
    rw [List.length_drop, psum_len] at this
    simp at this; omega
theorem psum_cut (l : List (List Int)) (k : Nat) (hk : k ≤ l.length) : psum (l.take k) (l.take k).length = (psum l l.length).take k := by
  rw [List.length_take, Nat.min_eq_left hk, psum, psum, ← List.map_take, List.take_range, Nat.min_eq_left hk]
  apply List.map_congr_left
  intro i hi
  rw [List.take_take, Nat.min_eq_left (by have := List.mem_range.1 hi; omega)]
/-- An entry of which one bit was turned. -/
theorem last_turned (l : List (List Int)) (k : Nat) (r' : List Int) (hk : k < l.length) (hne : ∀ s, nextA s r' ≠ nextA s (l.getD k default)) (i : Nat) (hi : i < l.length) : (lastA ((l.set k r').take (i + 1)) = lastA (l.take (i + 1))) ↔ i < k := by
  have before : ∀ m, m ≤ k → lastA ((l.set k r').take m) = lastA (l.take m) := fun m hm => by rw [List.take_set_of_le hm]
  have after : ∀ d, k + d < l.length → lastA ((l.set k r').take (k + d + 1)) ≠ lastA (l.take (k + d + 1)) := by
    intro d
    induction d with
    | zero =>
      intro h
      rw [Nat.add_zero, lastA_succ _ k (by rw [List.length_set]; exact hk), lastA_succ l k hk, before k (Nat.le_refl _)]
      have : (l.set k r').getD k default = r' := by rw [List.getD_eq_getElem?_getD, List.getElem?_set_self hk]; rfl
      rw [this]
      exact hne _
    | succ d ih =>
      intro h
      rw [← Nat.add_assoc] at h ⊢
      rw [lastA_succ _ (k + d + 1) (by rw [List.length_set]; exact h), lastA_succ l (k + d + 1) h]
      have : (l.set k r').getD (k + d + 1) default = l.getD (k + d + 1) default := by
        rw [List.getD_eq_getElem?_getD, List.getElem?_set_ne (by omega), ← List.getD_eq_getElem?_getD]
      rw [this]
      exact fun x => ih (by omega) (nextA_inj x)
  constructor
  · intro h
    rcases Nat.lt_or_ge i k with hi | hi
    · exact hi
    · have := after (i - k) (by omega)
      rw [show k + (i - k) = i by omega] at this
      exact absurd h this
  · intro h
    exact before (i + 1) (by omega)
theorem turned_ne (s : BitVec 32) (r : List Int) (n j : Nat) (hn : n < r.length) (hj : j < 8) : nextA s (r.set n (flip (r.getD n 0) j)) ≠ nextA s r := by
  have e : b4 s ++ r.set n (flip (r.getD n 0) j) = (b4 s ++ r).set (n + 4) (flip (r.getD n 0) j) := rfl
  unfold nextA
  rw [e]
  exact crcS_set _ _ _ (by simp [b4]; omega) (flip_ne _ j hj)
theorem allOk_set (l : List (List Int)) (k : Nat) (r' : List Int) (hok : allOk l) (h : okB r' = true) : allOk (l.set k r') := fun j hj => by
  rw [List.length_set] at hj
  rw [List.getD_eq_getElem?_getD, List.getElem?_set]
  split
  · split
    · exact h
    · omega
  · rw [← List.getD_eq_getElem?_getD]; exact hok j hj
theorem chk_turned (l : List (List Int)) (k : Nat) (r' : List Int) (hok : allOk l) (hr : okB r' = true) (hk : k < l.length) (hne : ∀ s, nextA s r' ≠ nextA s (l.getD k default)) : chkF 0#32 (l.set k r') (psum l l.length) 0 = (k, 11) := by
  have hl : (l.set k r').length = l.length := List.length_set
  have hg : (l.set k r').getD k default = r' := by rw [List.getD_eq_getElem?_getD, List.getElem?_set_self hk]; rfl
  rw [chk_go (l.set k r') _ (allOk_set l k r' hok hr) k (by omega) (by rw [psum_len]; omega) fun i hi => by
    rw [psum_get l _ i (by omega)]; exact ((last_turned l k r' hk hne i (by omega)).2 hi).symm, getD_drop _ k (by omega), getD_drop0 _ k (by rw [psum_len]; omega), hg]
  apply chk_sum hr
  rw [psum_get l _ k hk, lastA_succ l k hk, List.take_set_of_le (Nat.le_refl _)]
  exact hne _
end Eng
end Go.Proofs.Ytgpjbcgbjpmgaaa
