/- Numbers and their texts, plainly. -/
import Derived.Test.YtllfgnhnooonfaaDoorT1
import Derived.Lib.ParseIntB
import Derived.Lib.ItoaNum
set_option autoImplicit false
set_option linter.unusedSimpArgs false
set_option linter.unusedVariables false
namespace Go.Proofs.YtllfgnhnooonfaaDoor
namespace Eng
def isD (c : UInt8) : Bool := decide (48 ≤ c.toNat ∧ c.toNat ≤ 57)
def valA (a : Nat) (l : List UInt8) : Nat := l.foldl (fun a c => a * 10 + (c.toNat - 48)) a
def cutM (l : List UInt8) : List UInt8 × Bool := match l with
  | [] => ([], false)
  | c :: r => if c = 45 then (r, true) else (c :: r, false)
def formP (d : List UInt8) (b : Bool) : Prop := d = [] ∨ (d.head? = some 48 ∧ (b = true ∨ 1 < d.length))
instance (d : List UInt8) (b : Bool) : Decidable (formP d b) := by unfold formP; exact inferInstance
def endP (v : Nat) (b : Bool) : Int × Int := if v ≤ 4611686018427387904 then (if b = true then -(v : Int) else (v : Int), 0) else (0, 9)
def digP (d : List UInt8) (b : Bool) : Int × Int := if d.all isD = true then endP (valA 0 d) b else (0, 3)
def parseS (l : List UInt8) : Int × Int :=
  if 20 < l.length then (0, 4) else
  if formP (cutM l).1 (cutM l).2 then (0, 3) else digP (cutM l).1 (cutM l).2
theorem valA_nil (a : Nat) : valA a [] = a := rfl
theorem valA_cons (a : Nat) (c : UInt8) (l : List UInt8) : valA a (c :: l) = valA (a * 10 + (c.toNat - 48)) l := by unfold valA; exact List.foldl_cons ..
theorem valA_app (a : Nat) (l m : List UInt8) : valA a (l ++ m) = valA (valA a l) m := List.foldl_append ..
theorem valA_ge : ∀ (l : List UInt8) (a : Nat), a ≤ valA a l
  | [], a => Nat.le_refl _
  | c :: l, a => by rw [valA_cons]; exact Nat.le_trans (by omega) (valA_ge l _)
/-- What strconv.ParseUint tells of digits. -/
theorem parseM_digits {M : Nat} (hM : M = 18446744073709551615) (l : List UInt8) : ∀ (acc : Nat), l.all isD = true → acc ≤ M → Lib.parseUintM M acc l = if valA acc l ≤ M then .ok (valA acc l) else .range := by
  induction l with
  | nil => intro acc _ h; rw [valA_nil, if_pos h]; simp only [Lib.parseUintM]
  | cons c r ih =>
    intro acc hd h
    rw [List.all_cons, Bool.and_eq_true] at hd
    have hc : 48 ≤ c.toNat ∧ c.toNat ≤ 57 := of_decide_eq_true hd.1
    have hge := valA_ge r (acc * 10 + (c.toNat - 48))
    rw [valA_cons]
    simp only [Lib.parseUintM]
    rw [if_pos hc]
    by_cases h1 : 1844674407370955162 ≤ acc
    · rw [if_pos h1, if_neg (by omega)]
    · rw [if_neg h1]
      by_cases h2 : M < acc * 10 + (c.toNat - 48)
      · rw [if_pos h2, if_neg (by omega)]
      · rw [if_neg h2, ih _ hd.2 (by omega)]
theorem parseB_digits {l : List UInt8} (h0 : l ≠ []) (hd : l.all isD = true) : Lib.parseUintB 64 l = if valA 0 l ≤ 18446744073709551615 then .ok (valA 0 l) else .range := by
  rw [Lib.parseUintB, if_neg h0]
  have hM : 2 ^ 64 - 1 = 18446744073709551615 := by decide
  rw [parseM_digits hM l 0 hd (Nat.zero_le _), hM]
/-- Decimal numerals. -/
theorem u8_of {n : Nat} (h : n < 10) : (UInt8.ofNat (48 + n)).toNat = 48 + n := by
  rw [UInt8.toNat_ofNat', Nat.mod_eq_of_lt (by omega)]
theorem dec_small {u : Nat} (h : u < 10) : Lib.decDigits u = [UInt8.ofNat (48 + u)] := by rw [Lib.decDigits, dif_pos h]
theorem dec_big {u : Nat} (h : ¬ u < 10) : Lib.decDigits u = Lib.decDigits (u / 10) ++ [UInt8.ofNat (48 + u % 10)] := by rw [Lib.decDigits, dif_neg h]
theorem dec_spec : ∀ (n u : Nat), u ≤ n → (Lib.decDigits u).all isD = true ∧ valA 0 (Lib.decDigits u) = u ∧ Lib.decDigits u ≠ [] ∧ ((Lib.decDigits u).head? = some 48 → u = 0) := by
  intro n
  induction n with
  | zero =>
    intro u hu
    obtain rfl : u = 0 := by omega
    rw [dec_small (by omega)]
    exact ⟨by decide, by decide, by simp, fun _ => rfl⟩
  | succ n ih =>
    intro u hu
    by_cases h : u < 10
    · rw [dec_small h]
      refine ⟨?_, ?_, by simp, fun hh => ?_⟩
      · rw [List.all_cons, List.all_nil, Bool.and_true]
        exact decide_eq_true (by rw [u8_of h]; omega)
      · rw [valA_cons, valA_nil, u8_of h]; omega
      · have e : UInt8.ofNat (48 + u) = 48 := by simpa using hh
        have := u8_of h
        rw [e] at this
        have e2 : (48 : UInt8).toNat = 48 := rfl
        omega
    · rw [dec_big h]
      obtain ⟨i1, i2, i3, i4⟩ := ih (u / 10) (by omega)
      have hm : u % 10 < 10 := Nat.mod_lt _ (by omega)
      refine ⟨?_, ?_, by simp, fun hh => ?_⟩
      · rw [List.all_append, i1, List.all_cons, List.all_nil, Bool.and_true, Bool.true_and]
        exact decide_eq_true (by rw [u8_of hm]; omega)
      · rw [valA_app, i2, valA_cons, valA_nil, u8_of hm]; omega
      · have hh2 : (Lib.decDigits (u / 10)).head? = some 48 := by
          cases hd : Lib.decDigits (u / 10) with
          | nil => exact absurd hd i3
          | cons x r => rw [hd] at hh; exact hh
        have := i4 hh2
        omega
theorem dec_len : ∀ (k u : Nat), u < 10 ^ (k + 1) → (Lib.decDigits u).length ≤ k + 1
  | 0, u, h => by rw [dec_small (by simpa using h)]; exact Nat.le_refl _
  | k + 1, u, h => by
    by_cases h1 : u < 10
    · rw [dec_small h1]; simp
    · rw [dec_big h1, List.length_append]
      have := dec_len k (u / 10) (by rw [Nat.pow_succ] at h; omega)
      simp
      omega
/-- A number is read from its text. -/
theorem parse_show {n : Int} (h : okN n) : parseS (Lib.itoa n) = (n, 0) := by
  obtain ⟨h1, h2⟩ := h
  by_cases hn : n < 0
  · obtain ⟨u, rfl⟩ : ∃ u : Nat, n = -(u : Int) := ⟨n.natAbs, by omega⟩
    have e : Lib.itoa (-(u : Int)) = 45 :: Lib.decDigits u := by rw [Lib.itoa, if_pos hn, show (-(u : Int)).natAbs = u by omega]
    obtain ⟨i1, i2, i3, i4⟩ := dec_spec u u (Nat.le_refl _)
    have hl := dec_len 18 u (by omega)
    rw [e, parseS, if_neg (by rw [List.length_cons]; omega)]
    have hc : cutM (45 :: Lib.decDigits u) = (Lib.decDigits u, true) := rfl
    rw [hc, if_neg, digP, if_pos i1, endP, i2, if_pos (by omega), if_pos rfl]
    rintro (h | ⟨h, _⟩)
    · exact i3 h
    · have := i4 h; omega
  · obtain ⟨u, rfl⟩ : ∃ u : Nat, n = (u : Int) := ⟨n.toNat, by omega⟩
    have e : Lib.itoa (u : Int) = Lib.decDigits u := by rw [Lib.itoa, if_neg hn, show ((u : Int)).toNat = u by omega]
    obtain ⟨i1, i2, i3, i4⟩ := dec_spec u u (Nat.le_refl _)
    have hl := dec_len 18 u (by omega)
    rw [e, parseS, if_neg (by omega)]
    have hc : cutM (Lib.decDigits u) = (Lib.decDigits u, false) := by
      cases hd : Lib.decDigits u with
      | nil => exact absurd hd i3
      | cons c r =>
        rw [cutM, if_neg]
        rintro rfl
        rw [hd, List.all_cons] at i1
        simp [isD] at i1
    rw [hc, if_neg, digP, if_pos i1, endP, i2, if_pos (by omega), if_neg (by simp)]
    rintro (h | ⟨h, h3⟩)
    · exact i3 h
    · have := i4 h
      subst this
      rw [dec_small (by omega)] at h3
      simp at h3
/-- A text that is read is its number's. -/
theorem dec_val : ∀ (n : Nat) (d : List UInt8), d.length ≤ n → d.all isD = true → d ≠ [] → (d.head? = some 48 → d.length = 1) → Lib.decDigits (valA 0 d) = d := by
  intro n
  induction n with
  | zero =>
    intro d h _ h0
    exact absurd (List.eq_nil_of_length_eq_zero (by omega)) h0
  | succ n ih =>
    intro d hl hd h0 hz
    obtain ⟨p, c, rfl⟩ : ∃ p c, d = p ++ [c] := ⟨d.dropLast, d.getLast h0, (List.dropLast_concat_getLast h0).symm⟩
    rw [List.all_append, Bool.and_eq_true, List.all_cons, List.all_nil, Bool.and_true] at hd
    obtain ⟨hp, hc⟩ := hd
    have hc : 48 ≤ c.toNat ∧ c.toNat ≤ 57 := of_decide_eq_true hc
    have ec : UInt8.ofNat (48 + (c.toNat - 48)) = c := by
      apply UInt8.toNat_inj.1
      rw [u8_of (by omega)]; omega
    rw [valA_app, valA_cons, valA_nil]
    cases p with
    | nil =>
      rw [valA_nil, dec_small (by omega), Nat.zero_mul, Nat.zero_add, ec]
      rfl
    | cons x r =>
      have hx : x ≠ 48 := fun e => by
        have := hz (by rw [e]; rfl)
        simp at this
      rw [List.all_cons, Bool.and_eq_true] at hp
      have hxd : 48 ≤ x.toNat ∧ x.toNat ≤ 57 := of_decide_eq_true hp.1
      have hx2 : x.toNat ≠ 48 := fun e => hx (UInt8.toNat_inj.1 e)
      have hv : 1 ≤ valA 0 (x :: r) := by
        rw [valA_cons]
        exact Nat.le_trans (by omega) (valA_ge r _)
      have i := ih (x :: r) (by simp at hl ⊢; omega) (by rw [List.all_cons, Bool.and_eq_true]; exact hp) (by simp) (fun h => absurd (by simpa using h) hx)
      rw [dec_big (by omega), show (valA 0 (x :: r) * 10 + (c.toNat - 48)) / 10 = valA 0 (x :: r) by omega, show (valA 0 (x :: r) * 10 + (c.toNat - 48)) % 10 = c.toNat - 48 by omega, i, ec]
theorem show_parse {l : List UInt8} {m : Int} (h : parseS l = (m, 0)) : Lib.itoa m = l ∧ okN m := by
  unfold parseS at h
  split at h
  · cases h
  · split at h
    · cases h
    · rename_i hf
      unfold digP at h
      split at h
      · rename_i hd
        unfold endP at h
        split at h
        · rename_i hv
          have hne : (cutM l).1 ≠ [] := fun e => hf (.inl e)
          have hz : (cutM l).1.head? = some 48 → (cutM l).1.length = 1 ∧ (cutM l).2 = false := fun e => by
            have h1 : ¬ ((cutM l).2 = true ∨ 1 < (cutM l).1.length) := fun hh => hf (.inr ⟨e, hh⟩)
            have h2 : (cutM l).1.length ≠ 0 := fun hh => hne (List.eq_nil_of_length_eq_zero hh)
            refine ⟨by omega, ?_⟩
            cases e2 : (cutM l).2 with
            | false => rfl
            | true => exact absurd (.inl e2) h1
          have dv := dec_val _ (cutM l).1 (Nat.le_refl _) hd hne fun e => (hz e).1
          simp only [Prod.mk.injEq, and_true] at h
          cases l with
          | nil => exact absurd rfl hne
          | cons c r =>
            by_cases hc : c = 45
            · subst hc
              have ecut : cutM (45 :: r) = (r, true) := rfl
              rw [ecut] at hd hv hne hz dv h
              dsimp only at hd hv hne hz dv h
              rw [if_pos rfl] at h
              have h0 : valA 0 r ≠ 0 := fun e => by
                have hh := dec_small (show 0 < 10 by omega)
                rw [e, hh] at dv
                have := hz (by rw [← dv]; rfl)
                exact absurd this.2 (by decide)
              subst h
              rw [Lib.itoa, if_pos (by omega), show (-((valA 0 r : Nat) : Int)).natAbs = valA 0 r by omega, dv]
              exact ⟨rfl, by unfold okN; omega⟩
            · have ecut : cutM (c :: r) = (c :: r, false) := by rw [cutM, if_neg hc]
              rw [ecut] at hd hv hne hz dv h
              dsimp only at hd hv hne hz dv h
              rw [if_neg (by decide)] at h
              subst h
              rw [Lib.itoa, if_neg (by omega), show (((valA 0 (c :: r) : Nat) : Int)).toNat = valA 0 (c :: r) by omega, dv]
              exact ⟨rfl, by unfold okN; omega⟩
        · cases h
      · cases h
theorem parse_err {l : List UInt8} {m e : Int} (h : parseS l = (m, e)) (he : e ≠ 0) : m = 0 := by
  unfold parseS at h
  split at h
  · cases h; rfl
  · split at h
    · cases h; rfl
    · unfold digP at h
      split at h
      · unfold endP at h
        split at h
        · simp only [Prod.mk.injEq] at h
          exact absurd h.2.symm he
        · cases h; rfl
      · cases h; rfl
end Eng
end Go.Proofs.YtllfgnhnooonfaaDoor
