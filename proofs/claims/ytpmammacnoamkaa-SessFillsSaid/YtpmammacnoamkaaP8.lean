/- SessFills, plainly: the steps. -/
import Derived.Test.YtpmammacnoamkaaP7
set_option autoImplicit false
set_option linter.unusedSimpArgs false
set_option linter.unusedVariables false
set_option maxRecDepth 100000
namespace Go.Proofs.Ytpmammacnoamkaa
namespace Eng
def fF (n : Nat) (k : Nat) : Msg := if k < n then mrep k false else mQ 2 k
theorem fF_seq (n k : Nat) : (fF n k).seq = k := by unfold fF; split <;> rfl
theorem fF_kind (n k : Nat) : (fF n k).kind = 7 ∨ (fF n k).kind = 2 := by unfold fF; split; exact .inl rfl; exact .inr rfl
theorem fF_right (n k : Nat) (h : 1 ≤ k ∧ k ≤ 1000) : mR (fF n k) = true := by
  unfold fF; split
  · exact mrep_right k false (by omega)
  · exact beat_right k (by omega)
theorem told_len {n : Nat} {P : Nat → Bool} (d : Nat) : ∀ a, (∀ k, k < d → P (a + k) = true) → a + d ≤ n + 1 → (tellS (hold P (fF n) a d)).length = min (a + d) n - min a n := by
  induction d with
  | zero => intro a _ _; simp [hold, tellS]
  | succ d ih =>
    intro a h hn
    have h0 : P a = true := by simpa using h 0 (by omega)
    have ih := ih (a + 1) (fun k hk => by rw [show a + 1 + k = a + (k + 1) by omega]; exact h (k + 1) (by omega)) (by omega)
    rw [hold, if_pos h0]
    unfold tellS at ih ⊢
    rw [List.filter_cons]
    by_cases ha : a < n
    · rw [if_pos (by simp [fF, ha])]
      simp only [List.map_cons, List.length_cons]
      rw [ih]; omega
    · rw [if_neg (by simp [fF, ha]), ih]; omega
theorem hold_ne {P : Nat → Bool} {f : Nat → Msg} (c : Nat) : ∀ a q, a ≤ q → q < a + c → P q = true → hold P f a c ≠ [] := by
  induction c with
  | zero => intro a q h1 h2; omega
  | succ c ih =>
    intro a q h1 h2 hq
    unfold hold
    split
    · simp
    · rename_i hp
      refine ih (a + 1) q ?_ (by omega) hq
      rcases Nat.lt_or_eq_of_le h1 with h | rfl
      · omega
      · exact absurd hq hp
theorem hold_right {P : Nat → Bool} {f : Nat → Msg} {p c : Nat} (hp : 1 ≤ p) (hP : c = 0 ∨ P p = false) (h : p + c ≤ 100) (hc : c ≤ 64) : rightB p (hold P f p c) = true := by
  refine rightB_iff.2 ⟨by omega, by omega, Nat.le_trans (hold_len c p) hc, ?_⟩
  cases c with
  | zero => rfl
  | succ c =>
    have h0 : P p = false := by rcases hP with h | h; omega; exact h
    rw [hold, if_neg (by rw [h0]; decide)]
    exact hold_chain c (p + 1) p (by omega) (by omega) (by omega)
structure AskP (P : Nat → Bool) (p c : Nat) (qa : Int) : Prop where
  lo : (p : Int) ≤ qa
  hi : qa ≤ p + 9
  en : qa < p + c
  no : ∀ k : Nat, p ≤ k → (k : Int) ≤ qa → P k = false
theorem ask_new {n : Nat} {P : Nat → Bool} {p c : Nat} {out qa : Int} (h0 : P p = false) (hn : hold P (fF n) p c ≠ []) (hq : qa < p) :
    ∃ L, ask1 p (hold P (fF n) p c) out qa = (SF p (hold P (fF n) p c) (out + 1) L, [mask out p L]) ∧ AskP P p c L := by
  unfold ask1
  rw [if_pos ⟨hn, hq⟩]
  refine ⟨_, rfl, ?_⟩
  cases hh : hold P (fF n) p c with
  | nil => exact absurd hh hn
  | cons y l =>
    obtain ⟨q, h1, h2, h3, h4, h5⟩ := hold_fr c p hh
    have hqp : q ≠ p := by rintro rfl; rw [h0] at h4; exact absurd h4 (by decide)
    have e : lastA p (y :: l) = if (p : Int) + 10 - 1 < (q : Int) - 1 then (p : Int) + 10 - 1 else (q : Int) - 1 := by
      unfold lastA; rw [List.getD_cons_zero, h3]
    rw [e]
    by_cases hb : (p : Int) + 10 - 1 < (q : Int) - 1
    · rw [if_pos hb]; exact ⟨by omega, by omega, by omega, fun k k1 k2 => h5 k k1 (by omega)⟩
    · rw [if_neg hb]; exact ⟨by omega, by omega, by omega, fun k k1 k2 => h5 k k1 (by omega)⟩
structure FillP (n : Nat) (P : Nat → Bool) (p c : Nat) (out qa : Int) (A : List Msg) (i cnt : Nat) : Prop where
  p2 : 2 ≤ p
  pc : p + c ≤ n + 1
  pP : c = 0 ∨ P p = false
  cn : cnt = min p n - 2
  q0 : 0 ≤ qa ∧ qa ≤ n
  ou : out = 2 + A.length
  pend : (hold P (fF n) p c = [] ∧ A.length = i ∧ qa < p ∧ A.length + 2 ≤ p) ∨ (hold P (fF n) p c ≠ [] ∧ A.length = i + 1 ∧ A.length + 1 ≤ p ∧ (∃ o, A.getD i default = mask o p qa) ∧ AskP P p c qa)
theorem getD_snoc {α : Type} (A : List α) (x d : α) : (A ++ [x]).getD A.length d = x := by
  rw [List.getD_eq_getElem?_getD]; simp
theorem fill_skip {n : Nat} {P : Nat → Bool} {p c : Nat} {out qa : Int} {A : List Msg} {i cnt : Nat} (h : FillP n P p c out qa A i cnt) (hq : P (p + c) = false) (hc : p + c ≤ n) :
    hold P (fF n) p (c + 1) = hold P (fF n) p c ∧ FillP n P p (c + 1) out qa A i cnt := by
  have e : hold P (fF n) p (c + 1) = hold P (fF n) p c := by rw [hold_snoc, if_neg (by rw [hq]; decide), List.append_nil]
  obtain ⟨h1, h2, h3, h4, h5, h6, h7⟩ := h
  refine ⟨e, h1, by omega, .inr ?_, h4, h5, h6, ?_⟩
  · rcases h3 with rfl | h3
    · exact hq
    · exact h3
  · rw [e]
    rcases h7 with h7 | ⟨a, b, c', d, e'⟩
    · exact .inl h7
    · exact .inr ⟨a, b, c', d, e'.lo, e'.hi, by have := e'.en; omega, e'.no⟩
/-- What comes next in the row of numbers. -/
theorem fill_come1 {n : Nat} {P : Nat → Bool} {p c : Nat} {out qa : Int} {A : List Msg} {cnt : Nat} (hn : n ≤ 62) (h : FillP n P p c out qa A 0 cnt) (hq : P (p + c) = true) (hc : p + c ≤ n) :
    ∃ p' c' out' qa' said told, comeT (SF p (hold P (fF n) p c) out qa) (fF n (p + c)) 0 = (SF (p' : Nat) (hold P (fF n) p' c') out' qa', said, told, false, 0) ∧ p' + c' = p + c + 1 ∧ said.length ≤ 1 ∧ told.length ≤ 1 ∧ FillP n P p' c' out' qa' (A ++ said) 0 (cnt + told.length) := by
  obtain ⟨h1, h2, h3, h4, h5, h6, h7⟩ := h
  have hAl : A.length ≤ 62 := by rcases h7 with h | h <;> omega
  have hr := hold_right (f := fF n) (by omega : 1 ≤ p) h3 (by omega) (by omega)
  have hs : sesR (SF p (hold P (fF n) p c) out qa) = true := SF_right hr (by omega) (by omega)
  have hm := fF_right n (p + c) (by omega)
  have hk := fF_kind n (p + c)
  have hse := fF_seq n (p + c)
  rcases Nat.eq_zero_or_pos c with rfl | hc0
  · -- it is the next one
    have e0 : hold P (fF n) p 0 = [] := rfl
    have hcm : comeS p (hold P (fF n) p 0) ⟨(fF n (p + 0)).seq, (fF n (p + 0)).seq + 1, fF n (p + 0)⟩ = ((((p + 1 : Nat) : Int), []), [⟨(fF n (p + 0)).seq, (fF n (p + 0)).seq + 1, fF n (p + 0)⟩], 1) := by
      rw [hse]
      unfold comeS
      rw [if_neg (fun h => h ⟨hr, mayI_iff.2 ⟨by show 1 ≤ ((p + 0 : Nat) : Int); omega, by show ((p + 0 : Nat) : Int) < ((p + 0 : Nat) : Int) + 1; omega, by show ((p + 0 : Nat) : Int) + 1 ≤ 2199023255552; omega⟩⟩), if_neg (show ¬ ((p + 0 : Nat) : Int) + 1 ≤ p by omega), if_neg (show ¬ (p : Int) < ((p + 0 : Nat) : Int) by omega)]
      rfl
    have ht := come_fill hs hm hk (by omega) hcm (by
      refine rightB_iff.2 ⟨by omega, by omega, by simp, rfl⟩)
    have ea : ask1 ((p + 1 : Nat) : Int) [] out qa = (SF ((p + 1 : Nat) : Int) [] out qa, []) := by unfold ask1; rw [if_neg (fun h => h.1 rfl)]
    rw [ea] at ht
    refine ⟨p + 1, 0, out, qa, [], _, ht, by omega, by simp, ?_, ?_⟩
    · exact Nat.le_trans (tell_len _) (by simp)
    · have etl : (tellS [⟨(fF n (p + 0)).seq, (fF n (p + 0)).seq + 1, fF n (p + 0)⟩]).length = min (p + 1) n - min p n := by
        by_cases hpn : p < n
        · simp [tellS, fF, hpn]; omega
        · simp [tellS, fF, hpn]; omega
      rw [etl, List.append_nil]
      rcases h7 with ⟨a, b, c', d⟩ | ⟨a, _⟩
      · exact ⟨by omega, by omega, .inl rfl, by omega, h5, h6, .inl ⟨rfl, b, by omega, by omega⟩⟩
      · exact absurd e0 a
  · -- it is kept
    have hpf : P p = false := by rcases h3 with h | h; omega; exact h
    have hs1 : hold P (fF n) p (c + 1) = hold P (fF n) p c ++ [⟨((p + c : Nat) : Int), ((p + c : Nat) : Int) + 1, fF n (p + c)⟩] := by rw [hold_snoc, if_pos hq]
    obtain ⟨k1, k2⟩ := hold_keep (P := P) (f := fF n) c p ⟨((p + c : Nat) : Int), ((p + c : Nat) : Int) + 1, fF n (p + c)⟩ (by show (p : Int) + c ≤ ((p + c : Nat) : Int); omega)
    have hcm : comeS p (hold P (fF n) p c) ⟨(fF n (p + c)).seq, (fF n (p + c)).seq + 1, fF n (p + c)⟩ = (((p : Int), hold P (fF n) p (c + 1)), [], 2) := by
      rw [hse]
      unfold comeS
      rw [if_neg (fun h => h ⟨hr, mayI_iff.2 ⟨by show 1 ≤ ((p + c : Nat) : Int); omega, by show ((p + c : Nat) : Int) < ((p + c : Nat) : Int) + 1; omega, by show ((p + c : Nat) : Int) + 1 ≤ 2199023255552; omega⟩⟩), if_neg (show ¬ ((p + c : Nat) : Int) + 1 ≤ p by omega), if_pos (show (p : Int) < ((p + c : Nat) : Int) by omega), keepS_ins k1 (by have := hold_len (P := P) (f := fF n) c p; omega), k2, hs1]
    have hr2 := hold_right (f := fF n) (c := c + 1) (by omega : 1 ≤ p) (.inr hpf) (by omega) (by omega)
    have ht := come_fill hs hm hk (by omega) hcm hr2
    have hne : hold P (fF n) p (c + 1) ≠ [] := hold_ne (c + 1) p (p + c) (by omega) (by omega) hq
    rcases h7 with ⟨a, b, c', d⟩ | ⟨a, b, c', d, e'⟩
    · obtain ⟨L, hL, hA⟩ := ask_new (out := out) hpf hne c'
      rw [hL] at ht
      refine ⟨p, c + 1, out + 1, L, _, _, ht, by omega, by simp, by simp [tellS], by omega, by omega, .inr hpf, by simpa [tellS] using h4, ⟨by have := hA.lo; omega, by have := hA.en; omega⟩, by simp; omega, .inr ⟨hne, by rw [List.length_append, b]; rfl, by simp; omega, ⟨out, ?_⟩, hA⟩⟩
      rw [← b]; exact getD_snoc _ _ _
    · have ea : ask1 (p : Int) (hold P (fF n) p (c + 1)) out qa = (SF p (hold P (fF n) p (c + 1)) out qa, []) := by unfold ask1; exact if_neg (fun h => by have h1 := e'.lo; have h2 := h.2; omega)
      rw [ea] at ht
      exact ⟨p, c + 1, out, qa, [], _, ht, by omega, by simp, by simp [tellS], by omega, by omega, .inr hpf, by simpa [tellS] using h4, h5, by simpa using h6, .inr ⟨hne, by simpa using b, by simpa using c', by simpa using d, e'.lo, e'.hi, by have := e'.en; omega, e'.no⟩⟩
/-- Inside a batch that was asked for. -/
structure BatchP (n : Nat) (P : Nat → Bool) (b k c : Nat) (out : Int) (A : List Msg) (i cnt : Nat) : Prop where
  k2 : 2 ≤ k
  kb : k ≤ b
  bn : b < n
  pc : k + c = n + 1
  cn : cnt = k - 2
  ou : out = 2 + A.length
  al : A.length = i + 1
  ak : A.length + 1 ≤ k
  no : ∀ j : Nat, k ≤ j → j ≤ b → P j = false
  pn : P n = true
theorem batch_begins {n : Nat} {P : Nat → Bool} {p c : Nat} {out qa : Int} {A : List Msg} {i cnt : Nat} (h : FillP n P p c out qa A i cnt) (hP : P n = true) (hc : p + c = n + 1) (hi : i < A.length) :
    ∃ b : Nat, qa = b ∧ (∃ o, A.getD i default = mask o p b) ∧ b ≤ p + 9 ∧ BatchP n P b p c out A i cnt := by
  obtain ⟨h1, h2, h3, h4, h5, h6, h7⟩ := h
  rcases h7 with ⟨a, b, _⟩ | ⟨a, b, c', d, e'⟩
  · omega
  · obtain ⟨l, hh, en, no⟩ := e'
    obtain ⟨b', rfl⟩ : ∃ b' : Nat, qa = b' := ⟨qa.toNat, by omega⟩
    have hbn : b' < n := by
      rcases Nat.lt_or_ge b' n with h | h
      · exact h
      · have := no n (by omega) (by omega)
        rw [hP] at this; exact absurd this (by decide)
    exact ⟨b', rfl, d, by omega, h1, by omega, hbn, hc, by omega, h6, b, c', fun j j1 j2 => no j j1 (by omega), hP⟩
theorem batch_come {n : Nat} {P : Nat → Bool} {b k c : Nat} {out : Int} {A : List Msg} {i cnt : Nat} (hn : n ≤ 62) (h : BatchP n P b k c out A i cnt) :
    ∃ p' c' out' qa' said told, comeT (SF k (hold P (fF n) k c) out b) (mrep k true) 0 = (SF (p' : Nat) (hold P (fF n) p' c') out' qa', said, told, false, 0) ∧ said.length ≤ 1 ∧ told.length ≤ 62 ∧
      ((k < b ∧ p' = k + 1 ∧ qa' = b ∧ said = [] ∧ BatchP n P b p' c' out' (A ++ said) i (cnt + told.length)) ∨ (k = b ∧ p' + c' = n + 1 ∧ FillP n P p' c' out' qa' (A ++ said) (i + 1) (cnt + told.length))) := by
  obtain ⟨h1, h2, h3, h4, h5, h6, h7, h8, h9, h10⟩ := h
  have hk0 := h9 k (Nat.le_refl _) h2
  obtain ⟨c, rfl⟩ : ∃ c', c = c' + 1 := ⟨c - 1, by omega⟩
  have hr := hold_right (f := fF n) (c := c + 1) (by omega : 1 ≤ k) (.inr hk0) (by omega) (by omega)
  have hs : sesR (SF k (hold P (fF n) k (c + 1)) out b) = true := SF_right hr (by omega) (by omega)
  have hm := mrep_right k true (by omega)
  have e1 : hold P (fF n) k (c + 1) = hold P (fF n) (k + 1) c := by rw [hold, if_neg (by rw [hk0]; decide)]
  obtain ⟨d, hd⟩ : ∃ d, runN P (k + 1) c = d := ⟨_, rfl⟩
  have hdc := run_le P c (k + 1)
  have hdr := hold_drain (P := P) (f := fF n) c (k + 1)
  rw [hd] at hdr hdc
  have hall : ∀ j, j < d → P (k + 1 + j) = true := fun j hj => run_all P c (k + 1) j (by omega)
  have hstop : c - d = 0 ∨ P (k + 1 + d) = false := by
    rcases Nat.lt_or_ge d c with h | h
    · exact .inr (by rw [← hd]; exact run_stop P c (k + 1) (by omega))
    · exact .inl (by omega)
  have hcm : comeS k (hold P (fF n) k (c + 1)) ⟨(mrep k true).seq, (mrep k true).seq + 1, mrep k true⟩ = ((((k + 1 + d : Nat) : Int), hold P (fF n) (k + 1 + d) (c - d)), ⟨(k : Int), (k : Int) + 1, mrep k true⟩ :: hold P (fF n) (k + 1) d, 1) := by
    unfold comeS
    rw [if_neg (fun h => h ⟨hr, mayI_iff.2 ⟨by show 1 ≤ (k : Int); omega, by show (k : Int) < (k : Int) + 1; omega, by show (k : Int) + 1 ≤ 2199023255552; omega⟩⟩), if_neg (show ¬ (k : Int) + 1 ≤ k by omega), if_neg (show ¬ (k : Int) < (k : Int) by omega)]
    show (((drain ((k : Int) + 1) (hold P (fF n) k (c + 1))).2.1, (drain ((k : Int) + 1) (hold P (fF n) k (c + 1))).2.2), _ :: (drain ((k : Int) + 1) (hold P (fF n) k (c + 1))).1, (1 : Int)) = _
    rw [e1, show (k : Int) + 1 = ((k + 1 : Nat) : Int) by omega, hdr]
  have hr2 := hold_right (f := fF n) (p := k + 1 + d) (c := c - d) (by omega) hstop (by omega) (by omega)
  have ht := come_fill hs hm (.inl rfl) (by omega) hcm hr2
  have htl : (tellS (⟨(k : Int), (k : Int) + 1, mrep k true⟩ :: hold P (fF n) (k + 1) d)).length = 1 + (min (k + 1 + d) n - min (k + 1) n) := by
    have := told_len (n := n) (P := P) d (k + 1) hall (by omega)
    unfold tellS at this ⊢
    rw [List.filter_cons, if_pos (by rfl), List.map_cons, List.length_cons, this]; omega
  by_cases hkb : k < b
  · have h10 := h9 (k + 1) (by omega) (by omega)
    have hd0 : d = 0 := by
      rcases Nat.eq_zero_or_pos d with h | h
      · exact h
      · have := hall 0 h
        rw [Nat.add_zero, h10] at this; exact absurd this (by decide)
    subst hd0
    have ea : ask1 ((k + 1 + 0 : Nat) : Int) (hold P (fF n) (k + 1 + 0) (c - 0)) out b = (SF ((k + 1 + 0 : Nat) : Int) (hold P (fF n) (k + 1 + 0) (c - 0)) out b, []) := by unfold ask1; exact if_neg (fun h => by have h2 := h.2; omega)
    rw [ea] at ht
    refine ⟨k + 1 + 0, c - 0, out, b, [], _, ht, by simp, by rw [htl]; omega, .inl ⟨hkb, rfl, rfl, rfl, by omega, by omega, h3, by omega, by rw [htl]; omega, by simpa using h6, by simpa using h7, by simp; omega, fun j j1 j2 => h9 j (by omega) j2, by assumption⟩⟩
  · obtain rfl : k = b := by omega
    by_cases he : hold P (fF n) (k + 1 + d) (c - d) = []
    · have ea : ask1 ((k + 1 + d : Nat) : Int) (hold P (fF n) (k + 1 + d) (c - d)) out k = (SF ((k + 1 + d : Nat) : Int) (hold P (fF n) (k + 1 + d) (c - d)) out k, []) := by unfold ask1; exact if_neg (fun h => h.1 he)
      rw [ea] at ht
      exact ⟨k + 1 + d, c - d, out, k, [], _, ht, by simp, by rw [htl]; omega, .inr ⟨rfl, by omega, by omega, by omega, hstop, by rw [htl]; omega, by omega, by simpa using h6, .inl ⟨he, by simpa using h7, by omega, by simp; omega⟩⟩⟩
    · have hpf : P (k + 1 + d) = false := by
        rcases hstop with h | h
        · rw [h] at he; exact absurd rfl he
        · exact h
      obtain ⟨L, hL, hA⟩ := ask_new (out := out) hpf he (show (k : Int) < ((k + 1 + d : Nat) : Int) by omega)
      rw [hL] at ht
      refine ⟨k + 1 + d, c - d, out + 1, L, _, _, ht, by simp, by rw [htl]; omega, .inr ⟨rfl, by omega, by omega, by omega, hstop, by rw [htl]; omega, ⟨by have := hA.lo; omega, by have := hA.en; omega⟩, by simp; omega, .inr ⟨he, by simp; omega, by simp; omega, ⟨out, ?_⟩, hA⟩⟩⟩
      rw [← h7]; exact getD_snoc _ _ _
theorem fill_end {n : Nat} {P : Nat → Bool} {p c : Nat} {out qa : Int} {A : List Msg} {i cnt : Nat} (h : FillP n P p c out qa A i cnt) (hP : P n = true) (hc : p + c = n + 1) (hi : ¬ i < A.length) (hn : 2 ≤ n) : p = n + 1 ∧ c = 0 ∧ cnt = n - 2 := by
  obtain ⟨h1, h2, h3, h4, h5, h6, h7⟩ := h
  rcases h7 with ⟨a, _⟩ | ⟨_, b, _⟩
  · have : p = n + 1 := by
      rcases Nat.lt_or_ge n p with h | h
      · omega
      · exact absurd a (hold_ne c p n h (by omega) hP)
    omega
  · omega
end Eng
end Go.Proofs.Ytpmammacnoamkaa
