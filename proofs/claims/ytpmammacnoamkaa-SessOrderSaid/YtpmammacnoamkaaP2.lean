/- Reseq, plainly: what any item does; numbers in a row. -/
import Derived.Test.YtpmammacnoamkaaP1
set_option autoImplicit false
set_option linter.unusedSimpArgs false
set_option linter.unusedVariables false
namespace Go.Proofs.Ytpmammacnoamkaa
namespace Eng
/-- What is told goes on without a hole. -/
def chainT : Int → List Itm → Int → Prop
  | n, [], N => n = N
  | n, y :: t, N => y.fr ≤ n ∧ n < y.to ∧ chainT y.to t N
theorem mayI_iff {x : Itm} : mayI x = true ↔ 1 ≤ x.fr ∧ x.fr < x.to ∧ x.to ≤ 2199023255552 := by
  simp only [mayI, Bool.and_eq_true, decide_eq_true_eq, and_assoc]
theorem chainI_cons {last : Int} {y : Itm} {l : List Itm} : chainI last (y :: l) = true ↔ mayI y = true ∧ last < y.fr ∧ chainI y.fr l = true := by
  simp only [chainI, Bool.and_eq_true, decide_eq_true_eq, and_assoc]
theorem rightB_iff {n : Int} {l : List Itm} : rightB n l = true ↔ 1 ≤ n ∧ n ≤ 2199023255552 ∧ l.length ≤ 64 ∧ chainI n l = true := by
  simp only [rightB, Bool.and_eq_true, decide_eq_true_eq, and_assoc]
theorem drain_all : ∀ (l : List Itm) (n last : Int), chainI last l = true → 1 ≤ n → n ≤ 2199023255552 → n ≤ (drain n l).2.1 ∧ (drain n l).2.1 ≤ 2199023255552 ∧ (drain n l).2.2.length ≤ l.length ∧ chainI (drain n l).2.1 (drain n l).2.2 = true ∧ chainT n (drain n l).1 (drain n l).2.1
  | [], n, last, _, h1, h2 => ⟨Int.le_refl _, h2, Nat.le_refl _, rfl, rfl⟩
  | y :: l, n, last, h, h1, h2 => by
    obtain ⟨hm, hl, hc⟩ := chainI_cons.1 h
    have hm' := mayI_iff.1 hm
    by_cases hy : y.fr ≤ n
    · by_cases ht : n < y.to
      · rw [drain, if_pos hy, if_pos ht]
        obtain ⟨a, b, c, d, e⟩ := drain_all l y.to y.fr hc (by omega) (by omega)
        exact ⟨by dsimp only; omega, b, by dsimp only; simp; omega, d, hy, ht, e⟩
      · rw [drain, if_pos hy, if_neg ht]
        obtain ⟨a, b, c, d, e⟩ := drain_all l n y.fr hc h1 h2
        exact ⟨a, b, by simp; omega, d, e⟩
    · rw [drain, if_neg hy]
      exact ⟨Int.le_refl _, h2, Nat.le_refl _, chainI_cons.2 ⟨hm, by dsimp only; omega, hc⟩, rfl⟩
theorem ins_chain : ∀ (l : List Itm) (n : Int) (x : Itm), chainI n l = true → n < x.fr → mayI x = true → ¬ foundI l x → chainI n (insI l x) = true
  | [], n, x, _, h1, h2, _ => chainI_cons.2 ⟨h2, h1, rfl⟩
  | y :: l, n, x, h, h1, h2, h3 => by
    obtain ⟨hm, hl, hc⟩ := chainI_cons.1 h
    by_cases hy : y.fr < x.fr
    · rw [ins_lt hy]
      exact chainI_cons.2 ⟨hm, hl, ins_chain l y.fr x hc hy h2 (fun hf => h3 ((found_lt hy).2 hf))⟩
    · rw [ins_ge hy]
      have : y.fr ≠ x.fr := fun e => h3 ((found_ge hy).2 e)
      exact chainI_cons.2 ⟨h2, h1, chainI_cons.2 ⟨hm, by omega, hc⟩⟩
theorem insI_len (l : List Itm) (x : Itm) : (insI l x).length = l.length + 1 := by
  have := posI_le l x
  unfold insI
  simp; omega
/-- What becomes of a right line, whatever comes. -/
theorem come_all {n : Int} {l : List Itm} {x : Itm} (hr : rightB n l = true) {N : Int} {R T : List Itm} {c : Int} (h : comeS n l x = ((N, R), T, c)) :
    rightB N R = true ∧ chainT n T N ∧ (c = 0 → mayI x = false ∧ N = n ∧ R = l) ∧ (c ≠ 1 → T = [] ∧ N = n) ∧ T.length ≤ 1 + l.length ∧ R.length ≤ 64 := by
  obtain ⟨r1, r2, r3, r4⟩ := rightB_iff.1 hr
  unfold comeS at h
  by_cases hx : rightB n l = true ∧ mayI x = true
  · have hm := mayI_iff.1 hx.2
    rw [if_neg (fun h => h hx)] at h
    by_cases h1 : x.to ≤ n
    · rw [if_pos h1] at h
      (try dsimp only at h)
      cases h
      exact ⟨hr, rfl, fun h => absurd h (by decide), fun _ => ⟨rfl, rfl⟩, by simp, r3⟩
    · rw [if_neg h1] at h
      by_cases h2 : n < x.fr
      · rw [if_pos h2] at h
        by_cases hf : foundI l x
        · rw [keepS_found hf] at h
          (try dsimp only at h)
          cases h
          exact ⟨hr, rfl, fun h => absurd h (by decide), fun _ => ⟨rfl, rfl⟩, by simp, r3⟩
        · by_cases h64 : 64 ≤ l.length
          · rw [keepS_full hf h64] at h
            (try dsimp only at h)
            cases h
            exact ⟨hr, rfl, fun h => absurd h (by decide), fun _ => ⟨rfl, rfl⟩, by simp, r3⟩
          · rw [keepS_ins hf h64] at h
            (try dsimp only at h)
            cases h
            have hl := insI_len l x
            exact ⟨rightB_iff.2 ⟨r1, r2, by omega, ins_chain l n x r4 h2 hx.2 hf⟩, rfl, fun h => absurd h (by decide), fun _ => ⟨rfl, rfl⟩, by simp, by omega⟩
      · rw [if_neg h2] at h
        obtain ⟨a, b, cc, d, e⟩ := drain_all l x.to n r4 (by omega) (by omega)
        have hlen : ∀ (l : List Itm) (n : Int), (drain n l).1.length ≤ l.length := by
          intro l
          induction l with
          | nil => intro n; simp [drain]
          | cons y l ih =>
            intro n
            unfold drain
            split
            · split
              · have := ih y.to; simp; omega
              · have := ih n; simp; omega
            · simp
        have := hlen l x.to
        (try dsimp only at h)
        cases h
        exact ⟨rightB_iff.2 ⟨by omega, b, by omega, d⟩, ⟨by omega, by omega, e⟩, fun h => absurd h (by decide), fun h => absurd rfl h, by simp; omega, by omega⟩
  · rw [if_pos hx] at h
    (try dsimp only at h)
    cases h
    exact ⟨hr, rfl, fun _ => ⟨by
      cases hm : mayI x with
      | false => rfl
      | true => exact absurd ⟨hr, hm⟩ hx, rfl, rfl⟩, fun _ => ⟨rfl, rfl⟩, by simp, r3⟩
/-- Numbers in a row. -/
def seqI : Int → Nat → List Itm
  | _, 0 => []
  | a, c + 1 => ⟨a, a + 1, zM⟩ :: seqI (a + 1) c
theorem seq_len : ∀ (c : Nat) (a : Int), (seqI a c).length = c
  | 0, _ => rfl
  | c + 1, a => by simp [seqI, seq_len c]
theorem seq_chain : ∀ (c : Nat) (a last : Int), last < a → 1 ≤ a → a + c ≤ 2199023255552 → chainI last (seqI a c) = true
  | 0, _, _, _, _, _ => rfl
  | c + 1, a, last, h1, h2, h3 => chainI_cons.2 ⟨mayI_iff.2 ⟨h2, by show a < a + 1; omega, by show a + 1 ≤ _; omega⟩, h1, seq_chain c (a + 1) a (by omega) (by omega) (by omega)⟩
theorem seq_keep : ∀ (c : Nat) (a : Int) (x : Itm), a + c ≤ x.fr → ¬ foundI (seqI a c) x ∧ insI (seqI a c) x = seqI a c ++ [x]
  | 0, a, x, _ => ⟨fun h => absurd h.1 (by simp [seqI]), rfl⟩
  | c + 1, a, x, h => by
    obtain ⟨h1, h2⟩ := seq_keep c (a + 1) x (by omega)
    have hlt : (⟨a, a + 1, zM⟩ : Itm).fr < x.fr := by show a < x.fr; omega
    exact ⟨fun hf => h1 ((found_lt hlt).1 hf), by show insI (_ :: _) x = _; rw [ins_lt hlt, h2]; rfl⟩
theorem seq_snoc : ∀ (c : Nat) (a : Int), seqI a c ++ [⟨a + c, a + c + 1, zM⟩] = seqI a (c + 1)
  | 0, a => by simp [seqI]
  | c + 1, a => by
    have := seq_snoc c (a + 1)
    have e : a + ((c + 1 : Nat) : Int) = a + 1 + (c : Int) := by omega
    rw [e]
    show _ :: (seqI (a + 1) c ++ _) = _ :: seqI (a + 1) (c + 1)
    rw [this]
theorem seq_drain : ∀ (c : Nat) (a : Int), drain a (seqI a c) = (seqI a c, a + c, [])
  | 0, a => by simp [seqI, drain]
  | c + 1, a => by
    show drain a (_ :: seqI (a + 1) c) = _
    rw [drain, if_pos (show (⟨a, a + 1, zM⟩ : Itm).fr ≤ a from Int.le_refl _), if_pos (show a < a + 1 by omega)]
    show (_ :: (drain (a + 1) (seqI (a + 1) c)).1, (drain (a + 1) (seqI (a + 1) c)).2.1, (drain (a + 1) (seqI (a + 1) c)).2.2) = _
    rw [seq_drain c (a + 1)]
    have e : a + 1 + (c : Int) = a + ((c + 1 : Nat) : Int) := by omega
    rw [e]; rfl
end Eng
end Go.Proofs.Ytpmammacnoamkaa
