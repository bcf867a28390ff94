/- The plain law of a journal's files: what Open finds. -/
import Derived.Test.YtgpjbcgbjpmgaaaJ4
import Derived.Test.YtgpjbcgbjpmgaaaP6
set_option autoImplicit false
set_option linter.unusedSimpArgs false
set_option linter.unusedVariables false
set_option maxRecDepth 100000
namespace Go.Proofs.Ytgpjbcgbjpmgaaa
namespace Eng
theorem getD_take (b : List Int) (m j : Nat) (h : j < m) : (b.take m).getD j 0 = b.getD j 0 := by
  rw [List.getD_eq_getElem?_getD, List.getElem?_take_of_lt h, ← List.getD_eq_getElem?_getD]
/-- A whole record is told by its own bytes alone. -/
theorem next_ext {b b' r : List Int} {n : Int} (h : next b = (r, n, 0)) (hl : n ≤ b'.length) (ht : b'.take n.toNat = b.take n.toNat) : next b' = (r, n, 0) := by
  have hp := (next_pos _ _ _ _ h).1 rfl
  have hg : ∀ j, j < n.toNat → b'.getD j 0 = b.getD j 0 := fun j hj => by rw [← getD_take b' _ j hj, ht, getD_take b _ j hj]
  unfold next at h
  by_cases h1 : b.length < 6
  · rw [if_pos h1] at h; cases h
  rw [if_neg h1] at h
  by_cases h2 : nextL b < 1 ∨ 4096 < nextL b
  · rw [if_pos h2] at h; cases h
  rw [if_neg h2] at h
  by_cases h3 : b.length < 6 + nextL b
  · rw [if_pos h3] at h; cases h
  rw [if_neg h3] at h
  by_cases h4 : crcS (b.take 2 ++ nextR b) = asm4 b
  · rw [if_pos h4] at h
    have e1 : nextR b = r := by cases h; rfl
    have e2 : 6 + nextL b = n := by cases h; rfl
    have hL : nextL b' = nextL b := by unfold nextL; rw [hg 0 (by omega), hg 1 (by omega)]
    have hR : nextR b' = nextR b := by unfold nextR; rw [hL, e2, ht]
    have hA : asm4 b' = asm4 b := by unfold asm4; rw [hg 2 (by omega), hg 3 (by omega), hg 4 (by omega), hg 5 (by omega)]
    have hT : b'.take 2 = b.take 2 := by
      have := congrArg (fun l => l.take 2) ht
      simpa [List.take_take, show min 2 n.toNat = 2 by omega] using this
    unfold next
    rw [hL, hR, hA, hT, if_neg (by omega), if_neg h2, if_neg (by omega), if_pos h4, e1, e2]
  · rw [if_neg h4] at h; cases h
theorem next_app {b r : List Int} {n : Int} (x : List Int) (h : next b = (r, n, 0)) : next (b ++ x) = (r, n, 0) := by
  have hp := (next_pos _ _ _ _ h).1 rfl
  exact next_ext h (by rw [List.length_append]; omega) (List.take_append_of_le_length (by omega))
theorem next_take {b r : List Int} {n : Int} (m : Nat) (h : next b = (r, n, 0)) (hm : n ≤ m) : next (b.take m) = (r, n, 0) := by
  have hp := (next_pos _ _ _ _ h).1 rfl
  exact next_ext h (by rw [List.length_take]; omega) (by rw [List.take_take, Nat.min_eq_left (by omega)])
theorem all_app (b x : List Int) (h : (all b).2 = b.length) : all (b ++ x) = ((all b).1 ++ (all x).1, b.length + (all x).2) := by
  generalize hn : b.length = n
  induction n using Nat.strongRecOn generalizing b with
  | ind n ih =>
    obtain ⟨⟨r, m, e⟩, hnx⟩ : ∃ q, next b = q := ⟨_, rfl⟩
    by_cases he : e = 0
    · subst he
      have hp := (next_pos _ _ _ _ hnx).1 rfl
      rw [all_ok hnx] at h
      dsimp only at h
      have hl : (b.drop m.toNat).length = b.length - m.toNat := List.length_drop
      have := ih (b.drop m.toNat).length (by omega) _ (by omega) rfl
      rw [all_ok (next_app x hnx), all_ok hnx, List.drop_append_of_le_length (by omega), this]
      simp only [List.cons_append, Prod.mk.injEq, true_and]
      omega
    · rw [all_no hnx he] at h ⊢
      have hb : b = [] := List.eq_nil_of_length_eq_zero h.symm
      subst hb
      simp only [List.nil_append]
      have : n = 0 := by rw [← hn]; rfl
      rw [this, Nat.zero_add]
theorem all_take (b : List Int) : all (b.take (all b).2) = all b := by
  generalize hn : b.length = n
  induction n using Nat.strongRecOn generalizing b with
  | ind n ih =>
    obtain ⟨⟨r, m, e⟩, hnx⟩ : ∃ q, next b = q := ⟨_, rfl⟩
    by_cases he : e = 0
    · subst he
      have hp := (next_pos _ _ _ _ hnx).1 rfl
      have hl : (b.drop m.toNat).length = b.length - m.toNat := List.length_drop
      have hi := ih (b.drop m.toNat).length (by omega) _ rfl
      rw [all_ok hnx]
      dsimp only
      have hd : (b.take (m.toNat + (all (b.drop m.toNat)).2)).drop m.toNat = (b.drop m.toNat).take (all (b.drop m.toNat)).2 := by
        rw [List.drop_take]; congr 1; omega
      rw [all_ok (next_take _ hnx (by omega)), hd, hi]
    · rw [all_no hnx he, List.take_zero, all_nil]
theorem look_of {b f : List Int} {es : List (List Int)} {lg : Nat} (h : all b = (f :: es, lg)) (hg : goodF f) : lookF b = some (genL (g8 f), f.drop 9, es, lg) := by
  unfold lookF; rw [h]; simp only [if_pos hg]
theorem look_inv {b : List Int} {g : Int} {sn : List Int} {en : List (List Int)} {lg : Nat} (h : lookF b = some (g, sn, en, lg)) : ∃ f, all b = (f :: en, lg) ∧ goodF f ∧ genL (g8 f) = g ∧ f.drop 9 = sn := by
  unfold lookF at h
  match ha : all b with
  | ([], k) => rw [ha] at h; cases h
  | (f :: rest, k) =>
    rw [ha] at h
    simp only [] at h
    split at h
    · rename_i hg
      cases h
      exact ⟨f, rfl, hg, rfl, rfl⟩
    · cases h
theorem look_take {b : List Int} {g : Int} {sn : List Int} {en : List (List Int)} {lg : Nat} (h : lookF b = some (g, sn, en, lg)) : lookF (b.take lg) = some (g, sn, en, lg) := by
  obtain ⟨f, ha, hg, rfl, rfl⟩ := look_inv h
  have := all_take b
  rw [ha] at this
  exact look_of this hg
theorem look_add {b : List Int} {g : Int} {sn : List Int} {en es : List (List Int)} {x : List Int} {k : Nat} (h : lookF b = some (g, sn, en, b.length)) (hx : all x = (es, k)) : lookF (b ++ x) = some (g, sn, en ++ es, b.length + k) := by
  obtain ⟨f, ha, hg, rfl, rfl⟩ := look_inv h
  have := all_app b x (by rw [ha])
  rw [ha, hx] at this
  exact look_of this hg
theorem all_put (e : List Int) (h1 : 1 ≤ e.length) (h : e.length ≤ 4096) : all (put e) = ([e], (put e).length) := by
  have := all_puts [e] [] (fun r hr => by rw [List.mem_singleton] at hr; subst hr; exact ⟨h1, h⟩)
  rw [all_nil] at this
  simpa using this
theorem look_first (g : Int) (sn : List Int) (h0 : 1 ≤ g) (h : g ≤ 4611686018427387904) (hs : sn.length ≤ 4000) : lookF (put (first g sn)) = some (g, sn, [], (put (first g sn)).length) := by
  have hl := first_len g sn
  have := look_of (all_put (first g sn) (by omega) (by omega)) (good_first g sn h0 h)
  rw [gen_first g sn (by omega) h, drop_first] at this
  exact this
theorem look_nil : lookF [] = none := by unfold lookF; rw [all_nil]
/-- The file that Open goes on with. -/
def Wins (at_ : Int) (b0 b1 : List Int) (g : Int) (sn : List Int) (en : List (List Int)) (lg : Nat) : Prop :=
  (at_ = 0 ∧ lookF b0 = some (g, sn, en, lg) ∧ (lookF b1 = none ∨ ∃ q, lookF b1 = some q ∧ q.1 ≤ g)) ∨
  (at_ = 1 ∧ lookF b1 = some (g, sn, en, lg) ∧ (lookF b0 = none ∨ ∃ q, lookF b0 = some q ∧ q.1 < g))
/-- A file, and the other one, in their places. -/
def pl (at_ : Int) (c o : List Int) : List Int := if at_ = 0 then c else o
theorem pl0 (c o : List Int) : pl 0 c o = c := rfl
theorem pl1 (c o : List Int) : pl 1 c o = o := rfl
theorem open_wins (at_ : Int) (s0 t0 s1 t1 : List Int) (g : Int) (sn : List Int) (en : List (List Int)) (lg : Nat) (hw : Wins at_ (s0 ++ t0) (s1 ++ t1) g sn en lg) (hb0 : Byt (s0 ++ t0)) (hb1 : Byt (s1 ++ t1)) (h : okD s0 t0 s1 t1) :
    ACall Try.prog 45 [] [diskD s0 t0 s1 t1] (resO (jA (pl at_ ((s0 ++ t0).take lg) s0) (pl at_ [] t0) (pl at_ s1 ((s1 ++ t1).take lg)) (pl at_ t1 []) at_ g) sn en) [] := by
  rcases hw with ⟨rfl, h0, h1⟩ | ⟨rfl, h1, h0⟩
  · simp only [pl0]
    rcases h1 with h1 | ⟨⟨g1, sn1, en1, lg1⟩, h1, hle⟩
    · exact open00_c s0 t0 s1 t1 g sn en lg h0 h1 hb0 hb1 h
    · exact open01_c s0 t0 s1 t1 g sn en lg h0 g1 sn1 en1 lg1 h1 hle hb0 hb1 h
  · simp only [pl1]
    rcases h0 with h0 | ⟨⟨g0, sn0, en0, lg0⟩, h0, hlt⟩
    · exact open10_c s0 t0 s1 t1 h0 g sn en lg h1 hb0 hb1 h
    · exact open11_c s0 t0 s1 t1 g0 sn0 en0 lg0 h0 g sn en lg h1 hlt hb0 hb1 h
end Eng
end Go.Proofs.Ytgpjbcgbjpmgaaa
