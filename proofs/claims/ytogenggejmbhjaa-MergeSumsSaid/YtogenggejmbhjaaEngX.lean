/- slices.overlaps at two rows of which each has its own block. -/
import Derived.Test.YtogenggejmbhjaaEngZ
import Derived.Lib.Overlaps
set_option autoImplicit false
set_option linter.unusedSimpArgs false
set_option linter.unusedVariables false
namespace Go.Proofs.Ytogenggejmbhjaa
namespace Eng
variable {P : Program} {own0 mt : Nat → Prop} {w0 w : World} {ρ : Nat → Option Pl} {H : Nat → Option Blk}

theorem overlaps_run {tS tR e : TypeId} {te : Ty} (ht : P.underlying tS = some (.slice e)) (hte : TyOk P e te) (hsz : te.size ≠ 0) (h1 : te.size ≠ 1) (hm : Mem own0 mt w0 ρ H w) {r r' : Nat} (hne : r ≠ r') {r1 rows : List (List V)} {c : Nat} (h0 : H r = some (.row te.size r1)) (hr : H r' = some (.full te.size rows c))
    {n off m : Nat} (hn : 0 < n) (hz : 0 < m) {u v : Value} (hu : RepD w (Ow own0 ρ H) ρ (.e (.c (.o r n))) u) (hv : RepD w (Ow own0 ρ H) ρ (.u r' te.size off m) v) :
    (Extern.SlicesOverlaps.overlaps #[tS, tS] #[tR] #[u, v]).run P w = .ok (.bool false) w := by
  have hsize := run_sizeOf (P := P) hte
  obtain ⟨p, hp, hu⟩ := hu
  obtain ⟨p', hp', hv⟩ := hv
  have hb0 := hm.blks r _ h0
  have hb1 := hm.blks r' _ hr
  obtain ⟨_, q, hq, hb0⟩ := hb0
  rw [hp] at hq; cases hq
  obtain ⟨⟨_, q, hq, hb1⟩, _⟩ := hb1
  rw [hp'] at hq; cases hq
  cases p with
  | nil => obtain ⟨rfl, _⟩ := hu; omega
  | blk b base cap =>
    obtain ⟨rfl, _⟩ := hu
    cases p' with
    | nil => obtain ⟨rfl, _⟩ := hv; omega
    | blk b' base' cap' =>
      obtain ⟨hle, a, c', rfl, hmc, ha⟩ := hv
      have := ha hz
      subst this
      obtain ⟨hcap, vs, T, fr, hh, hf, h2, _⟩ := hb0
      obtain ⟨hcap', vs', T', fr', hh', hf', h2', _⟩ := hb1
      have hbb : b ≠ b' := hm.inj r r' _ _ _ _ _ _ (by rw [h0]; rfl) (by rw [hr]; rfl) hp hp' hne
      have hfr : fr.1 = fr.2 := by
        rcases hf.2 with h | h
        · exact absurd h h1
        · exact h
      have fz : ∀ o, w.frozen? ⟨b, o, none⟩ = false := fun o => by
        simp only [World.frozen?, hh]
        obtain ⟨lo, hi⟩ := fr
        simp only at hfr
        simp; omega
      have hpos : vs'.size ≠ 0 := by
        have hm1 : 1 ≤ cap' := by omega
        have := Nat.mul_le_mul hm1 (show 1 ≤ te.size by omega)
        omega
      exact Lib.run_overlaps_apart w tS tR e ht te.size hsize ⟨b, base, none⟩ ⟨b', base' + off * te.size, none⟩ n cap m c' hbb T T' vs.size vs'.size (by simp [World.shape?, hh]) (by simp [World.shape?, hh']) hpos (fz _) (fz _)

theorem tn1 (n : Nat) : ((n : Int) + 1).toNat = n + 1 := by omega
theorem tn2 (a i : Nat) : ((a : Int) + 1 - (i : Int)).toNat = a + 1 - i := by omega
theorem put_mid {rows A B new old : List (List V)} {n : Nat} (h : rows = A ++ (old ++ B)) (hn : A.length = n) (hl : old.length = new.length) : putRows rows n new = A ++ (new ++ B) := by
  subst h hn
  unfold putRows splice
  rw [← hl, List.take_left, List.append_assoc]
  congr 2
  rw [List.drop_append, List.drop_of_length_le (by omega), List.nil_append, show A.length + old.length - A.length = old.length by omega, List.drop_left]
theorem drop_all (rows : List (List V)) (i : Nat) : (rows.drop i).take (rows.length - i) = rows.drop i := List.take_of_length_le (by simp)
theorem ins1 (rows : List (List V)) (x z : List V) (i : Nat) (hi : i < rows.length) : putRows (rows.take i ++ List.replicate (rows.length + 1 - i) z) i [x] = rows.take i ++ x :: List.replicate (rows.length - i) z := by
  rw [put_mid (A := rows.take i) (old := [z]) (B := List.replicate (rows.length - i) z) (by rw [show rows.length + 1 - i = (rows.length - i) + 1 by omega, List.replicate_succ]; simp) (by simp; omega) (by simp)]
  simp
theorem ins2 (rows : List (List V)) (x z : List V) (i : Nat) (hi : i < rows.length) : putRows (rows.take i ++ x :: List.replicate (rows.length - i) z) (i + 1) ((rows.drop i).take (rows.length - i)) = rows.take i ++ x :: rows.drop i := by
  rw [drop_all, put_mid (A := rows.take i ++ [x]) (old := List.replicate (rows.length - i) z) (B := []) (by simp) (by simp; omega) (by simp)]
  simp
theorem ins3 (rows : List (List V)) (i : Nat) (hi : i < rows.length) : putRows rows (i + 1) ((rows.drop i).take (rows.length - i)) = rows.take (i + 1) ++ rows.drop i := by
  rw [drop_all]
  unfold putRows splice
  have h : rows.drop (i + 1 + (rows.drop i).length) = [] := List.drop_of_length_le (by simp; omega)
  rw [h, List.append_nil]
theorem ins4 (rows : List (List V)) (x : List V) (i : Nat) (hi : i < rows.length) : putRows (rows.take (i + 1) ++ rows.drop i) i [x] = rows.take i ++ x :: rows.drop i := by
  rw [put_mid (A := rows.take i) (old := [rows[i]]) (B := rows.drop i) (by rw [← List.take_append_getElem hi, List.append_assoc]) (by simp; omega) (by simp)]
  simp
end Eng
end Go.Proofs.Ytogenggejmbhjaa
