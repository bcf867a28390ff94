/- Reseq, plainly: a line whose room is filled by numbers in a row. -/
import Derived.Test.YtpmammacnoamkaaP2
set_option autoImplicit false
set_option linter.unusedSimpArgs false
set_option linter.unusedVariables false
namespace Go.Proofs.Ytpmammacnoamkaa
namespace Eng
theorem room_right (n : Int) (c : Nat) (h1 : 1 ≤ n) (h2 : n + 1 + c ≤ 2199023255552) (hc : c ≤ 64) : rightB n (seqI (n + 1) c) = true :=
  rightB_iff.2 ⟨h1, by omega, by rw [seq_len]; exact hc, seq_chain c (n + 1) n (by omega) (by omega) h2⟩
theorem room_step (n : Int) (i : Nat) (h1 : 1 ≤ n) (h2 : n + 1 + i + 1 ≤ 2199023255552) : comeS n (seqI (n + 1) (min i 64)) ⟨n + 1 + i, n + 1 + i + 1, zM⟩ = ((n, seqI (n + 1) (min (i + 1) 64)), [], if 64 ≤ i then 4 else 2) := by
  unfold comeS
  rw [if_neg (fun h => h ⟨room_right n _ h1 (by omega) (by omega), mayI_iff.2 ⟨by show 1 ≤ n + 1 + (i : Int); omega, by show n + 1 + (i : Int) < n + 1 + i + 1; omega, h2⟩⟩), if_neg (by show ¬ n + 1 + (i : Int) + 1 ≤ n; omega), if_pos (show n < n + 1 + (i : Int) by omega)]
  obtain ⟨hf, hi⟩ := seq_keep (min i 64) (n + 1) ⟨n + 1 + i, n + 1 + i + 1, zM⟩ (by show n + 1 + ((min i 64 : Nat) : Int) ≤ n + 1 + i; omega)
  by_cases h : 64 ≤ i
  · rw [keepS_full hf (by rw [seq_len]; omega), if_pos h, show min (i + 1) 64 = min i 64 by omega]
  · rw [keepS_ins hf (by rw [seq_len]; omega), if_neg h, hi, show min i 64 = i by omega, show min (i + 1) 64 = i + 1 by omega, ← seq_snoc]
theorem room_gone (n : Int) (c : Nat) (h1 : 1 ≤ n) (h2 : n + 1 + c ≤ 2199023255552) (hc : c ≤ 64) : comeS n (seqI (n + 1) c) ⟨n - 1, n, zM⟩ = ((n, seqI (n + 1) c), [], if n = 1 then 0 else 3) := by
  unfold comeS
  by_cases h : n = 1
  · rw [if_pos (fun hh => by have := (mayI_iff.1 hh.2).1; have : 1 ≤ n - 1 := this; omega), if_pos h]
  · rw [if_neg (fun hh => hh ⟨room_right n _ h1 h2 hc, mayI_iff.2 ⟨by show 1 ≤ n - 1; omega, by show n - 1 < n; omega, by show n ≤ _; omega⟩⟩), if_pos (show n ≤ n from Int.le_refl _), if_neg h]
theorem room_join (n : Int) (c : Nat) (h1 : 1 ≤ n) (h2 : n + 1 + c ≤ 2199023255552) (hc : c ≤ 64) : comeS n (seqI (n + 1) c) ⟨n, n + 1, zM⟩ = ((n + 1 + c, []), ⟨n, n + 1, zM⟩ :: seqI (n + 1) c, 1) := by
  unfold comeS
  rw [if_neg (fun hh => hh ⟨room_right n _ h1 h2 hc, mayI_iff.2 ⟨h1, by show n < n + 1; omega, by show n + 1 ≤ _; omega⟩⟩), if_neg (by show ¬ n + 1 ≤ n; omega), if_neg (show ¬ n < n by omega)]
  show (((drain (n + 1) (seqI (n + 1) c)).2.1, (drain (n + 1) (seqI (n + 1) c)).2.2), _ :: (drain (n + 1) (seqI (n + 1) c)).1, (1 : Int)) = _
  rw [seq_drain]
end Eng
end Go.Proofs.Ytpmammacnoamkaa
