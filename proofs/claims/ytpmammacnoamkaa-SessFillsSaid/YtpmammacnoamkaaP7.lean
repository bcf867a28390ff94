/- SessFills, plainly: what a message does. -/
import Derived.Test.YtpmammacnoamkaaP6
set_option autoImplicit false
set_option linter.unusedSimpArgs false
set_option linter.unusedVariables false
set_option maxRecDepth 100000
namespace Go.Proofs.Ytpmammacnoamkaa
namespace Eng
abbrev mrep (k : Int) (cp : Bool) : Msg := ⟨7, k, 0, cp, 0, 0, false, ⟨#[]⟩, ⟨#[101]⟩, ⟨#[]⟩, ⟨#[111]⟩, ⟨#[97]⟩, ⟨#[115]⟩, 1, false, 0, 0, 0⟩
def SF (p : Int) (hd : List Itm) (out qa : Int) : Ses := ⟨2, p, hd, out, 30, 0, 0, qa, 0, false⟩
theorem mrep_right (k : Int) (cp : Bool) (h : 1 ≤ k ∧ k ≤ 1000) : mR (mrep k cp) = true := by
  have e : exB (mrep k cp) = true := by rfl
  unfold mR
  rw [show mK (mrep k cp) = true by unfold mK; rw [if_neg (show ¬ (7 : Int) = 1 by decide), if_neg (show ¬ (7 : Int) = 2 by decide), if_neg (show ¬ (7 : Int) = 3 by decide), if_neg (show ¬ (7 : Int) = 4 by decide), if_neg (show ¬ (7 : Int) = 5 by decide), if_neg (show ¬ (7 : Int) = 6 by decide), if_pos (show (7 : Int) = 7 by rfl), e]; rfl]
  have h1 : smallB k = true := by unfold smallB; rw [decide_eq_true h.1 |> fun _ => decide_eq_true (show 0 ≤ k by omega), decide_eq_true (show k ≤ 1099511627776 by omega)]; rfl
  have h2 : (k != 0) = true := by rw [bne_iff_ne]; omega
  show (smallB k && (k != 0) && whenB 0 && true) = true
  rw [h1, h2]; rfl
theorem beat_right (k : Int) (h : 1 ≤ k ∧ k ≤ 1000) : mR (mQ 2 k) = true := by
  unfold mR
  rw [show mK (mQ 2 k) = true by rfl]
  have h1 : smallB k = true := by unfold smallB; rw [decide_eq_true (show 0 ≤ k by omega), decide_eq_true (show k ≤ 1099511627776 by omega)]; rfl
  have h2 : (k != 0) = true := by rw [bne_iff_ne]; omega
  show (smallB k && (k != 0) && whenB 0 && true) = true
  rw [h1, h2]; rfl
theorem SF_right {p : Int} {hd : List Itm} {out qa : Int} (h : rightB p hd = true) (ho : 1 ≤ out ∧ out ≤ 1000) (hq : 0 ≤ qa ∧ qa ≤ 1000) : sesR (SF p hd out qa) = true :=
  sesR_iff.2 ⟨by unfold SF; dsimp only; omega, h, by unfold SF; dsimp only; omega, by unfold SF; dsimp only; omega, by unfold SF; dsimp only; omega, by unfold SF; dsimp only; omega, by unfold SF; dsimp only; omega, by unfold SF; dsimp only; omega⟩
def lastA (N : Int) (R : List Itm) : Int := if N + 10 - 1 < (R.getD 0 default).fr - 1 then N + 10 - 1 else (R.getD 0 default).fr - 1
abbrev mask (out N L : Int) : Msg := { mT 4 N L ⟨#[]⟩ with seq := out, time := 0 }
def ask1 (N : Int) (R : List Itm) (out qa : Int) : Ses × List Msg :=
  if R ≠ [] ∧ qa < N then (SF N R (out + 1) (lastA N R), [mask out N (lastA N R)]) else (SF N R out qa, [])
theorem come_fill {p : Int} {hd : List Itm} {out qa : Int} {m : Msg} (hs : sesR (SF p hd out qa) = true) (hm : mR m = true) (hk : m.kind = 7 ∨ m.kind = 2) (ho : out ≤ 1000) {N : Int} {R T : List Itm} {c : Int} (hc : comeS p hd ⟨m.seq, m.seq + 1, m⟩ = ((N, R), T, c)) (hR : rightB N R = true) :
    comeT (SF p hd out qa) m 0 = ((ask1 N R out qa).1, (ask1 N R out qa).2, tellS T, false, 0) := by
  unfold comeT
  rw [if_neg (fun h => h ⟨hs, hm, by rfl⟩), if_neg (show ¬ ((SF p hd out qa).st = 0 ∨ (SF p hd out qa).st = 1 ∧ m.kind ≠ 1) by show ¬ ((2 : Int) = 0 ∨ (2 : Int) = 1 ∧ m.kind ≠ 1); omega), if_neg (show ¬ (m.kind = 5 ∧ m.gap = false) by omega)]
  have ea : answerS { (SF p hd out qa) with st := 2, he := 0, te := false } 0 [] m = (SF p hd out qa, []) := by
    unfold answerS
    rw [if_neg (by omega), if_neg (by omega)]
    rfl
  have ei : itemOf m = ⟨m.seq, m.seq + 1, m⟩ := by unfold itemOf; rw [if_neg (by omega)]
  have et : takeS (SF p hd out qa) m = (SF N R out qa, tellS T) := by
    unfold takeS
    rw [ei]
    show ({ (SF p hd out qa) with nx := (comeS p hd ⟨m.seq, m.seq + 1, m⟩).1.1, hd := (comeS p hd ⟨m.seq, m.seq + 1, m⟩).1.2 }, tellS (comeS p hd ⟨m.seq, m.seq + 1, m⟩).2.1) = _
    rw [hc]; rfl
  have ek : askS (SF N R out qa) 0 [] = ask1 N R out qa := by
    by_cases hn : R ≠ []
    · have hg : gapS (SF N R out qa).nx (SF N R out qa).hd = (N, (R.getD 0 default).fr - 1, true) := by
        show gapS N R = _
        unfold gapS
        rw [if_pos ⟨hR, hn⟩]
      by_cases hq : qa < N
      · have e1 : ask1 N R out qa = (SF N R (out + 1) (lastA N R), [mask out N (lastA N R)]) := by unfold ask1; exact if_pos ⟨hn, hq⟩
        have e2 : ∀ L : Int, sayS (SF N R out qa) 0 [] (mT 4 N L ⟨#[]⟩) = ({ (SF N R out qa) with out := out + 1, sa := 0 }, [mask out N L]) := fun L => by
          unfold sayS
          rw [if_neg (show ¬ (SF N R out qa).out = 1099511627776 by show ¬ out = 1099511627776; omega)]
          rfl
        rw [e1]
        unfold askS
        rw [hg, if_neg (show ¬ ((SF N R out qa).st ≠ 2 ∨ true = false ∨ N ≤ (SF N R out qa).qa) from fun h => by rcases h with h | h | h; exact h rfl; exact absurd h (by decide); exact absurd (show N ≤ qa from h) (by omega))]
        dsimp only
        rw [e2]
        rfl
      · have e1 : ask1 N R out qa = (SF N R out qa, []) := by unfold ask1; exact if_neg (fun h => hq h.2)
        rw [e1]
        unfold askS
        rw [hg, if_pos (show (SF N R out qa).st ≠ 2 ∨ true = false ∨ N ≤ (SF N R out qa).qa from .inr (.inr (show N ≤ qa by omega)))]
    · have hg : (gapS (SF N R out qa).nx (SF N R out qa).hd).2.2 = false := by
        show (gapS N R).2.2 = _
        unfold gapS
        rw [if_neg (fun h => hn h.2)]
      have e1 : ask1 N R out qa = (SF N R out qa, []) := by unfold ask1; exact if_neg (fun h => hn h.1)
      rw [e1]
      unfold askS
      rw [if_pos (.inr (.inl hg))]
  rw [ea]
  dsimp only
  rw [et]
  dsimp only
  rw [ek, if_neg (by omega)]
end Eng
end Go.Proofs.Ytpmammacnoamkaa
