/- num.Sum. -/
import Derived.Test.YtllfgnhnooonfaaDoorS1
set_option autoImplicit false
set_option linter.unusedSimpArgs false
set_option linter.unusedVariables false
set_option maxRecDepth 100000
namespace Go.Proofs.YtllfgnhnooonfaaDoor
namespace Eng
abbrev SI (l : List Int) : D := .e (.c (.v (.s 1 (l.map fun n => [V.x (.int .i64 n)]))))
def sumT (l : List Int) (i : Nat) : Int := (l.take i).foldl (· + ·) 0
theorem sumT_succ (l : List Int) (i : Nat) (h : i < l.length) : sumT l (i + 1) = sumT l i + l.getD i 0 := by
  rw [sumT, sumT, List.take_add_one, List.foldl_append, List.getD_eq_getElem?_getD, List.getElem?_eq_getElem h]
  rfl
theorem shr63 (x : Int) : x.fdiv (2 ^ (min (Int.toNat 63) IntKind.i64.bits)) = x / 9223372036854775808 := by
  have : (2 : Int) ^ (min (Int.toNat 63) IntKind.i64.bits) = 9223372036854775808 := by decide
  rw [this, Int.fdiv_eq_ediv_of_nonneg _ (by omega)]
theorem wrapI (x : Int) (h0 : 0 ≤ x) (h1 : x ≤ 18446744073709551615) : IntKind.i64.wrap x = if x < 9223372036854775808 then x else x - 18446744073709551616 := by
  simp only [IntKind.wrap, IntKind.bits, IntKind.signed]
  simp
  split <;> omega
open Classical in
noncomputable def sumS (l : List Int) : Int × Bool := if (∀ j, j < l.length → okN (l.getD j 0)) ∧ okN (sumT l l.length) then (sumT l l.length, true) else (0, false)
theorem sum53_c (l : List Int) (hl : l.length ≤ 1000) (r : Int × Bool) (hr : sumS l = r) : ACall Tryd.prog 20 [] [SI l] (numD r) [] := by
  have hright : True := trivial
  have hn2 : True := trivial
  have h00 : sumT l 0 = 0 := rfl
  refine acall_of tG_ok Tryd.func20 rfl (by kernel_rfl) (by simp) ?_
  repeat' (first | ((fail_if_success clear hK); change AWp _ _ _ _ _ _; first | refine AWp.seq ?_ | refine AWp.text (own := nO) tG_ok (by kernel_rfl) (fun K hK => ?_) | refine AWp.draw (own := nO) tG_ok mixed (by kernel_rfl) (by kernel_rfl) (fun K hK => ?_) | refine AWp.skip ?_ | refine AWp.ret ?_ | refine AWp.exit ?_ | refine AWp.label ?_ | refine AWp.block ?_) | (revert hK; intro hK; first | (with_reducible refine hK _ _ _ ?_; clear hK K) | (with_reducible refine hK _ _ _ ?_ ?_; (focus kernel_rfl); clear hK K) | ((with_reducible change CallS _ _ _ _ _ _); (first | refine CallS.of hright ?_ | refine CallS.ext (add64_x _ _ _ (by omega) (by omega) (by omega) (by omega)) ?_ | refine CallS.of_if (fun _ => right_c _) ?_)) | (with_reducible refine And.intro ?_ ?_) | (simp (disch := omega) only [↓reduceIte, ev_all, backT, pos, idsB, idsC, nodup, live, makeSliceE, viewE, viewFE, appendUE, appendFE, capFE, copyE, copySrc, clearE, guardB, isNilOp, nilS, withTy, splice, lenE, appendE, sliceE, boundE, indexAddrE, indexE, buildE, fillE, buildSliceE, partsE, builtinE, minE, minI, convE, convHE, appendNE, capE, D.x, id_eq, eq_self, if_true, if_false, ne_eq, implies_true, Nat.reduceAdd, Nat.reduceMul, Nat.reduceSub, Nat.reduceEqDiff, Nat.reduceLT, Nat.reduceLeDiff, reduceCtorEq, co_all, forall_const, Nat.reduceBEq, Int.reduceEq, getD_rI, wrapU, shr63, hn2, true_and, tl2, tl3, tl4, tl35, tl40]) | (first | omega | (intro hq; (try simp only [bo_all, ne_eq, Bool.not_not, Bool.and_true] at hq); first | omega | assumption | (simp_all; done)) | (simp_all; done)) | (intro (bn : Bool) hbn)))
  refine AWp.loop (fun i : Nat => mkSt [(4, U (sumT l i / 18446744073709551616 % 18446744073709551616)), (5, U (sumT l i % 18446744073709551616)), (10, SI l), (11, I l.length), (12, I i)] [] 0)
    (fun i => i ≤ l.length ∧ (∀ j, j < i → okN (l.getD j 0)) ∧ -(4611686018427387904 * (i : Int)) ≤ sumT l i ∧ sumT l i ≤ 4611686018427387904 * i) (fun i => l.length - i) 0 ⟨Nat.zero_le _, (fun j hj => absurd hj (Nat.not_lt_zero _)), (by show -(4611686018427387904 * ((0 : Nat) : Int)) ≤ 0; decide), (by show (0 : Int) ≤ 4611686018427387904 * ((0 : Nat) : Int); decide)⟩ (by refine Le.of (τ := []) (ν := []) (by kernel_rfl) ?_ ?_ <;> (simp (disch := omega) only [↓reduceIte, fi_all, Nat.reduceEqDiff, Nat.reduceAdd, if_true, if_false, reduceCtorEq, eq_self, Nat.reduceBEq, co_all, forall_const, Nat.reduceBEq, Int.reduceEq, getD_rI, wrapU, shr63, hn2, tl2, tl3, tl4, tl35, tl40]; try (rw [h00]; exact ⟨rfl, rfl⟩))) fun i hi => ?_
  obtain ⟨hi, hj, hb1, hb2⟩ := hi
  repeat' (first | ((fail_if_success clear hK); change AWp _ _ _ _ _ _; first | refine AWp.seq ?_ | refine AWp.text (own := nO) tG_ok (by kernel_rfl) (fun K hK => ?_) | refine AWp.draw (own := nO) tG_ok mixed (by kernel_rfl) (by kernel_rfl) (fun K hK => ?_) | refine AWp.skip ?_ | refine AWp.ret ?_ | refine AWp.exit ?_ | refine AWp.label ?_ | refine AWp.block ?_) | (revert hK; intro hK; first | (with_reducible refine hK _ _ _ ?_; clear hK K) | (with_reducible refine hK _ _ _ ?_ ?_; (focus kernel_rfl); clear hK K) | ((with_reducible change CallS _ _ _ _ _ _); (first | refine CallS.of hright ?_ | refine CallS.ext (add64_x _ _ _ (by omega) (by omega) (by omega) (by omega)) ?_ | refine CallS.of_if (fun _ => right_c _) ?_)) | (with_reducible refine And.intro ?_ ?_) | (simp (disch := omega) only [↓reduceIte, ev_all, backT, pos, idsB, idsC, nodup, live, makeSliceE, viewE, viewFE, appendUE, appendFE, capFE, copyE, copySrc, clearE, guardB, isNilOp, nilS, withTy, splice, lenE, appendE, sliceE, boundE, indexAddrE, indexE, buildE, fillE, buildSliceE, partsE, builtinE, minE, minI, convE, convHE, appendNE, capE, D.x, id_eq, eq_self, if_true, if_false, ne_eq, implies_true, Nat.reduceAdd, Nat.reduceMul, Nat.reduceSub, Nat.reduceEqDiff, Nat.reduceLT, Nat.reduceLeDiff, reduceCtorEq, co_all, forall_const, Nat.reduceBEq, Int.reduceEq, getD_rI, wrapU, shr63, hn2, true_and, tl2, tl3, tl4, tl35, tl40]) | (first | omega | (intro hq; (try simp only [bo_all, ne_eq, Bool.not_not, Bool.and_true] at hq); first | omega | assumption | (simp_all; done)) | (simp_all; done)) | (intro (bn : Bool) hbn)))
  (try change AWp _ _ _ _ _ _); refine AWp.cond (by exact rfl) (fun hc => ?_) (fun hc => ?_) <;> (try simp only [bo_all, ne_eq] at hc)
  · have hil : i < l.length := by omega
    have hs := sumT_succ l i hil
    obtain ⟨n, hn⟩ : ∃ n, l.getD i 0 = n := ⟨_, rfl⟩
    have hright := right_c (l.getD i 0)
    by_cases hok : okN (l.getD i 0)
    · rw [rightN_spec.2 hok] at hright
      have hok2 := hok
      unfold okN at hok2
      repeat' (first | ((fail_if_success clear hK); change AWp _ _ _ _ _ _; first | refine AWp.seq ?_ | refine AWp.text (own := nO) tG_ok (by kernel_rfl) (fun K hK => ?_) | refine AWp.draw (own := nO) tG_ok mixed (by kernel_rfl) (by kernel_rfl) (fun K hK => ?_) | refine AWp.skip ?_ | refine AWp.ret ?_ | refine AWp.exit ?_ | refine AWp.label ?_ | refine AWp.block ?_) | (revert hK; intro hK; first | (with_reducible refine hK _ _ _ ?_; clear hK K) | (with_reducible refine hK _ _ _ ?_ ?_; (focus kernel_rfl); clear hK K) | ((with_reducible change CallS _ _ _ _ _ _); (first | refine CallS.of hright ?_ | refine CallS.ext (add64_x _ _ _ (by omega) (by omega) (by omega) (by omega)) ?_ | refine CallS.of_if (fun _ => right_c _) ?_)) | (with_reducible refine And.intro ?_ ?_) | (simp (disch := omega) only [↓reduceIte, ev_all, backT, pos, idsB, idsC, nodup, live, makeSliceE, viewE, viewFE, appendUE, appendFE, capFE, copyE, copySrc, clearE, guardB, isNilOp, nilS, withTy, splice, lenE, appendE, sliceE, boundE, indexAddrE, indexE, buildE, fillE, buildSliceE, partsE, builtinE, minE, minI, convE, convHE, appendNE, capE, D.x, id_eq, eq_self, if_true, if_false, ne_eq, implies_true, Nat.reduceAdd, Nat.reduceMul, Nat.reduceSub, Nat.reduceEqDiff, Nat.reduceLT, Nat.reduceLeDiff, reduceCtorEq, co_all, forall_const, Nat.reduceBEq, Int.reduceEq, getD_rI, wrapU, shr63, hn2, true_and, tl2, tl3, tl4, tl35, tl40]) | (first | omega | (intro hq; (try simp only [bo_all, ne_eq, Bool.not_not, Bool.and_true] at hq); first | omega | assumption | (simp_all; done)) | (simp_all; done)) | (intro (bn : Bool) hbn)))
      (try change AWp _ _ _ _ _ _); refine AWp.cond (by exact rfl) (fun hc => ?_) (fun hc => ?_) <;> (try simp only [bo_all, ne_eq] at hc)
      · contradiction
      · repeat' (first | ((fail_if_success clear hK); change AWp _ _ _ _ _ _; first | refine AWp.seq ?_ | refine AWp.text (own := nO) tG_ok (by kernel_rfl) (fun K hK => ?_) | refine AWp.draw (own := nO) tG_ok mixed (by kernel_rfl) (by kernel_rfl) (fun K hK => ?_) | refine AWp.skip ?_ | refine AWp.ret ?_ | refine AWp.exit ?_ | refine AWp.label ?_ | refine AWp.block ?_) | (revert hK; intro hK; first | (with_reducible refine hK _ _ _ ?_; clear hK K) | (with_reducible refine hK _ _ _ ?_ ?_; (focus kernel_rfl); clear hK K) | ((with_reducible change CallS _ _ _ _ _ _); (first | refine CallS.of hright ?_ | refine CallS.ext (add64_x _ _ _ (by omega) (by omega) (by omega) (by omega)) ?_ | refine CallS.of_if (fun _ => right_c _) ?_)) | (with_reducible refine And.intro ?_ ?_) | (simp (disch := omega) only [↓reduceIte, ev_all, backT, pos, idsB, idsC, nodup, live, makeSliceE, viewE, viewFE, appendUE, appendFE, capFE, copyE, copySrc, clearE, guardB, isNilOp, nilS, withTy, splice, lenE, appendE, sliceE, boundE, indexAddrE, indexE, buildE, fillE, buildSliceE, partsE, builtinE, minE, minI, convE, convHE, appendNE, capE, D.x, id_eq, eq_self, if_true, if_false, ne_eq, implies_true, Nat.reduceAdd, Nat.reduceMul, Nat.reduceSub, Nat.reduceEqDiff, Nat.reduceLT, Nat.reduceLeDiff, reduceCtorEq, co_all, forall_const, Nat.reduceBEq, Int.reduceEq, getD_rI, wrapU, shr63, hn2, true_and, tl2, tl3, tl4, tl35, tl40]) | (first | omega | (intro hq; (try simp only [bo_all, ne_eq, Bool.not_not, Bool.and_true] at hq); first | omega | assumption | (simp_all; done)) | (simp_all; done)) | (intro (bn : Bool) hbn)))
        refine round_of (τ := ren []) (ν := []) (i + 1) ⟨by omega, (fun j h => by
          rcases (show j < i ∨ j = i by omega) with h | rfl
          · exact hj j h
          · exact hok), by omega, by omega⟩ (by omega) ?_
        refine Le.of (τ := []) (by kernel_rfl) ?_ ?_ <;> simp (disch := omega) only [↓reduceIte, fi_all, Nat.reduceEqDiff, Nat.reduceAdd, if_true, if_false, reduceCtorEq, eq_self, Nat.reduceBEq, co_all, forall_const, Nat.reduceBEq, Int.reduceEq, getD_rI, wrapU, shr63, hn2, tl2, tl3, tl4, tl35, tl40]
        rw [hs]
        clear hj hr hs hb1 hb2 hn
        generalize sumT l i = T at *
        generalize l.getD i 0 = k at *
        have hT : T = 18446744073709551616 * (T / 18446744073709551616) + T % 18446744073709551616 := (Int.mul_ediv_add_emod _ _).symm
        have hlo0 : 0 ≤ T % 18446744073709551616 := Int.emod_nonneg _ (by decide)
        have hlo1 : T % 18446744073709551616 < 18446744073709551616 := Int.emod_lt_of_pos _ (by decide)
        generalize T / 18446744073709551616 = q at *
        generalize T % 18446744073709551616 = lo at *
        subst hT
        by_cases hk : k < 0
        · have a1 : k / 9223372036854775808 % 18446744073709551616 = 18446744073709551615 := by omega
          have a2 : k % 18446744073709551616 = k + 18446744073709551616 := by omega
          rw [a1, a2]
          by_cases hc : lo + k < 0
          · have b1 : (18446744073709551616 * q + lo + k) / 18446744073709551616 = q - 1 := by omega
            have b2 : (lo + (k + 18446744073709551616) + 0) / 18446744073709551616 = 0 := by omega
            rw [b1, b2]; constructor <;> omega
          · have b1 : (18446744073709551616 * q + lo + k) / 18446744073709551616 = q := by omega
            have b2 : (lo + (k + 18446744073709551616) + 0) / 18446744073709551616 = 1 := by omega
            rw [b1, b2]; constructor <;> omega
        · have a1 : k / 9223372036854775808 % 18446744073709551616 = 0 := by omega
          have a2 : k % 18446744073709551616 = k := by omega
          rw [a1, a2]
          by_cases hc : lo + k < 18446744073709551616
          · have b1 : (18446744073709551616 * q + lo + k) / 18446744073709551616 = q := by omega
            have b2 : (lo + k + 0) / 18446744073709551616 = 0 := by omega
            rw [b1, b2]; constructor <;> omega
          · have b1 : (18446744073709551616 * q + lo + k) / 18446744073709551616 = q + 1 := by omega
            have b2 : (lo + k + 0) / 18446744073709551616 = 1 := by omega
            rw [b1, b2]; constructor <;> omega
    · rw [rightN_no.2 hok] at hright
      have e : r = (0, false) := by rw [← hr, sumS, if_neg]; exact fun h => hok (h.1 i hil)
      subst e
      repeat' (first | ((fail_if_success clear hK); change AWp _ _ _ _ _ _; first | refine AWp.seq ?_ | refine AWp.text (own := nO) tG_ok (by kernel_rfl) (fun K hK => ?_) | refine AWp.draw (own := nO) tG_ok mixed (by kernel_rfl) (by kernel_rfl) (fun K hK => ?_) | refine AWp.skip ?_ | refine AWp.ret ?_ | refine AWp.exit ?_ | refine AWp.label ?_ | refine AWp.block ?_) | (revert hK; intro hK; first | (with_reducible refine hK _ _ _ ?_; clear hK K) | (with_reducible refine hK _ _ _ ?_ ?_; (focus kernel_rfl); clear hK K) | ((with_reducible change CallS _ _ _ _ _ _); (first | refine CallS.of hright ?_ | refine CallS.ext (add64_x _ _ _ (by omega) (by omega) (by omega) (by omega)) ?_ | refine CallS.of_if (fun _ => right_c _) ?_)) | (with_reducible refine And.intro ?_ ?_) | (simp (disch := omega) only [↓reduceIte, ev_all, backT, pos, idsB, idsC, nodup, live, makeSliceE, viewE, viewFE, appendUE, appendFE, capFE, copyE, copySrc, clearE, guardB, isNilOp, nilS, withTy, splice, lenE, appendE, sliceE, boundE, indexAddrE, indexE, buildE, fillE, buildSliceE, partsE, builtinE, minE, minI, convE, convHE, appendNE, capE, D.x, id_eq, eq_self, if_true, if_false, ne_eq, implies_true, Nat.reduceAdd, Nat.reduceMul, Nat.reduceSub, Nat.reduceEqDiff, Nat.reduceLT, Nat.reduceLeDiff, reduceCtorEq, co_all, forall_const, Nat.reduceBEq, Int.reduceEq, getD_rI, wrapU, shr63, hn2, true_and, tl2, tl3, tl4, tl35, tl40]) | (first | omega | (intro hq; (try simp only [bo_all, ne_eq, Bool.not_not, Bool.and_true] at hq); first | omega | assumption | (simp_all; done)) | (simp_all; done)) | (intro (bn : Bool) hbn)))
      (try change AWp _ _ _ _ _ _); refine AWp.cond (by exact rfl) (fun hc => ?_) (fun hc => ?_) <;> (try simp only [bo_all, ne_eq] at hc)
      · repeat' (first | ((fail_if_success clear hK); change AWp _ _ _ _ _ _; first | refine AWp.seq ?_ | refine AWp.text (own := nO) tG_ok (by kernel_rfl) (fun K hK => ?_) | refine AWp.draw (own := nO) tG_ok mixed (by kernel_rfl) (by kernel_rfl) (fun K hK => ?_) | refine AWp.skip ?_ | refine AWp.ret ?_ | refine AWp.exit ?_ | refine AWp.label ?_ | refine AWp.block ?_) | (revert hK; intro hK; first | (with_reducible refine hK _ _ _ ?_; clear hK K) | (with_reducible refine hK _ _ _ ?_ ?_; (focus kernel_rfl); clear hK K) | ((with_reducible change CallS _ _ _ _ _ _); (first | refine CallS.of hright ?_ | refine CallS.ext (add64_x _ _ _ (by omega) (by omega) (by omega) (by omega)) ?_ | refine CallS.of_if (fun _ => right_c _) ?_)) | (with_reducible refine And.intro ?_ ?_) | (simp (disch := omega) only [↓reduceIte, ev_all, backT, pos, idsB, idsC, nodup, live, makeSliceE, viewE, viewFE, appendUE, appendFE, capFE, copyE, copySrc, clearE, guardB, isNilOp, nilS, withTy, splice, lenE, appendE, sliceE, boundE, indexAddrE, indexE, buildE, fillE, buildSliceE, partsE, builtinE, minE, minI, convE, convHE, appendNE, capE, D.x, id_eq, eq_self, if_true, if_false, ne_eq, implies_true, Nat.reduceAdd, Nat.reduceMul, Nat.reduceSub, Nat.reduceEqDiff, Nat.reduceLT, Nat.reduceLeDiff, reduceCtorEq, co_all, forall_const, Nat.reduceBEq, Int.reduceEq, getD_rI, wrapU, shr63, hn2, true_and, tl2, tl3, tl4, tl35, tl40]) | (first | omega | (intro hq; (try simp only [bo_all, ne_eq, Bool.not_not, Bool.and_true] at hq); first | omega | assumption | (simp_all; done)) | (simp_all; done)) | (intro (bn : Bool) hbn)))
        change Fin _ _ _ _ _ _; simp only [fe_all, id_eq, Nat.reduceLeDiff, ↓reduceIte, fi_all, Nat.reduceEqDiff, Nat.reduceAdd, if_true, if_false, reduceCtorEq, eq_self, Nat.reduceBEq, Tryd.results20, tl2, tl3, tl4, tl35, tl40]; refine ⟨[], [], [], by kernel_rfl, ?_, ?_⟩ <;> (simp (disch := omega) only [↓reduceIte, fi_all, Nat.reduceEqDiff, Nat.reduceAdd, if_true, if_false, reduceCtorEq, eq_self, Nat.reduceBEq, co_all, forall_const, Nat.reduceBEq, Int.reduceEq, getD_rI, wrapU, shr63, hn2, tl2, tl3, tl4, tl35, tl40]; try omega)
      · contradiction
  · obtain rfl : i = l.length := by omega
    have hlo := wrapI (sumT l l.length % 18446744073709551616) (by omega) (by omega)
    obtain ⟨m, hn2⟩ : ∃ m, IntKind.i64.wrap (sumT l l.length % 18446744073709551616) = m := ⟨_, rfl⟩
    rw [hn2] at hlo
    have hall : ∀ j, j < l.length → okN (l.getD j 0) := hj
    repeat' (first | ((fail_if_success clear hK); change AWp _ _ _ _ _ _; first | refine AWp.seq ?_ | refine AWp.text (own := nO) tG_ok (by kernel_rfl) (fun K hK => ?_) | refine AWp.draw (own := nO) tG_ok mixed (by kernel_rfl) (by kernel_rfl) (fun K hK => ?_) | refine AWp.skip ?_ | refine AWp.ret ?_ | refine AWp.exit ?_ | refine AWp.label ?_ | refine AWp.block ?_) | (revert hK; intro hK; first | (with_reducible refine hK _ _ _ ?_; clear hK K) | (with_reducible refine hK _ _ _ ?_ ?_; (focus kernel_rfl); clear hK K) | ((with_reducible change CallS _ _ _ _ _ _); (first | refine CallS.of hright ?_ | refine CallS.ext (add64_x _ _ _ (by omega) (by omega) (by omega) (by omega)) ?_ | refine CallS.of_if (fun _ => right_c _) ?_)) | (with_reducible refine And.intro ?_ ?_) | (simp (disch := omega) only [↓reduceIte, ev_all, backT, pos, idsB, idsC, nodup, live, makeSliceE, viewE, viewFE, appendUE, appendFE, capFE, copyE, copySrc, clearE, guardB, isNilOp, nilS, withTy, splice, lenE, appendE, sliceE, boundE, indexAddrE, indexE, buildE, fillE, buildSliceE, partsE, builtinE, minE, minI, convE, convHE, appendNE, capE, D.x, id_eq, eq_self, if_true, if_false, ne_eq, implies_true, Nat.reduceAdd, Nat.reduceMul, Nat.reduceSub, Nat.reduceEqDiff, Nat.reduceLT, Nat.reduceLeDiff, reduceCtorEq, co_all, forall_const, Nat.reduceBEq, Int.reduceEq, getD_rI, wrapU, shr63, hn2, true_and, tl2, tl3, tl4, tl35, tl40]) | (first | omega | (intro hq; (try simp only [bo_all, ne_eq, Bool.not_not, Bool.and_true] at hq); first | omega | assumption | (simp_all; done)) | (simp_all; done)) | (intro (bn : Bool) hbn)))
    (try change AWp _ _ _ _ _ _); refine AWp.cond (by exact rfl) (fun hc => ?_) (fun hc => ?_) <;> (try simp only [bo_all, ne_eq] at hc)
    · have e : r = (0, false) := by
        rw [← hr, sumS, if_neg]
        rintro ⟨_, h⟩
        have h' := h
        unfold okN at h'
        have hm : m = sumT l l.length := by split at hlo <;> omega
        rcases hc with h1 | h1
        · apply h1; rw [hm]; omega
        · rw [hm, rightN_spec.2 h] at h1; cases h1
      subst e
      repeat' (first | ((fail_if_success clear hK); change AWp _ _ _ _ _ _; first | refine AWp.seq ?_ | refine AWp.text (own := nO) tG_ok (by kernel_rfl) (fun K hK => ?_) | refine AWp.draw (own := nO) tG_ok mixed (by kernel_rfl) (by kernel_rfl) (fun K hK => ?_) | refine AWp.skip ?_ | refine AWp.ret ?_ | refine AWp.exit ?_ | refine AWp.label ?_ | refine AWp.block ?_) | (revert hK; intro hK; first | (with_reducible refine hK _ _ _ ?_; clear hK K) | (with_reducible refine hK _ _ _ ?_ ?_; (focus kernel_rfl); clear hK K) | ((with_reducible change CallS _ _ _ _ _ _); (first | refine CallS.of hright ?_ | refine CallS.ext (add64_x _ _ _ (by omega) (by omega) (by omega) (by omega)) ?_ | refine CallS.of_if (fun _ => right_c _) ?_)) | (with_reducible refine And.intro ?_ ?_) | (simp (disch := omega) only [↓reduceIte, ev_all, backT, pos, idsB, idsC, nodup, live, makeSliceE, viewE, viewFE, appendUE, appendFE, capFE, copyE, copySrc, clearE, guardB, isNilOp, nilS, withTy, splice, lenE, appendE, sliceE, boundE, indexAddrE, indexE, buildE, fillE, buildSliceE, partsE, builtinE, minE, minI, convE, convHE, appendNE, capE, D.x, id_eq, eq_self, if_true, if_false, ne_eq, implies_true, Nat.reduceAdd, Nat.reduceMul, Nat.reduceSub, Nat.reduceEqDiff, Nat.reduceLT, Nat.reduceLeDiff, reduceCtorEq, co_all, forall_const, Nat.reduceBEq, Int.reduceEq, getD_rI, wrapU, shr63, hn2, true_and, tl2, tl3, tl4, tl35, tl40]) | (first | omega | (intro hq; (try simp only [bo_all, ne_eq, Bool.not_not, Bool.and_true] at hq); first | omega | assumption | (simp_all; done)) | (simp_all; done)) | (intro (bn : Bool) hbn)))
      change Fin _ _ _ _ _ _; simp only [fe_all, id_eq, Nat.reduceLeDiff, ↓reduceIte, fi_all, Nat.reduceEqDiff, Nat.reduceAdd, if_true, if_false, reduceCtorEq, eq_self, Nat.reduceBEq, Tryd.results20, tl2, tl3, tl4, tl35, tl40]; refine ⟨[], [], [], by kernel_rfl, ?_, ?_⟩ <;> (simp (disch := omega) only [↓reduceIte, fi_all, Nat.reduceEqDiff, Nat.reduceAdd, if_true, if_false, reduceCtorEq, eq_self, Nat.reduceBEq, co_all, forall_const, Nat.reduceBEq, Int.reduceEq, getD_rI, wrapU, shr63, hn2, tl2, tl3, tl4, tl35, tl40]; try omega)
    · obtain ⟨h1, h2⟩ := hc
      have hm : m = sumT l l.length := by split at hlo <;> omega
      have hok := rightN_spec.1 h2
      have e : r = (m, true) := by rw [← hr, sumS, if_pos ⟨hall, by rw [← hm]; exact hok⟩, hm]
      subst e
      repeat' (first | ((fail_if_success clear hK); change AWp _ _ _ _ _ _; first | refine AWp.seq ?_ | refine AWp.text (own := nO) tG_ok (by kernel_rfl) (fun K hK => ?_) | refine AWp.draw (own := nO) tG_ok mixed (by kernel_rfl) (by kernel_rfl) (fun K hK => ?_) | refine AWp.skip ?_ | refine AWp.ret ?_ | refine AWp.exit ?_ | refine AWp.label ?_ | refine AWp.block ?_) | (revert hK; intro hK; first | (with_reducible refine hK _ _ _ ?_; clear hK K) | (with_reducible refine hK _ _ _ ?_ ?_; (focus kernel_rfl); clear hK K) | ((with_reducible change CallS _ _ _ _ _ _); (first | refine CallS.of hright ?_ | refine CallS.ext (add64_x _ _ _ (by omega) (by omega) (by omega) (by omega)) ?_ | refine CallS.of_if (fun _ => right_c _) ?_)) | (with_reducible refine And.intro ?_ ?_) | (simp (disch := omega) only [↓reduceIte, ev_all, backT, pos, idsB, idsC, nodup, live, makeSliceE, viewE, viewFE, appendUE, appendFE, capFE, copyE, copySrc, clearE, guardB, isNilOp, nilS, withTy, splice, lenE, appendE, sliceE, boundE, indexAddrE, indexE, buildE, fillE, buildSliceE, partsE, builtinE, minE, minI, convE, convHE, appendNE, capE, D.x, id_eq, eq_self, if_true, if_false, ne_eq, implies_true, Nat.reduceAdd, Nat.reduceMul, Nat.reduceSub, Nat.reduceEqDiff, Nat.reduceLT, Nat.reduceLeDiff, reduceCtorEq, co_all, forall_const, Nat.reduceBEq, Int.reduceEq, getD_rI, wrapU, shr63, hn2, true_and, tl2, tl3, tl4, tl35, tl40]) | (first | omega | (intro hq; (try simp only [bo_all, ne_eq, Bool.not_not, Bool.and_true] at hq); first | omega | assumption | (simp_all; done)) | (simp_all; done)) | (intro (bn : Bool) hbn)))
      change Fin _ _ _ _ _ _; simp only [fe_all, id_eq, Nat.reduceLeDiff, ↓reduceIte, fi_all, Nat.reduceEqDiff, Nat.reduceAdd, if_true, if_false, reduceCtorEq, eq_self, Nat.reduceBEq, Tryd.results20, tl2, tl3, tl4, tl35, tl40]; refine ⟨[], [], [], by kernel_rfl, ?_, ?_⟩ <;> (simp (disch := omega) only [↓reduceIte, fi_all, Nat.reduceEqDiff, Nat.reduceAdd, if_true, if_false, reduceCtorEq, eq_self, Nat.reduceBEq, co_all, forall_const, Nat.reduceBEq, Int.reduceEq, getD_rI, wrapU, shr63, hn2, tl2, tl3, tl4, tl35, tl40]; try omega)
end Eng
end Go.Proofs.YtllfgnhnooonfaaDoor
