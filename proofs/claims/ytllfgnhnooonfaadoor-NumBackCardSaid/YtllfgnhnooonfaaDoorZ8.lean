/- The fixed answer; NumReads, its run. -/
import Derived.Test.YtllfgnhnooonfaaDoorZ7
set_option autoImplicit false
set_option linter.unusedSimpArgs false
set_option linter.unusedVariables false
set_option maxRecDepth 100000
namespace Go.Proofs.YtllfgnhnooonfaaDoor
namespace Eng
theorem add1 : addS 3 (-5) = (-2, true) := by rw [addS, if_pos (by unfold okN; omega)]; rfl
theorem add2 : addS 4611686018427387904 1 = (0, false) := by rw [addS, if_neg (by unfold okN; omega)]
theorem mul1 : mulS (-3) 5 = (-15, true) := by rw [mulS, if_pos (by unfold okN; omega)]; rfl
theorem itoa12 : Lib.itoa (-12) = [45, 49, 50] := by
  rw [Lib.itoa, if_pos (by decide), show (-12 : Int).natAbs = 12 from rfl, dec_big (by decide), show 12 / 10 = 1 from rfl, dec_small (by decide)]
  rfl
theorem itoa70 : Lib.itoa 70 = [55, 48] := by
  rw [Lib.itoa, if_neg (by decide), show (70 : Int).toNat = 70 from rfl, dec_big (by decide), show 70 / 10 = 7 from rfl, dec_small (by decide)]
  rfl
theorem awake_c : ACall Tryd.prog 9 [] [] (B true) [] := by
  have hcut : True := trivial
  have hshow2 : True := trivial
  have hparse2 : True := trivial
  have hparse := parse_c [45, 49, 50] (by simp) (-12, 0) (by rw [← itoa12]; exact parse_show (by unfold okN; omega))
  have hshow := show18_c 70
  rw [showL_yes (by unfold okN; omega), itoa70] at hshow
  refine acall_of tG_ok Tryd.func9 rfl (by kernel_rfl) (by simp) ?_
  repeat' (first | ((fail_if_success clear hK); change AWp _ _ _ _ _ _; first | refine AWp.seq ?_ | refine AWp.text (own := nO) tG_ok (by kernel_rfl) (fun K hK => ?_) | refine AWp.draw (own := nO) tG_ok mixed (by kernel_rfl) (by kernel_rfl) (fun K hK => ?_) | refine AWp.skip ?_ | refine AWp.ret ?_ | refine AWp.exit ?_ | refine AWp.label ?_ | refine AWp.block ?_) | (revert hK; intro hK; first | (with_reducible refine hK _ _ _ ?_; clear hK K) | (with_reducible refine hK _ _ _ ?_ ?_; (focus kernel_rfl); clear hK K) | ((with_reducible change CallS _ _ _ _ _ _); (first | refine CallS.of (add_c _ _ _ add1 (by omega)) ?_ | refine CallS.of (add_c _ _ _ add2 (by omega)) ?_ | refine CallS.of (mul_c _ _ _ mul1) ?_ | refine CallS.of hparse ?_ | refine CallS.of_if (fun _ => hshow) ?_ | refine CallS.of_if (fun _ => hshow2) ?_ | refine CallS.of awake_c ?_ | refine CallS.of hparse2 ?_)) | (with_reducible refine And.intro ?_ ?_) | (simp (disch := omega) only [↓reduceIte, ev_all, backT, pos, idsB, idsC, nodup, live, makeSliceE, viewE, viewFE, appendUE, appendFE, capFE, copyE, copySrc, clearE, guardB, isNilOp, nilS, withTy, splice, lenE, appendE, sliceE, boundE, indexAddrE, indexE, buildE, fillE, buildSliceE, partsE, builtinE, minE, minI, convE, convHE, appendNE, capE, D.x, id_eq, eq_self, if_true, if_false, ne_eq, implies_true, Nat.reduceAdd, Nat.reduceMul, Nat.reduceSub, Nat.reduceEqDiff, Nat.reduceLT, Nat.reduceLeDiff, reduceCtorEq, co_all, forall_const, Nat.reduceBEq, Int.reduceEq, Int.reduceToNat, bne_self_eq_false, str_size, hcut, true_and, tl2, tl3, tl4, tl5, tl9, tl27, tl40]) | (first | omega | (intro hq; (try simp only [bo_all, ne_eq, Bool.not_not, Bool.and_true] at hq); first | omega | assumption | (simp_all; done)) | (simp_all; done)) | (intro (bn : Bool) hbn)))
  change Fin _ _ _ _ _ _; simp only [fe_all, id_eq, Nat.reduceLeDiff, ↓reduceIte, fi_all, Nat.reduceEqDiff, Nat.reduceAdd, if_true, if_false, reduceCtorEq, eq_self, Nat.reduceBEq, Tryd.results9, Tryd.results4, tl2, tl3, tl4, tl5, tl9, tl27, tl40]; refine ⟨[], [], [], by kernel_rfl, ?_, ?_⟩ <;> (simp (disch := omega) only [↓reduceIte, fi_all, Nat.reduceEqDiff, Nat.reduceAdd, if_true, if_false, reduceCtorEq, eq_self, Nat.reduceBEq, co_all, forall_const, Nat.reduceBEq, Int.reduceEq, Int.reduceToNat, bne_self_eq_false, str_size, hcut, tl2, tl3, tl4, tl5, tl9, tl27, tl40]; try omega)
theorem reads_c (l : List UInt8) (n : Int) (hl : l.length ≤ 9223372036854775807) : ACall Tryd.prog 4 [] [SD (str l), I n] (B true) [] := by
  obtain ⟨t, hcut, htl⟩ : ∃ t : List UInt8, (str l).extract 0 (if 100 < (l.length : Int) then 100 else (l.length : Int)).toNat = str t ∧ t.length ≤ 100 := by
    refine ⟨_, str_ext _ _ _, ?_⟩
    rw [List.length_take]
    split <;> omega
  obtain ⟨r, hr⟩ : ∃ r, parseS t = r := ⟨_, rfl⟩
  have hparse := parse_c t (by omega) r hr
  have hparse2 := parse17_c t (by omega) r hr
  have hshow := show18_c n
  have hshow2 := show19_c n
  refine acall_of tG_ok Tryd.func4 rfl (by kernel_rfl) (by simp) ?_
  repeat' (first | ((fail_if_success clear hK); change AWp _ _ _ _ _ _; first | refine AWp.seq ?_ | refine AWp.text (own := nO) tG_ok (by kernel_rfl) (fun K hK => ?_) | refine AWp.draw (own := nO) tG_ok mixed (by kernel_rfl) (by kernel_rfl) (fun K hK => ?_) | refine AWp.skip ?_ | refine AWp.ret ?_ | refine AWp.exit ?_ | refine AWp.label ?_ | refine AWp.block ?_) | (revert hK; intro hK; first | (with_reducible refine hK _ _ _ ?_; clear hK K) | (with_reducible refine hK _ _ _ ?_ ?_; (focus kernel_rfl); clear hK K) | ((with_reducible change CallS _ _ _ _ _ _); (first | refine CallS.of (add_c _ _ _ add1 (by omega)) ?_ | refine CallS.of (add_c _ _ _ add2 (by omega)) ?_ | refine CallS.of (mul_c _ _ _ mul1) ?_ | refine CallS.of hparse ?_ | refine CallS.of_if (fun _ => hshow) ?_ | refine CallS.of_if (fun _ => hshow2) ?_ | refine CallS.of awake_c ?_ | refine CallS.of hparse2 ?_)) | (with_reducible refine And.intro ?_ ?_) | (simp (disch := omega) only [↓reduceIte, ev_all, backT, pos, idsB, idsC, nodup, live, makeSliceE, viewE, viewFE, appendUE, appendFE, capFE, copyE, copySrc, clearE, guardB, isNilOp, nilS, withTy, splice, lenE, appendE, sliceE, boundE, indexAddrE, indexE, buildE, fillE, buildSliceE, partsE, builtinE, minE, minI, convE, convHE, appendNE, capE, D.x, id_eq, eq_self, if_true, if_false, ne_eq, implies_true, Nat.reduceAdd, Nat.reduceMul, Nat.reduceSub, Nat.reduceEqDiff, Nat.reduceLT, Nat.reduceLeDiff, reduceCtorEq, co_all, forall_const, Nat.reduceBEq, Int.reduceEq, Int.reduceToNat, bne_self_eq_false, str_size, hcut, true_and, tl2, tl3, tl4, tl5, tl9, tl27, tl40]) | (first | omega | (intro hq; (try simp only [bo_all, ne_eq, Bool.not_not, Bool.and_true] at hq); first | omega | assumption | (simp_all; done)) | (simp_all; done)) | (intro (bn : Bool) hbn)))
  (try change AWp _ _ _ _ _ _); refine AWp.cond (by exact rfl) (fun hc => ?_) (fun hc => ?_) <;> (try simp only [bo_all, ne_eq] at hc)
  · first | contradiction | (simp at hc; done)
  · repeat' (first | ((fail_if_success clear hK); change AWp _ _ _ _ _ _; first | refine AWp.seq ?_ | refine AWp.text (own := nO) tG_ok (by kernel_rfl) (fun K hK => ?_) | refine AWp.draw (own := nO) tG_ok mixed (by kernel_rfl) (by kernel_rfl) (fun K hK => ?_) | refine AWp.skip ?_ | refine AWp.ret ?_ | refine AWp.exit ?_ | refine AWp.label ?_ | refine AWp.block ?_) | (revert hK; intro hK; first | (with_reducible refine hK _ _ _ ?_; clear hK K) | (with_reducible refine hK _ _ _ ?_ ?_; (focus kernel_rfl); clear hK K) | ((with_reducible change CallS _ _ _ _ _ _); (first | refine CallS.of (add_c _ _ _ add1 (by omega)) ?_ | refine CallS.of (add_c _ _ _ add2 (by omega)) ?_ | refine CallS.of (mul_c _ _ _ mul1) ?_ | refine CallS.of hparse ?_ | refine CallS.of_if (fun _ => hshow) ?_ | refine CallS.of_if (fun _ => hshow2) ?_ | refine CallS.of awake_c ?_ | refine CallS.of hparse2 ?_)) | (with_reducible refine And.intro ?_ ?_) | (simp (disch := omega) only [↓reduceIte, ev_all, backT, pos, idsB, idsC, nodup, live, makeSliceE, viewE, viewFE, appendUE, appendFE, capFE, copyE, copySrc, clearE, guardB, isNilOp, nilS, withTy, splice, lenE, appendE, sliceE, boundE, indexAddrE, indexE, buildE, fillE, buildSliceE, partsE, builtinE, minE, minI, convE, convHE, appendNE, capE, D.x, id_eq, eq_self, if_true, if_false, ne_eq, implies_true, Nat.reduceAdd, Nat.reduceMul, Nat.reduceSub, Nat.reduceEqDiff, Nat.reduceLT, Nat.reduceLeDiff, reduceCtorEq, co_all, forall_const, Nat.reduceBEq, Int.reduceEq, Int.reduceToNat, bne_self_eq_false, str_size, hcut, true_and, tl2, tl3, tl4, tl5, tl9, tl27, tl40]) | (first | omega | (intro hq; (try simp only [bo_all, ne_eq, Bool.not_not, Bool.and_true] at hq); first | omega | assumption | (simp_all; done)) | (simp_all; done)) | (intro (bn : Bool) hbn)))
    change Fin _ _ _ _ _ _; simp only [fe_all, id_eq, Nat.reduceLeDiff, ↓reduceIte, fi_all, Nat.reduceEqDiff, Nat.reduceAdd, if_true, if_false, reduceCtorEq, eq_self, Nat.reduceBEq, Tryd.results9, Tryd.results4, tl2, tl3, tl4, tl5, tl9, tl27, tl40]; refine ⟨[], [], [], by kernel_rfl, ?_, ?_⟩ <;> (simp (disch := omega) only [↓reduceIte, fi_all, Nat.reduceEqDiff, Nat.reduceAdd, if_true, if_false, reduceCtorEq, eq_self, Nat.reduceBEq, co_all, forall_const, Nat.reduceBEq, Int.reduceEq, Int.reduceToNat, bne_self_eq_false, str_size, hcut, tl2, tl3, tl4, tl5, tl9, tl27, tl40]; try omega)
end Eng
end Go.Proofs.YtllfgnhnooonfaaDoor
