/- merge: the fixed answer; MergeRight, its run. -/
import Derived.Test.YtogenggejmbhjaaK7
set_option autoImplicit false
set_option linter.unusedSimpArgs false
set_option linter.unusedVariables false
set_option maxRecDepth 100000
namespace Go.Proofs.Ytogenggejmbhjaa
namespace Eng
abbrev px0 : Pos := ⟨sA, sS, 3, 14, false⟩
abbrev px1 : Pos := ⟨sA, sS, -1, -6, false⟩
abbrev px2 : Pos := ⟨sA, sS, 2, 8, false⟩
theorem rgt_one {p : Pos} (h : goodP p) : rgtP [p] := rgtP_iff.2 ⟨fun q hq => by rw [List.mem_singleton.1 hq]; exact h, List.pairwise_singleton ..⟩
theorem all_x : allS [[px0], [px1]] = ([px2], 0) := by
  have g0 : goodP px0 := ⟨by show okN 3; unfold okN; omega, by show okN 14; unfold okN; omega, fun h => by cases h⟩
  have g1 : goodP px1 := ⟨by show okN (-1); unfold okN; omega, by show okN (-6); unfold okN; omega, fun h => by cases h⟩
  rw [allS_yes]
  · have f : [px0, px1].filter (nm sA sS) = [px0, px1] := rfl
    have t : togP sA sS [px0, px1] = px2 := by
      have s1 : sumS [3, -1] = (2, true) := sumS_yes (fun x hx => by
        rcases List.mem_cons.1 hx with rfl | hx
        · unfold okN; omega
        · rw [List.mem_singleton.1 hx]; unfold okN; omega) (by show okN 2; unfold okN; omega)
      have s2 : sumS [14, -6] = (8, true) := sumS_yes (fun x hx => by
        rcases List.mem_cons.1 hx with rfl | hx
        · unfold okN; omega
        · rw [List.mem_singleton.1 hx]; unfold okN; omega) (by show okN 8; unfold okN; omega)
      unfold togP
      have m1 : [px0, px1].map (fun x => x.qty) = [3, -1] := rfl
      have m2 : [px0, px1].map (fun x => x.value) = [14, -6] := rfl
      rw [m1, m2, s1, s2, if_pos ⟨rfl, rfl, rfl⟩]
    have i : IsAll [px0, px1] [px2] := ⟨List.pairwise_singleton .., fun p hp => by
      obtain rfl := List.mem_singleton.1 hp
      show px2 = togP sA sS ([px0, px1].filter (nm sA sS))
      rw [f, t], fun x hx => ⟨px2, List.mem_singleton.2 rfl, by
      rcases List.mem_cons.1 hx with rfl | hx
      · rfl
      · rw [List.mem_singleton.1 hx]; rfl⟩, fun p hp => by
      obtain rfl := List.mem_singleton.1 hp
      exact ⟨px0, List.mem_cons_self .., rfl⟩⟩
    have : allF [px0, px1] = [px2] := (allF_is _).det i (List.Perm.refl _)
    show (allF [px0, px1], 0) = _
    rw [this]
  · intro l hl
    rcases List.mem_cons.1 hl with rfl | hl
    · exact rgt_one g0
    · rw [List.mem_singleton.1 hl]; exact rgt_one g1
theorem awake14_c : ACall Try.prog 11 [] [] (B true) [] := by
  have hq1 : True := trivial
  have hq2 : True := trivial
  have hq3 : True := trivial
  have hall := all13_c [[px0], [px1]] (by simp) (by simp) _ all_x
  have hget := get18_c [px2] sA sS (by simp) px2 rfl
  refine acall_of tG_ok Try.func11 rfl (by kernel_rfl) (by simp) ?_
  repeat' (first | ((fail_if_success clear hK); change AWp _ _ _ _ _ _; first | refine AWp.seq ?_ | refine AWp.text (own := nO) tG_ok (by kernel_rfl) (fun K hK => ?_) | refine AWp.draw (own := nO) tG_ok mixed (by kernel_rfl) (by kernel_rfl) (fun K hK => ?_) | refine AWp.skip ?_ | refine AWp.ret ?_ | refine AWp.exit ?_ | refine AWp.label ?_ | refine AWp.block ?_) | (revert hK; intro hK; first | (with_reducible refine hK _ _ _ ?_; clear hK K) | (with_reducible refine hK _ _ _ ?_ ?_; (focus kernel_rfl); clear hK K) | ((with_reducible change CallS _ _ _ _ _ _); (first | refine CallS.of hall ?_ | refine CallS.of_if (fun _ => hget) ?_ | refine CallS.of awake14_c ?_)) | (with_reducible refine And.intro ?_ ?_) | (simp (disch := omega) only [↓reduceIte, ev_all, backT, pos, idsB, idsC, nodup, live, makeSliceE, viewE, viewFE, appendUE, appendFE, capFE, copyE, copySrc, clearE, guardB, isNilOp, nilS, withTy, splice, lenE, appendE, sliceE, boundE, indexAddrE, indexE, buildE, fillE, buildSliceE, partsE, builtinE, minE, minI, convE, convHE, appendNE, capE, D.x, id_eq, eq_self, if_true, if_false, ne_eq, implies_true, Nat.reduceAdd, Nat.reduceMul, Nat.reduceSub, Nat.reduceEqDiff, Nat.reduceLT, Nat.reduceLeDiff, reduceCtorEq, co_all, forall_const, Nat.reduceBEq, Int.reduceEq, Int.reduceToNat, getD_pR, getD_LR, hq1, hq2, hq3, List.length_map, true_and, tl2, tl3, tl4, tl9, tl22, tl25, tl26, tl34]) | (first | omega | (intro hq; (try simp only [bo_all, ne_eq, Bool.not_not, Bool.and_true] at hq); first | omega | assumption | (simp_all; done)) | (simp_all; done)) | (intro (bn : Bool) hbn)))
  change Fin _ _ _ _ _ _; simp only [fe_all, id_eq, Nat.reduceLeDiff, ↓reduceIte, fi_all, Nat.reduceEqDiff, Nat.reduceAdd, if_true, if_false, reduceCtorEq, eq_self, Nat.reduceBEq, Try.results11, Try.results3, tl2, tl3, tl4, tl9, tl22, tl25, tl26, tl34]; refine ⟨[], [], [], by kernel_rfl, ?_, ?_⟩ <;> (simp (disch := omega) only [↓reduceIte, fi_all, Nat.reduceEqDiff, Nat.reduceAdd, if_true, if_false, reduceCtorEq, eq_self, Nat.reduceBEq, co_all, forall_const, Nat.reduceBEq, Int.reduceEq, Int.reduceToNat, getD_pR, getD_LR, hq1, hq2, hq3, List.length_map, tl2, tl3, tl4, tl9, tl22, tl25, tl26, tl34]; try omega)
end Eng
end Go.Proofs.Ytogenggejmbhjaa
