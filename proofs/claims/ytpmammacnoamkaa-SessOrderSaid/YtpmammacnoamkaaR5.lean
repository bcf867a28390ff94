/- Reseq: the fixed answers. -/
import Derived.Test.YtpmammacnoamkaaP1
set_option autoImplicit false
set_option linter.unusedSimpArgs false
set_option linter.unusedVariables false
set_option maxRecDepth 100000
namespace Go.Proofs.Ytpmammacnoamkaa
namespace Eng
theorem gap_ac (n : Int) (l : List Itm) (hl : l.length ≤ 64) : ACall Try.prog 25 [] [lnD n l] (gapD (gapS n l).1 (gapS n l).2.1 (gapS n l).2.2) [] := gap_c n l (by omega) _ _ _ rfl
theorem awake6_c : ACall Try.prog 10 [] [] (B true) [] := by
  have h1 := (come_c 1 [] ⟨3, 4, zM⟩ (by decide) ((1, [⟨3, 4, zM⟩]), [], 2) (by rfl)).args (bs := [.e (.a [.v (vI 1), .v (.x (.slice none 0 0))]), iD ⟨3, 4, zM⟩]) (by simp only [q_P, q_VLe, csP_map, List.map_nil, and_self, and_true, true_and, eq_self])
  have h2 := gap_c 1 [⟨3, 4, zM⟩] (by decide) 1 2 true (by rfl)
  have h3 := come_c 1 [⟨3, 4, zM⟩] ⟨1, 2, zM⟩ (by decide) ((2, [⟨3, 4, zM⟩]), [⟨1, 2, zM⟩], 1) (by rfl)
  have h4 := come_c 2 [⟨3, 4, zM⟩] ⟨2, 3, zM⟩ (by decide) ((4, []), [⟨2, 3, zM⟩, ⟨3, 4, zM⟩], 1) (by rfl)
  refine acall_of tG_ok Try.func10 rfl (by kernel_rfl) (by simp) ?_
  repeat' (first | ((fail_if_success clear hK); change AWp _ _ _ _ _ _; first | refine AWp.seq ?_ | refine AWp.text (own := nO) tG_ok (by kernel_rfl) (fun K hK => ?_) | refine AWp.draw (own := nO) tG_ok mixed (by kernel_rfl) (by kernel_rfl) (fun K hK => ?_) | refine AWp.skip ?_ | refine AWp.ret ?_ | refine AWp.exit ?_ | refine AWp.label ?_ | refine AWp.block ?_) | (revert hK; intro hK; first | (with_reducible refine hK _ _ _ ?_; clear hK K) | (with_reducible refine hK _ _ _ ?_ ?_; (focus kernel_rfl); clear hK K) | ((with_reducible change CallS _ _ _ _ _ _); (first | refine CallS.of h1 ?_ | refine CallS.of h2 ?_ | refine CallS.of h3 ?_ | refine CallS.of h4 ?_)) | (with_reducible refine And.intro ?_ ?_) | (simp (disch := omega) only [↓reduceIte, ev_all, backT, pos, idsB, idsC, nodup, live, makeSliceE, viewE, viewFE, appendUE, appendFE, capFE, copyE, copySrc, clearE, guardB, isNilOp, nilS, withTy, splice, lenE, appendE, sliceE, boundE, indexAddrE, indexE, buildE, fillE, buildSliceE, partsE, builtinE, minE, minI, convE, convHE, appendNE, capE, D.x, id_eq, eq_self, if_true, if_false, ne_eq, implies_true, Nat.reduceAdd, Nat.reduceMul, Nat.reduceSub, Nat.reduceEqDiff, Nat.reduceLT, Nat.reduceLeDiff, reduceCtorEq, co_all, forall_const, Nat.reduceBEq, Int.reduceEq, Int.reduceToNat, it_all, List.map_id, List.length_map, List.drop_zero, List.map_cons, List.map_nil, List.getD_cons_zero, List.getD_cons_succ, List.length_cons, List.length_nil, List.length_drop, true_and, tl2, tl3, tl4, tl24, tl26, tl35]) | (first | omega | (intro hq; (try simp only [bo_all, ne_eq, Bool.not_not, Bool.and_true] at hq); first | omega | assumption | (simp_all; done)) | (simp_all; done)) | (intro (bn : Bool) hbn)))
  change Fin _ _ _ _ _ _; simp only [fe_all, id_eq, Nat.reduceLeDiff, ↓reduceIte, fi_all, Nat.reduceEqDiff, Nat.reduceAdd, if_true, if_false, reduceCtorEq, eq_self, Nat.reduceBEq, Try.results10, tl2, tl3, tl4, tl24, tl26, tl35]; refine ⟨[], [], [], by kernel_rfl, ?_, ?_⟩ <;> (simp (disch := omega) only [↓reduceIte, fi_all, Nat.reduceEqDiff, Nat.reduceAdd, if_true, if_false, reduceCtorEq, eq_self, Nat.reduceBEq, co_all, forall_const, Nat.reduceBEq, Int.reduceEq, Int.reduceToNat, it_all, List.map_id, List.length_map, List.drop_zero, List.map_cons, List.map_nil, List.getD_cons_zero, List.getD_cons_succ, List.length_cons, List.length_nil, List.length_drop, tl2, tl3, tl4, tl24, tl26, tl35]; try omega)
  rfl
end Eng
end Go.Proofs.Ytpmammacnoamkaa
