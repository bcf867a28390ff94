/- Sessions: the fixed answers. -/
import Derived.Test.YtpmammacnoamkaaS9
set_option autoImplicit false
set_option linter.unusedSimpArgs false
set_option linter.unusedVariables false
set_option maxRecDepth 100000
namespace Go.Proofs.Ytpmammacnoamkaa
namespace Eng
abbrev mQ (k q : Int) : Msg := ⟨k, q, 0, false, 0, 0, false, ⟨#[]⟩, ⟨#[]⟩, ⟨#[]⟩, ⟨#[]⟩, ⟨#[]⟩, ⟨#[]⟩, 0, false, 0, 0, 0⟩
theorem awake15_c : ACall Try.prog 15 [] [] (B true) [] := by
  have h1 := new_c 30 (⟨0, 1, [], 1, 30, 0, 0, 0, 0, false⟩, 0) (by rfl)
  have h2 := conn_c ⟨0, 1, [], 1, 30, 0, 0, 0, 0, false⟩ 1 (by decide) (⟨1, 1, [], 2, 30, 1, 1, 0, 0, false⟩, [⟨1, 1, 1, false, 30, 0, false, ⟨#[]⟩, ⟨#[]⟩, ⟨#[]⟩, ⟨#[]⟩, ⟨#[]⟩, ⟨#[]⟩, 0, false, 0, 0, 0⟩], 0) (by rfl)
  have h3 := come18_c ⟨1, 1, [], 2, 30, 1, 1, 0, 0, false⟩ (mQ 1 1) 2 (by decide) (⟨2, 2, [], 2, 30, 2, 1, 0, 0, false⟩, [], [], false, 0) (by rfl)
  have h4 := come18_c ⟨2, 2, [], 2, 30, 2, 1, 0, 0, false⟩ (mQ 2 5) 3 (by decide) (⟨2, 2, [⟨5, 6, mQ 2 5⟩], 3, 30, 3, 3, 4, 3, false⟩, [⟨4, 2, 3, false, 2, 4, false, ⟨#[]⟩, ⟨#[]⟩, ⟨#[]⟩, ⟨#[]⟩, ⟨#[]⟩, ⟨#[]⟩, 0, false, 0, 0, 0⟩], [], false, 0) (by rfl)
  dsimp only at h1 h2 h3 h4
  refine acall_of tG_ok Try.func15 rfl (by kernel_rfl) (by simp) ?_
  repeat' (first | ((fail_if_success clear hK); change AWp _ _ _ _ _ _; first | refine AWp.seq ?_ | refine AWp.text (own := nO) tG_ok (by kernel_rfl) (fun K hK => ?_) | refine AWp.draw (own := nO) tG_ok mixed (by kernel_rfl) (by kernel_rfl) (fun K hK => ?_) | refine AWp.skip ?_ | refine AWp.ret ?_ | refine AWp.exit ?_ | refine AWp.label ?_ | refine AWp.block ?_) | (revert hK; intro hK; first | (with_reducible refine hK _ _ _ ?_; clear hK K) | (with_reducible refine hK _ _ _ ?_ ?_; (focus kernel_rfl); clear hK K) | ((with_reducible change CallS _ _ _ _ _ _); (first | refine CallS.of h1 ?_ | refine CallS.of h2 ?_ | refine CallS.of h3 ?_ | refine CallS.of h4 ?_)) | (with_reducible refine And.intro ?_ ?_) | (simp (disch := omega) only [↓reduceIte, ev_all, backT, pos, idsB, idsC, nodup, live, makeSliceE, viewE, viewFE, appendUE, appendFE, capFE, copyE, copySrc, clearE, guardB, isNilOp, nilS, withTy, splice, lenE, appendE, sliceE, boundE, indexAddrE, indexE, buildE, fillE, buildSliceE, partsE, builtinE, minE, minI, convE, convHE, appendNE, capE, D.x, id_eq, eq_self, if_true, if_false, ne_eq, implies_true, Nat.reduceAdd, Nat.reduceMul, Nat.reduceSub, Nat.reduceEqDiff, Nat.reduceLT, Nat.reduceLeDiff, reduceCtorEq, co_all, forall_const, Nat.reduceBEq, Int.reduceEq, Int.reduceToNat, it_all, row18, mV_mk, List.map_append, List.map_cons, List.map_nil, List.length_append, List.length_cons, List.length_nil, List.map_id, List.length_map, List.drop_zero, List.getD_cons_zero, List.getD_cons_succ, bne_self_eq_false, true_and, tl2, tl3, tl4, tl9, tl24, tl26, tl31, tl33, tl35, tl45, tl46, tl49, tl72]) | (first | omega | (intro hq; (try simp only [bo_all, ne_eq, Bool.not_not, Bool.and_true] at hq); first | omega | assumption | (simp_all; done)) | (simp_all; done)) | (intro (bn : Bool) hbn)))
  change Fin _ _ _ _ _ _; simp only [fe_all, id_eq, Nat.reduceLeDiff, ↓reduceIte, fi_all, Nat.reduceEqDiff, Nat.reduceAdd, if_true, if_false, reduceCtorEq, eq_self, Nat.reduceBEq, Try.results15, tl2, tl3, tl4, tl9, tl24, tl26, tl31, tl33, tl35, tl45, tl46, tl49, tl72]; refine ⟨[], [], [], by kernel_rfl, ?_, ?_⟩ <;> (simp (disch := omega) only [↓reduceIte, fi_all, Nat.reduceEqDiff, Nat.reduceAdd, if_true, if_false, reduceCtorEq, eq_self, Nat.reduceBEq, co_all, forall_const, Nat.reduceBEq, Int.reduceEq, Int.reduceToNat, it_all, row18, mV_mk, List.map_append, List.map_cons, List.map_nil, List.length_append, List.length_cons, List.length_nil, List.map_id, List.length_map, List.drop_zero, List.getD_cons_zero, List.getD_cons_succ, bne_self_eq_false, tl2, tl3, tl4, tl9, tl24, tl26, tl31, tl33, tl35, tl45, tl46, tl49, tl72]; try omega)
  rfl
end Eng
end Go.Proofs.Ytpmammacnoamkaa
