/- Messages: when one may be. -/
import Derived.Test.YtpmammacnoamkaaS3
set_option autoImplicit false
set_option linter.unusedSimpArgs false
set_option linter.unusedVariables false
set_option maxRecDepth 100000
namespace Go.Proofs.Ytpmammacnoamkaa
namespace Eng
def noEx (m : Msg) : Bool := m.id.data.toList == [] && (m.ref.data.toList == [] && (m.order.data.toList == [] && (m.account.data.toList == [] && (m.symbol.data.toList == [] && (m.ekind == 0 && (!m.buy && (m.qty == 0 && (m.price == 0 && m.etime == 0))))))))
def noTx (m : Msg) : Bool := m.text.data.toList == []
def mK (m : Msg) : Bool :=
  if m.kind = 1 then smallB m.a && (m.b == 0 && (!m.gap && (noTx m && noEx m))) else
  if m.kind = 2 then saysB m.text && (m.a == 0 && (m.b == 0 && (!m.gap && noEx m))) else
  if m.kind = 3 then !noTx m && saysB m.text && (m.a == 0 && (m.b == 0 && (!m.gap && noEx m))) else
  if m.kind = 4 then smallB m.a && m.a != 0 && smallB m.b && (!m.gap && (noTx m && noEx m)) else
  if m.kind = 5 then smallB m.a && m.a != 0 && (m.b == 0 && (noTx m && noEx m)) else
  if m.kind = 6 then m.a == 0 && (m.b == 0 && (!m.gap && (noTx m && noEx m))) else
  if m.kind = 7 then exB m && (m.a == 0 && (m.b == 0 && (!m.gap && noTx m))) else false
def mR (m : Msg) : Bool := smallB m.seq && m.seq != 0 && whenB m.time && mK m
theorem mright_c (m : Msg) (r : Bool) (hr : mR m = r) : ACall Try.prog 24 [] [.e (.a [.v (vI m.kind), .v (vI m.seq), .v (vI m.time), .v (vB m.copy), .v (vI m.a), .v (vI m.b), .v (vB m.gap), .v (vS m.text), .v (vS m.id), .v (vS m.ref), .v (vS m.order), .v (vS m.account), .v (vS m.symbol), .v (vI m.ekind), .v (vB m.buy), .v (vI m.qty), .v (vI m.price), .v (vI m.etime)])] (B r) [] := by
  have hch : True := trivial
  refine acall_of tG_ok Try.func24 rfl (by kernel_rfl) (by simp) ?_
  iterate 9 (all_goals (try (repeat' (first | ((fail_if_success clear hK); change AWp _ _ _ _ _ _; first | refine AWp.seq ?_ | refine AWp.text (own := nO) tG_ok (by kernel_rfl) (fun K hK => ?_) | refine AWp.draw (own := nO) tG_ok mixed (by kernel_rfl) (by kernel_rfl) (fun K hK => ?_) | refine AWp.skip ?_ | refine AWp.ret ?_ | refine AWp.exit ?_ | refine AWp.label ?_ | refine AWp.block ?_) | (revert hK; intro hK; first | (with_reducible refine hK _ _ _ ?_; clear hK K) | (with_reducible refine hK _ _ _ ?_ ?_; (focus kernel_rfl); clear hK K) | ((with_reducible change CallS _ _ _ _ _ _); (first | refine CallS.of (small_c _) ?_ | refine CallS.of_if (fun _ => small_c _) ?_ | refine CallS.of_if (fun _ => mwhen_c _) ?_ | refine CallS.of (says_c _) ?_ | refine CallS.of_if (fun _ => says_c _) ?_ | refine CallS.of (ex_c m _ rfl) ?_)) | (with_reducible refine And.intro ?_ ?_) | (simp (disch := omega) only [↓reduceIte, ev_all, backT, pos, idsB, idsC, nodup, live, makeSliceE, viewE, viewFE, appendUE, appendFE, capFE, copyE, copySrc, clearE, guardB, isNilOp, nilS, withTy, splice, lenE, appendE, sliceE, boundE, indexAddrE, indexE, buildE, fillE, buildSliceE, partsE, builtinE, minE, minI, convE, convHE, appendNE, capE, D.x, id_eq, eq_self, if_true, if_false, ne_eq, implies_true, Nat.reduceAdd, Nat.reduceMul, Nat.reduceSub, Nat.reduceEqDiff, Nat.reduceLT, Nat.reduceLeDiff, reduceCtorEq, co_all, forall_const, Nat.reduceBEq, Int.reduceEq, Int.reduceToNat, hch, bne_self_eq_false, true_and, tl2, tl3, tl4, tl5, tl9, tl31, tl33]) | (first | omega | (intro hq; (try simp only [bo_all, ne_eq, Bool.not_not, Bool.and_true] at hq); first | omega | assumption | (simp_all; done)) | (simp_all; done)) | (intro (bn : Bool) hbn))))); all_goals (try ((try change AWp _ _ _ _ _ _); refine AWp.cond (by exact rfl) (fun hc => ?_) (fun hc => ?_) <;> (try simp only [bo_all, ne_eq] at hc))); all_goals (try (exfalso; omega)))
  all_goals (change Fin _ _ _ _ _ _; simp only [fe_all, id_eq, Nat.reduceLeDiff, ↓reduceIte, fi_all, Nat.reduceEqDiff, Nat.reduceAdd, if_true, if_false, reduceCtorEq, eq_self, Nat.reduceBEq, Try.results24, tl2, tl3, tl4, tl5, tl9, tl31, tl33]; refine ⟨[], [], [], by kernel_rfl, ?_, ?_⟩ <;> (simp (disch := omega) only [↓reduceIte, fi_all, Nat.reduceEqDiff, Nat.reduceAdd, if_true, if_false, reduceCtorEq, eq_self, Nat.reduceBEq, co_all, forall_const, Nat.reduceBEq, Int.reduceEq, Int.reduceToNat, hch, bne_self_eq_false, tl2, tl3, tl4, tl5, tl9, tl31, tl33]; try omega))
  all_goals (subst hr)
  · unfold mR
    rcases hc with (h | h) | h <;> simp [h]
  all_goals (unfold mR mK noTx; simp_all [noEx])
end Eng
end Go.Proofs.Ytpmammacnoamkaa
