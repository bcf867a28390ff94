/- Positions; byName. -/
import Derived.Test.YtogenggejmbhjaaM0
import Derived.Test.YtogenggejmbhjaaEngX
set_option autoImplicit false
set_option linter.unusedSimpArgs false
set_option linter.unusedVariables false
set_option maxRecDepth 100000
namespace Go.Proofs.Ytogenggejmbhjaa
namespace Eng
structure Pos where
  acc : ByteArray
  sym : ByteArray
  qty : Int
  value : Int
  over : Bool
deriving DecidableEq
instance : Inhabited Pos := ⟨⟨⟨#[]⟩, ⟨#[]⟩, 0, 0, false⟩⟩
abbrev pV (x : Pos) : List V := [V.x (.string x.acc), V.x (.string x.sym), V.x (.int .i64 x.qty), V.x (.int .i64 x.value), V.x (.bool x.over)]
abbrev pD (x : Pos) : D := .e (.a [.v (.x (.string x.acc)), .v (.x (.string x.sym)), .v (.x (.int .i64 x.qty)), .v (.x (.int .i64 x.value)), .v (.x (.bool x.over))])
abbrev pR (l : List Pos) : List (List V) := l.map fun x => [V.x (.string x.acc), V.x (.string x.sym), V.x (.int .i64 x.qty), V.x (.int .i64 x.value), V.x (.bool x.over)]
abbrev psD (l : List Pos) : D := .e (.c (.v (.s 5 (pR l))))
theorem getD_pR (l : List Pos) (i : Nat) : (l.map fun x => [V.x (.string x.acc), V.x (.string x.sym), V.x (.int .i64 x.qty), V.x (.int .i64 x.value), V.x (.bool x.over)]).getD i [V.x (.string ⟨#[]⟩), V.x (.string ⟨#[]⟩), V.x (.int .i64 0), V.x (.int .i64 0), V.x (.bool false)] =
    [V.x (.string (l.getD i default).acc), V.x (.string (l.getD i default).sym), V.x (.int .i64 (l.getD i default).qty), V.x (.int .i64 (l.getD i default).value), V.x (.bool (l.getD i default).over)] := by
  simp only [List.getD_eq_getElem?_getD, List.getElem?_map]
  cases l[i]? <;> rfl
theorem len2 (x y : V) : (∀ r, r ∈ [[x], [y]] → r.length = 1) = True := eq_true fun r h => by
  rcases List.mem_cons.1 h with rfl | h
  · rfl
  · rw [List.mem_singleton.1 h]; rfl
theorem nc0 : ((0 : Nat) : Int) = 0 := rfl
theorem nc1 : ((1 : Nat) : Int) = 1 := rfl
theorem nc2 : ((2 : Nat) : Int) = 2 := rfl
def cmpP (a b : Pos) : Int := if cmpS a.acc b.acc ≠ 0 then cmpS a.acc b.acc else cmpS a.sym b.sym
def orS : List Int → Int
  | [] => 0
  | n :: l => if n ≠ 0 then n else orS l
theorem or_g (l : List Int) (hl : l.length ≤ 1000000) : ACall Try.prog 51 [] [.e (.c (.v (.s 1 (l.map fun n => [V.x (.int .i64 n)]))))] (I (orS l)) [] := by
  have hq2 : True := trivial
  have hq3 : True := trivial
  have hq1 : True := trivial
  obtain ⟨r, hr⟩ : ∃ r, orS l = r := ⟨_, rfl⟩
  rw [hr]
  refine acall_of tG_ok Try.func51 rfl (by kernel_rfl) (by simp) ?_
  repeat' (first | ((fail_if_success clear hK); change AWp _ _ _ _ _ _; first | refine AWp.seq ?_ | refine AWp.text (own := nO) tG_ok (by kernel_rfl) (fun K hK => ?_) | refine AWp.draw (own := nO) tG_ok mixed (by kernel_rfl) (by kernel_rfl) (fun K hK => ?_) | refine AWp.skip ?_ | refine AWp.ret ?_ | refine AWp.exit ?_ | refine AWp.label ?_ | refine AWp.block ?_) | (revert hK; intro hK; first | (with_reducible refine hK _ _ _ ?_; clear hK K) | (with_reducible refine hK _ _ _ ?_ ?_; (focus kernel_rfl); clear hK K) | ((with_reducible change CallS _ _ _ _ _ _); (first | refine CallS.of (cmpS_c _ _) ?_ | refine CallS.of hor ?_)) | (with_reducible refine And.intro ?_ ?_) | (simp (disch := omega) only [↓reduceIte, ev_all, backT, pos, idsB, idsC, nodup, live, makeSliceE, viewE, viewFE, appendUE, appendFE, capFE, copyE, copySrc, clearE, guardB, isNilOp, nilS, withTy, splice, lenE, appendE, sliceE, boundE, indexAddrE, indexE, buildE, fillE, buildSliceE, partsE, builtinE, minE, minI, convE, convHE, appendNE, capE, D.x, id_eq, eq_self, if_true, if_false, ne_eq, implies_true, Nat.reduceAdd, Nat.reduceMul, Nat.reduceSub, Nat.reduceEqDiff, Nat.reduceLT, Nat.reduceLeDiff, reduceCtorEq, co_all, forall_const, Nat.reduceBEq, Int.reduceEq, Int.reduceToNat, getD_rI, getD_pR, hq1, hq2, hq3, List.getD_cons_zero, List.getD_cons_succ, true_and, tl2, tl3, tl4, tl9, tl25, tl34, tl89]) | (first | omega | (intro hq; (try simp only [bo_all, ne_eq, Bool.not_not, Bool.and_true] at hq); first | omega | assumption | (simp_all; done)) | (simp_all; done)) | (intro (bn : Bool) hbn)))
  refine AWp.loop (τ := ren []) (fun k : Nat => mkSt [(6, .e (.c (.v (.s 1 (l.map fun n => [V.x (.int .i64 n)]))))), (2, I 0), (3, I 0), (7, I l.length), (8, I k)] [] 0) (fun k => k ≤ l.length ∧ orS (l.drop k) = r) (fun k => l.length - k) 0 ⟨Nat.zero_le _, hr⟩ (by refine Le.of (τ := []) (ν := []) (by kernel_rfl) ?_ ?_ <;> (simp (disch := omega) only [↓reduceIte, fi_all, Nat.reduceEqDiff, Nat.reduceAdd, if_true, if_false, reduceCtorEq, eq_self, Nat.reduceBEq, co_all, forall_const, Nat.reduceBEq, Int.reduceEq, Int.reduceToNat, getD_rI, getD_pR, hq1, hq2, hq3, List.getD_cons_zero, List.getD_cons_succ, tl2, tl3, tl4, tl9, tl25, tl34, tl89]; try omega)) fun k hk => ?_
  obtain ⟨hk, hr2⟩ := hk
  by_cases hkl : k < l.length
  · obtain ⟨x, hx⟩ : ∃ x, l.getD k 0 = x := ⟨_, rfl⟩
    have hq1 := hx
    have hd : l.drop k = x :: l.drop (k + 1) := by
      rw [← hx, List.getD_eq_getElem?_getD, List.getElem?_eq_getElem hkl]
      exact List.drop_eq_getElem_cons hkl
    rw [hd] at hr2
    repeat' (first | ((fail_if_success clear hK); change AWp _ _ _ _ _ _; first | refine AWp.seq ?_ | refine AWp.text (own := nO) tG_ok (by kernel_rfl) (fun K hK => ?_) | refine AWp.draw (own := nO) tG_ok mixed (by kernel_rfl) (by kernel_rfl) (fun K hK => ?_) | refine AWp.skip ?_ | refine AWp.ret ?_ | refine AWp.exit ?_ | refine AWp.label ?_ | refine AWp.block ?_) | (revert hK; intro hK; first | (with_reducible refine hK _ _ _ ?_; clear hK K) | (with_reducible refine hK _ _ _ ?_ ?_; (focus kernel_rfl); clear hK K) | ((with_reducible change CallS _ _ _ _ _ _); (first | refine CallS.of (cmpS_c _ _) ?_ | refine CallS.of hor ?_)) | (with_reducible refine And.intro ?_ ?_) | (simp (disch := omega) only [↓reduceIte, ev_all, backT, pos, idsB, idsC, nodup, live, makeSliceE, viewE, viewFE, appendUE, appendFE, capFE, copyE, copySrc, clearE, guardB, isNilOp, nilS, withTy, splice, lenE, appendE, sliceE, boundE, indexAddrE, indexE, buildE, fillE, buildSliceE, partsE, builtinE, minE, minI, convE, convHE, appendNE, capE, D.x, id_eq, eq_self, if_true, if_false, ne_eq, implies_true, Nat.reduceAdd, Nat.reduceMul, Nat.reduceSub, Nat.reduceEqDiff, Nat.reduceLT, Nat.reduceLeDiff, reduceCtorEq, co_all, forall_const, Nat.reduceBEq, Int.reduceEq, Int.reduceToNat, getD_rI, getD_pR, hq1, hq2, hq3, List.getD_cons_zero, List.getD_cons_succ, true_and, tl2, tl3, tl4, tl9, tl25, tl34, tl89]) | (first | omega | (intro hq; (try simp only [bo_all, ne_eq, Bool.not_not, Bool.and_true] at hq); first | omega | assumption | (simp_all; done)) | (simp_all; done)) | (intro (bn : Bool) hbn)))
    (try change AWp _ _ _ _ _ _); refine AWp.cond (by exact rfl) (fun hc => ?_) (fun hc => ?_) <;> (try simp only [bo_all, ne_eq] at hc)
    · repeat' (first | ((fail_if_success clear hK); change AWp _ _ _ _ _ _; first | refine AWp.seq ?_ | refine AWp.text (own := nO) tG_ok (by kernel_rfl) (fun K hK => ?_) | refine AWp.draw (own := nO) tG_ok mixed (by kernel_rfl) (by kernel_rfl) (fun K hK => ?_) | refine AWp.skip ?_ | refine AWp.ret ?_ | refine AWp.exit ?_ | refine AWp.label ?_ | refine AWp.block ?_) | (revert hK; intro hK; first | (with_reducible refine hK _ _ _ ?_; clear hK K) | (with_reducible refine hK _ _ _ ?_ ?_; (focus kernel_rfl); clear hK K) | ((with_reducible change CallS _ _ _ _ _ _); (first | refine CallS.of (cmpS_c _ _) ?_ | refine CallS.of hor ?_)) | (with_reducible refine And.intro ?_ ?_) | (simp (disch := omega) only [↓reduceIte, ev_all, backT, pos, idsB, idsC, nodup, live, makeSliceE, viewE, viewFE, appendUE, appendFE, capFE, copyE, copySrc, clearE, guardB, isNilOp, nilS, withTy, splice, lenE, appendE, sliceE, boundE, indexAddrE, indexE, buildE, fillE, buildSliceE, partsE, builtinE, minE, minI, convE, convHE, appendNE, capE, D.x, id_eq, eq_self, if_true, if_false, ne_eq, implies_true, Nat.reduceAdd, Nat.reduceMul, Nat.reduceSub, Nat.reduceEqDiff, Nat.reduceLT, Nat.reduceLeDiff, reduceCtorEq, co_all, forall_const, Nat.reduceBEq, Int.reduceEq, Int.reduceToNat, getD_rI, getD_pR, hq1, hq2, hq3, List.getD_cons_zero, List.getD_cons_succ, true_and, tl2, tl3, tl4, tl9, tl25, tl34, tl89]) | (first | omega | (intro hq; (try simp only [bo_all, ne_eq, Bool.not_not, Bool.and_true] at hq); first | omega | assumption | (simp_all; done)) | (simp_all; done)) | (intro (bn : Bool) hbn)))
      (try change AWp _ _ _ _ _ _); refine AWp.cond (by exact rfl) (fun hc => ?_) (fun hc => ?_) <;> (try simp only [bo_all, ne_eq] at hc)
      · have e : x = r := by rw [← hr2]; show x = if x ≠ 0 then x else _; rw [if_pos hc]
        subst e
        repeat' (first | ((fail_if_success clear hK); change AWp _ _ _ _ _ _; first | refine AWp.seq ?_ | refine AWp.text (own := nO) tG_ok (by kernel_rfl) (fun K hK => ?_) | refine AWp.draw (own := nO) tG_ok mixed (by kernel_rfl) (by kernel_rfl) (fun K hK => ?_) | refine AWp.skip ?_ | refine AWp.ret ?_ | refine AWp.exit ?_ | refine AWp.label ?_ | refine AWp.block ?_) | (revert hK; intro hK; first | (with_reducible refine hK _ _ _ ?_; clear hK K) | (with_reducible refine hK _ _ _ ?_ ?_; (focus kernel_rfl); clear hK K) | ((with_reducible change CallS _ _ _ _ _ _); (first | refine CallS.of (cmpS_c _ _) ?_ | refine CallS.of hor ?_)) | (with_reducible refine And.intro ?_ ?_) | (simp (disch := omega) only [↓reduceIte, ev_all, backT, pos, idsB, idsC, nodup, live, makeSliceE, viewE, viewFE, appendUE, appendFE, capFE, copyE, copySrc, clearE, guardB, isNilOp, nilS, withTy, splice, lenE, appendE, sliceE, boundE, indexAddrE, indexE, buildE, fillE, buildSliceE, partsE, builtinE, minE, minI, convE, convHE, appendNE, capE, D.x, id_eq, eq_self, if_true, if_false, ne_eq, implies_true, Nat.reduceAdd, Nat.reduceMul, Nat.reduceSub, Nat.reduceEqDiff, Nat.reduceLT, Nat.reduceLeDiff, reduceCtorEq, co_all, forall_const, Nat.reduceBEq, Int.reduceEq, Int.reduceToNat, getD_rI, getD_pR, hq1, hq2, hq3, List.getD_cons_zero, List.getD_cons_succ, true_and, tl2, tl3, tl4, tl9, tl25, tl34, tl89]) | (first | omega | (intro hq; (try simp only [bo_all, ne_eq, Bool.not_not, Bool.and_true] at hq); first | omega | assumption | (simp_all; done)) | (simp_all; done)) | (intro (bn : Bool) hbn)))
        change Fin _ _ _ _ _ _; simp only [fe_all, id_eq, Nat.reduceLeDiff, ↓reduceIte, fi_all, Nat.reduceEqDiff, Nat.reduceAdd, if_true, if_false, reduceCtorEq, eq_self, Nat.reduceBEq, Try.results32, Try.results51, tl2, tl3, tl4, tl9, tl25, tl34, tl89]; refine ⟨[], [], [], by kernel_rfl, ?_, ?_⟩ <;> (simp (disch := omega) only [↓reduceIte, fi_all, Nat.reduceEqDiff, Nat.reduceAdd, if_true, if_false, reduceCtorEq, eq_self, Nat.reduceBEq, co_all, forall_const, Nat.reduceBEq, Int.reduceEq, Int.reduceToNat, getD_rI, getD_pR, hq1, hq2, hq3, List.getD_cons_zero, List.getD_cons_succ, tl2, tl3, tl4, tl9, tl25, tl34, tl89]; try omega)
      · repeat' (first | ((fail_if_success clear hK); change AWp _ _ _ _ _ _; first | refine AWp.seq ?_ | refine AWp.text (own := nO) tG_ok (by kernel_rfl) (fun K hK => ?_) | refine AWp.draw (own := nO) tG_ok mixed (by kernel_rfl) (by kernel_rfl) (fun K hK => ?_) | refine AWp.skip ?_ | refine AWp.ret ?_ | refine AWp.exit ?_ | refine AWp.label ?_ | refine AWp.block ?_) | (revert hK; intro hK; first | (with_reducible refine hK _ _ _ ?_; clear hK K) | (with_reducible refine hK _ _ _ ?_ ?_; (focus kernel_rfl); clear hK K) | ((with_reducible change CallS _ _ _ _ _ _); (first | refine CallS.of (cmpS_c _ _) ?_ | refine CallS.of hor ?_)) | (with_reducible refine And.intro ?_ ?_) | (simp (disch := omega) only [↓reduceIte, ev_all, backT, pos, idsB, idsC, nodup, live, makeSliceE, viewE, viewFE, appendUE, appendFE, capFE, copyE, copySrc, clearE, guardB, isNilOp, nilS, withTy, splice, lenE, appendE, sliceE, boundE, indexAddrE, indexE, buildE, fillE, buildSliceE, partsE, builtinE, minE, minI, convE, convHE, appendNE, capE, D.x, id_eq, eq_self, if_true, if_false, ne_eq, implies_true, Nat.reduceAdd, Nat.reduceMul, Nat.reduceSub, Nat.reduceEqDiff, Nat.reduceLT, Nat.reduceLeDiff, reduceCtorEq, co_all, forall_const, Nat.reduceBEq, Int.reduceEq, Int.reduceToNat, getD_rI, getD_pR, hq1, hq2, hq3, List.getD_cons_zero, List.getD_cons_succ, true_and, tl2, tl3, tl4, tl9, tl25, tl34, tl89]) | (first | omega | (intro hq; (try simp only [bo_all, ne_eq, Bool.not_not, Bool.and_true] at hq); first | omega | assumption | (simp_all; done)) | (simp_all; done)) | (intro (bn : Bool) hbn)))
        refine round_of (τ := ren []) (ν := []) (k + 1) ⟨hkl, by rw [← hr2]; show _ = if x ≠ 0 then x else _; rw [if_neg (fun h => h hc)]⟩ (by omega) ?_
        refine Le.of (by kernel_rfl) ?_ ?_ <;> (simp (disch := omega) only [↓reduceIte, fi_all, Nat.reduceEqDiff, Nat.reduceAdd, if_true, if_false, reduceCtorEq, eq_self, Nat.reduceBEq, co_all, forall_const, Nat.reduceBEq, Int.reduceEq, Int.reduceToNat, getD_rI, getD_pR, hq1, hq2, hq3, List.getD_cons_zero, List.getD_cons_succ, tl2, tl3, tl4, tl9, tl25, tl34, tl89]; try omega)
    · omega
  · obtain rfl : k = l.length := by omega
    rw [List.drop_length] at hr2
    have e : r = 0 := hr2.symm
    subst e
    repeat' (first | ((fail_if_success clear hK); change AWp _ _ _ _ _ _; first | refine AWp.seq ?_ | refine AWp.text (own := nO) tG_ok (by kernel_rfl) (fun K hK => ?_) | refine AWp.draw (own := nO) tG_ok mixed (by kernel_rfl) (by kernel_rfl) (fun K hK => ?_) | refine AWp.skip ?_ | refine AWp.ret ?_ | refine AWp.exit ?_ | refine AWp.label ?_ | refine AWp.block ?_) | (revert hK; intro hK; first | (with_reducible refine hK _ _ _ ?_; clear hK K) | (with_reducible refine hK _ _ _ ?_ ?_; (focus kernel_rfl); clear hK K) | ((with_reducible change CallS _ _ _ _ _ _); (first | refine CallS.of (cmpS_c _ _) ?_ | refine CallS.of hor ?_)) | (with_reducible refine And.intro ?_ ?_) | (simp (disch := omega) only [↓reduceIte, ev_all, backT, pos, idsB, idsC, nodup, live, makeSliceE, viewE, viewFE, appendUE, appendFE, capFE, copyE, copySrc, clearE, guardB, isNilOp, nilS, withTy, splice, lenE, appendE, sliceE, boundE, indexAddrE, indexE, buildE, fillE, buildSliceE, partsE, builtinE, minE, minI, convE, convHE, appendNE, capE, D.x, id_eq, eq_self, if_true, if_false, ne_eq, implies_true, Nat.reduceAdd, Nat.reduceMul, Nat.reduceSub, Nat.reduceEqDiff, Nat.reduceLT, Nat.reduceLeDiff, reduceCtorEq, co_all, forall_const, Nat.reduceBEq, Int.reduceEq, Int.reduceToNat, getD_rI, getD_pR, hq1, hq2, hq3, List.getD_cons_zero, List.getD_cons_succ, true_and, tl2, tl3, tl4, tl9, tl25, tl34, tl89]) | (first | omega | (intro hq; (try simp only [bo_all, ne_eq, Bool.not_not, Bool.and_true] at hq); first | omega | assumption | (simp_all; done)) | (simp_all; done)) | (intro (bn : Bool) hbn)))
    (try change AWp _ _ _ _ _ _); refine AWp.cond (by exact rfl) (fun hc => ?_) (fun hc => ?_) <;> (try simp only [bo_all, ne_eq] at hc)
    · omega
    · repeat' (first | ((fail_if_success clear hK); change AWp _ _ _ _ _ _; first | refine AWp.seq ?_ | refine AWp.text (own := nO) tG_ok (by kernel_rfl) (fun K hK => ?_) | refine AWp.draw (own := nO) tG_ok mixed (by kernel_rfl) (by kernel_rfl) (fun K hK => ?_) | refine AWp.skip ?_ | refine AWp.ret ?_ | refine AWp.exit ?_ | refine AWp.label ?_ | refine AWp.block ?_) | (revert hK; intro hK; first | (with_reducible refine hK _ _ _ ?_; clear hK K) | (with_reducible refine hK _ _ _ ?_ ?_; (focus kernel_rfl); clear hK K) | ((with_reducible change CallS _ _ _ _ _ _); (first | refine CallS.of (cmpS_c _ _) ?_ | refine CallS.of hor ?_)) | (with_reducible refine And.intro ?_ ?_) | (simp (disch := omega) only [↓reduceIte, ev_all, backT, pos, idsB, idsC, nodup, live, makeSliceE, viewE, viewFE, appendUE, appendFE, capFE, copyE, copySrc, clearE, guardB, isNilOp, nilS, withTy, splice, lenE, appendE, sliceE, boundE, indexAddrE, indexE, buildE, fillE, buildSliceE, partsE, builtinE, minE, minI, convE, convHE, appendNE, capE, D.x, id_eq, eq_self, if_true, if_false, ne_eq, implies_true, Nat.reduceAdd, Nat.reduceMul, Nat.reduceSub, Nat.reduceEqDiff, Nat.reduceLT, Nat.reduceLeDiff, reduceCtorEq, co_all, forall_const, Nat.reduceBEq, Int.reduceEq, Int.reduceToNat, getD_rI, getD_pR, hq1, hq2, hq3, List.getD_cons_zero, List.getD_cons_succ, true_and, tl2, tl3, tl4, tl9, tl25, tl34, tl89]) | (first | omega | (intro hq; (try simp only [bo_all, ne_eq, Bool.not_not, Bool.and_true] at hq); first | omega | assumption | (simp_all; done)) | (simp_all; done)) | (intro (bn : Bool) hbn)))
      change Fin _ _ _ _ _ _; simp only [fe_all, id_eq, Nat.reduceLeDiff, ↓reduceIte, fi_all, Nat.reduceEqDiff, Nat.reduceAdd, if_true, if_false, reduceCtorEq, eq_self, Nat.reduceBEq, Try.results32, Try.results51, tl2, tl3, tl4, tl9, tl25, tl34, tl89]; refine ⟨[], [], [], by kernel_rfl, ?_, ?_⟩ <;> (simp (disch := omega) only [↓reduceIte, fi_all, Nat.reduceEqDiff, Nat.reduceAdd, if_true, if_false, reduceCtorEq, eq_self, Nat.reduceBEq, co_all, forall_const, Nat.reduceBEq, Int.reduceEq, Int.reduceToNat, getD_rI, getD_pR, hq1, hq2, hq3, List.getD_cons_zero, List.getD_cons_succ, tl2, tl3, tl4, tl9, tl25, tl34, tl89]; try omega)
theorem or_c (a b : Int) : ACall Try.prog 51 [] [.e (.c (.v (.s 1 [[V.x (.int .i64 a)], [V.x (.int .i64 b)]])))] (I (if a ≠ 0 then a else b)) [] := by
  have h := or_g [a, b] (by simp)
  have e : orS [a, b] = if a ≠ 0 then a else b := by
    show (if a ≠ 0 then a else if b ≠ 0 then b else 0) = _
    by_cases hb : b ≠ 0
    · rw [if_pos hb]
    · rw [if_neg hb, show b = 0 by omega]
  rw [e] at h
  exact h
theorem byName_c (a b : Pos) : ACall Try.prog 32 [] [pD a, pD b] (I (cmpP a b)) [] := by
  have hq1 : True := trivial
  have hq2 : True := trivial
  have hq3 : True := trivial
  have hor := or_c (cmpS a.acc b.acc) (cmpS a.sym b.sym)
  refine acall_of tG_ok Try.func32 rfl (by kernel_rfl) (by simp) ?_
  repeat' (first | ((fail_if_success clear hK); change AWp _ _ _ _ _ _; first | refine AWp.seq ?_ | refine AWp.text (own := nO) tG_ok (by kernel_rfl) (fun K hK => ?_) | refine AWp.draw (own := nO) tG_ok mixed (by kernel_rfl) (by kernel_rfl) (fun K hK => ?_) | refine AWp.skip ?_ | refine AWp.ret ?_ | refine AWp.exit ?_ | refine AWp.label ?_ | refine AWp.block ?_) | (revert hK; intro hK; first | (with_reducible refine hK _ _ _ ?_; clear hK K) | (with_reducible refine hK _ _ _ ?_ ?_; (focus kernel_rfl); clear hK K) | ((with_reducible change CallS _ _ _ _ _ _); (first | refine CallS.of (cmpS_c _ _) ?_ | refine CallS.of hor ?_)) | (with_reducible refine And.intro ?_ ?_) | (simp (disch := omega) only [↓reduceIte, ev_all, backT, pos, idsB, idsC, nodup, live, makeSliceE, viewE, viewFE, appendUE, appendFE, capFE, copyE, copySrc, clearE, guardB, isNilOp, nilS, withTy, splice, lenE, appendE, sliceE, boundE, indexAddrE, indexE, buildE, fillE, buildSliceE, partsE, builtinE, minE, minI, convE, convHE, appendNE, capE, D.x, id_eq, eq_self, if_true, if_false, ne_eq, implies_true, Nat.reduceAdd, Nat.reduceMul, Nat.reduceSub, Nat.reduceEqDiff, Nat.reduceLT, Nat.reduceLeDiff, reduceCtorEq, co_all, forall_const, Nat.reduceBEq, Int.reduceEq, Int.reduceToNat, getD_rI, getD_pR, hq1, hq2, hq3, List.getD_cons_zero, List.getD_cons_succ, true_and, tl2, tl3, tl4, tl9, tl25, tl34, tl89]) | (first | omega | (intro hq; (try simp only [bo_all, ne_eq, Bool.not_not, Bool.and_true] at hq); first | omega | assumption | (simp_all; done)) | (simp_all; done)) | (intro (bn : Bool) hbn)))
  change Fin _ _ _ _ _ _; simp only [fe_all, id_eq, Nat.reduceLeDiff, ↓reduceIte, fi_all, Nat.reduceEqDiff, Nat.reduceAdd, if_true, if_false, reduceCtorEq, eq_self, Nat.reduceBEq, Try.results32, Try.results51, tl2, tl3, tl4, tl9, tl25, tl34, tl89]; refine ⟨[], [], [], by kernel_rfl, ?_, ?_⟩ <;> (simp (disch := omega) only [↓reduceIte, fi_all, Nat.reduceEqDiff, Nat.reduceAdd, if_true, if_false, reduceCtorEq, eq_self, Nat.reduceBEq, co_all, forall_const, Nat.reduceBEq, Int.reduceEq, Int.reduceToNat, getD_rI, getD_pR, hq1, hq2, hq3, List.getD_cons_zero, List.getD_cons_succ, tl2, tl3, tl4, tl9, tl25, tl34, tl89]; try omega)
  rfl
theorem cmpP_eq {a b : Pos} : cmpP a b = 0 ↔ a.acc = b.acc ∧ a.sym = b.sym := by
  unfold cmpP
  by_cases h : cmpS a.acc b.acc = 0
  · rw [if_neg (fun x => x h), cmpS_eq, ← cmpS_eq (a := a.acc)]; exact ⟨fun x => ⟨h, x⟩, fun x => x.2⟩
  · rw [if_pos h]; exact ⟨fun x => absurd x h, fun x => absurd (cmpS_eq.2 x.1) h⟩
theorem cmpP_swap (b a : Pos) : cmpP b a = - cmpP a b := by
  unfold cmpP
  rcases cmpS_cases a.acc b.acc with ⟨h1, h2⟩ | ⟨h1, h2⟩ | ⟨h1, h2⟩
  · rw [if_pos (by omega), if_pos (by omega)]; omega
  · have h3 : cmpS b.acc a.acc = 0 := cmpS_eq.2 h2.symm
    rw [if_neg (by omega), if_neg (by omega)]
    rcases cmpS_cases a.sym b.sym with ⟨h1, h2⟩ | ⟨h1, h2⟩ | ⟨h1, h2⟩
    · omega
    · have := cmpS_eq.2 h2.symm; omega
    · omega
  · rw [if_pos (by omega), if_pos (by omega)]; omega
theorem cmpP_trans {a b c : Pos} (h1 : cmpP a b < 0) (h2 : cmpP b c < 0) : cmpP a c < 0 := by
  have tr : ∀ {x y z : ByteArray}, cmpS x y < 0 → cmpS y z < 0 → cmpS x z < 0 := fun h1 h2 => cmpS_lt.2 (bl_trans _ _ _ (cmpS_lt.1 h1) (cmpS_lt.1 h2))
  unfold cmpP at *
  by_cases e1 : cmpS a.acc b.acc = 0
  · rw [if_neg (fun x => x e1)] at h1
    have ha := cmpS_eq.1 e1
    rw [ha]
    by_cases e2 : cmpS b.acc c.acc = 0
    · rw [if_neg (fun x => x e2)] at h2 ⊢
      exact tr h1 h2
    · rw [if_pos e2] at h2 ⊢
      exact h2
  · rw [if_pos e1] at h1
    by_cases e2 : cmpS b.acc c.acc = 0
    · have hb := cmpS_eq.1 e2
      rw [← hb, if_pos e1]
      exact h1
    · rw [if_pos e2] at h2
      have := tr h1 h2
      rw [if_pos (by omega)]
      exact this
end Eng
end Go.Proofs.Ytogenggejmbhjaa
