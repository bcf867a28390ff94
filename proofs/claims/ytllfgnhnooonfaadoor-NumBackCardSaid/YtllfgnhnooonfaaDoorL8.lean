/- NumBack, its run. -/
import Derived.Test.YtllfgnhnooonfaaDoorZ8
import Derived.Test.YtllfgnhnooonfaaDoorS2
set_option autoImplicit false
set_option linter.unusedSimpArgs false
set_option linter.unusedVariables false
set_option maxRecDepth 100000
namespace Go.Proofs.YtllfgnhnooonfaaDoor
namespace Eng
theorem drop_m8 (l : List Int) (k : Nat) : (l.map fun n => [V.x (.int .i64 n)]).drop k = (l.drop k).map fun n => [V.x (.int .i64 n)] := (List.map_drop ..).symm
theorem take_m8 (l : List Int) (k : Nat) : (l.map fun n => [V.x (.int .i64 n)]).take k = (l.take k).map fun n => [V.x (.int .i64 n)] := (List.map_take ..).symm
theorem sumT_sum (l : List Int) : sumT l l.length = l.sum := by
  have : ∀ (l : List Int) (a : Int), l.foldl (· + ·) a = a + l.sum := fun l => by
    induction l with
    | nil => intro a; simp
    | cons x l ih => intro a; rw [List.foldl_cons, ih, List.sum_cons]; omega
  rw [sumT, List.take_length, this]; omega
theorem all_mem {l : List Int} : (∀ j, j < l.length → okN (l.getD j 0)) ↔ ∀ x, x ∈ l → okN x := by
  constructor
  · intro h x hx
    obtain ⟨j, hj, rfl⟩ := List.getElem_of_mem hx
    have := h j hj
    rw [List.getD_eq_getElem?_getD, List.getElem?_eq_getElem hj] at this
    exact this
  · intro h j hj
    rw [List.getD_eq_getElem?_getD, List.getElem?_eq_getElem hj]
    exact h _ (List.getElem_mem hj)
/-- A list's sum is that of its halves. -/
theorem sum_parts {l : List Int} {k : Nat} {a b : Int} (h1 : sumS (l.take k) = (a, true)) (h2 : sumS (l.drop k) = (b, true)) : okN a ∧ sumS l = addS a b := by
  have e : ∀ {m : List Int} {c : Int}, sumS m = (c, true) → (∀ x, x ∈ m → okN x) ∧ okN c ∧ m.sum = c := fun {m c} h => by
    unfold sumS at h
    split at h
    · rename_i hc
      simp only [Prod.mk.injEq, and_true] at h
      refine ⟨all_mem.1 hc.1, by rw [← h]; exact hc.2, by rw [← sumT_sum]; exact h⟩
    · cases h
  obtain ⟨a1, a2, a3⟩ := e h1
  obtain ⟨b1, b2, b3⟩ := e h2
  have hs : l.sum = a + b := by rw [← List.take_append_drop k l, List.sum_append, a3, b3]
  have ha : ∀ x, x ∈ l → okN x := fun x hx => by
    rw [← List.take_append_drop k l] at hx
    rcases List.mem_append.1 hx with h | h
    · exact a1 x h
    · exact b1 x h
  refine ⟨a2, ?_⟩
  unfold sumS addS
  rw [sumT_sum, hs]
  by_cases h : okN (a + b)
  · rw [if_pos ⟨all_mem.2 ha, h⟩, if_pos ⟨a2, b2, h⟩]
  · rw [if_neg (fun hh => h hh.2), if_neg (fun hh => h hh.2.2)]
theorem back_c (n : Int) (x : List UInt8) (l : List Int) (c : Int) (hx : x.length ≤ 9223372036854775807) (hl : l.length ≤ 9223372036854775807) (hc0 : 0 ≤ c ∧ c ≤ 65535) :
    ACall Tryd.prog 8 [] [I n, SD (str x), SI l, .e (.c (.v (.x (.int .u16 c))))] (B true) [] := by
  obtain ⟨t, hcut, htl⟩ : ∃ t : List UInt8, (str x).extract 0 (if 100 < (x.length : Int) then 100 else (x.length : Int)).toNat = str t ∧ t.length ≤ 100 := by
    refine ⟨_, str_ext _ _ _, ?_⟩
    rw [List.length_take]
    split <;> omega
  obtain ⟨m, hlcut⟩ : ∃ m, l.take (if 1000 < (l.length : Int) then 1000 else (l.length : Int)).toNat = m := ⟨_, rfl⟩
  have hml : m.length ≤ 1000 := by rw [← hlcut, List.length_take]; split <;> omega
  obtain ⟨k0, rfl⟩ : ∃ k0 : Nat, c = (k0 : Int) := ⟨c.toNat, by omega⟩
  have hmod : ((k0 : Int)).tmod ((m.length : Int) + 1) = ((k0 % (m.length + 1) : Nat) : Int) := by
    rw [Int.tmod_eq_emod_of_nonneg (by omega), Int.natCast_emod, Int.natCast_add]; rfl
  have hnl : k0 % (m.length + 1) < m.length + 1 := Nat.mod_lt _ (by omega)
  generalize k0 % (m.length + 1) = k at hmod hnl
  have htk : True := trivial
  have hdr : True := trivial
  obtain ⟨⟨pm, pe⟩, hp⟩ : ∃ r, parseS t = r := ⟨_, rfl⟩
  have hparse2 := parse_c t (by omega) _ hp
  have hshow2 := show18_c pm
  obtain ⟨⟨a, ab⟩, h1⟩ : ∃ r, sumS (m.take k) = r := ⟨_, rfl⟩
  obtain ⟨⟨b, bb⟩, h2⟩ : ∃ r, sumS (m.drop k) = r := ⟨_, rfl⟩
  obtain ⟨⟨s, sb⟩, h3⟩ : ∃ r, sumS m = r := ⟨_, rfl⟩
  have hs1 := sum53_c (m.take k) (by rw [List.length_take]; omega) _ h1
  have hs2 := sum53_c (m.drop k) (by rw [List.length_drop]; omega) _ h2
  have hs3 := sum53_c m hml _ h3
  have hshow := show18_c n
  refine acall_of tG_ok Tryd.func8 rfl (by kernel_rfl) (by simp) ?_
  have hparse : True := trivial
  have hadd : True := trivial
  repeat' (first | ((fail_if_success clear hK); change AWp _ _ _ _ _ _; first | refine AWp.seq ?_ | refine AWp.text (own := nO) tG_ok (by kernel_rfl) (fun K hK => ?_) | refine AWp.draw (own := nO) tG_ok mixed (by kernel_rfl) (by kernel_rfl) (fun K hK => ?_) | refine AWp.skip ?_ | refine AWp.ret ?_ | refine AWp.exit ?_ | refine AWp.label ?_ | refine AWp.block ?_) | (revert hK; intro hK; first | (with_reducible refine hK _ _ _ ?_; clear hK K) | (with_reducible refine hK _ _ _ ?_ ?_; (focus kernel_rfl); clear hK K) | ((with_reducible change CallS _ _ _ _ _ _); (first | refine CallS.of awake_c ?_ | refine CallS.of (right_c _) ?_ | refine CallS.of hshow ?_ | refine CallS.of hparse ?_ | refine CallS.of hparse2 ?_ | refine CallS.of_if (fun _ => hshow2) ?_ | refine CallS.of hs1 ?_ | refine CallS.of hs2 ?_ | refine CallS.of hs3 ?_ | refine CallS.of hadd ?_ | refine CallS.of_if (val := SD (str [])) (bo := []) (fun h => by cases h) ?_)) | (with_reducible refine And.intro ?_ ?_) | (simp (disch := omega) only [↓reduceIte, ev_all, backT, pos, idsB, idsC, nodup, live, makeSliceE, viewE, viewFE, appendUE, appendFE, capFE, copyE, copySrc, clearE, guardB, isNilOp, nilS, withTy, splice, lenE, appendE, sliceE, boundE, indexAddrE, indexE, buildE, fillE, buildSliceE, partsE, builtinE, minE, minI, convE, convHE, appendNE, capE, D.x, id_eq, eq_self, if_true, if_false, ne_eq, implies_true, Nat.reduceAdd, Nat.reduceMul, Nat.reduceSub, Nat.reduceEqDiff, Nat.reduceLT, Nat.reduceLeDiff, reduceCtorEq, co_all, forall_const, Nat.reduceBEq, Int.reduceEq, Int.reduceToNat, bne_self_eq_false, str_size, hcut, hlcut, hmod, htk, hdr, take_m8, drop_m8, List.length_map, true_and, tl2, tl3, tl4, tl9, tl27, tl35, tl38]) | (first | omega | (intro hq; (try simp only [bo_all, ne_eq, Bool.not_not, Bool.and_true] at hq); first | omega | assumption | (simp_all; done)) | (simp_all; done)) | (intro (bn : Bool) hbn)))
  (try change AWp _ _ _ _ _ _); refine AWp.cond (by exact rfl) (fun hc => ?_) (fun hc => ?_) <;> (try simp only [bo_all, ne_eq] at hc)
  · first | contradiction | (simp at hc; done)
  · repeat' (first | ((fail_if_success clear hK); change AWp _ _ _ _ _ _; first | refine AWp.seq ?_ | refine AWp.text (own := nO) tG_ok (by kernel_rfl) (fun K hK => ?_) | refine AWp.draw (own := nO) tG_ok mixed (by kernel_rfl) (by kernel_rfl) (fun K hK => ?_) | refine AWp.skip ?_ | refine AWp.ret ?_ | refine AWp.exit ?_ | refine AWp.label ?_ | refine AWp.block ?_) | (revert hK; intro hK; first | (with_reducible refine hK _ _ _ ?_; clear hK K) | (with_reducible refine hK _ _ _ ?_ ?_; (focus kernel_rfl); clear hK K) | ((with_reducible change CallS _ _ _ _ _ _); (first | refine CallS.of awake_c ?_ | refine CallS.of (right_c _) ?_ | refine CallS.of hshow ?_ | refine CallS.of hparse ?_ | refine CallS.of hparse2 ?_ | refine CallS.of_if (fun _ => hshow2) ?_ | refine CallS.of hs1 ?_ | refine CallS.of hs2 ?_ | refine CallS.of hs3 ?_ | refine CallS.of hadd ?_ | refine CallS.of_if (val := SD (str [])) (bo := []) (fun h => by cases h) ?_)) | (with_reducible refine And.intro ?_ ?_) | (simp (disch := omega) only [↓reduceIte, ev_all, backT, pos, idsB, idsC, nodup, live, makeSliceE, viewE, viewFE, appendUE, appendFE, capFE, copyE, copySrc, clearE, guardB, isNilOp, nilS, withTy, splice, lenE, appendE, sliceE, boundE, indexAddrE, indexE, buildE, fillE, buildSliceE, partsE, builtinE, minE, minI, convE, convHE, appendNE, capE, D.x, id_eq, eq_self, if_true, if_false, ne_eq, implies_true, Nat.reduceAdd, Nat.reduceMul, Nat.reduceSub, Nat.reduceEqDiff, Nat.reduceLT, Nat.reduceLeDiff, reduceCtorEq, co_all, forall_const, Nat.reduceBEq, Int.reduceEq, Int.reduceToNat, bne_self_eq_false, str_size, hcut, hlcut, hmod, htk, hdr, take_m8, drop_m8, List.length_map, true_and, tl2, tl3, tl4, tl9, tl27, tl35, tl38]) | (first | omega | (intro hq; (try simp only [bo_all, ne_eq, Bool.not_not, Bool.and_true] at hq); first | omega | assumption | (simp_all; done)) | (simp_all; done)) | (intro (bn : Bool) hbn)))
    change AWp _ _ _ _ _ _
    refine AWp.join (mkSt [(1, SD (str x)), (2, SI l), (3, .e (.c (.v (.x (.int .u16 k0)))))] [] 0) ?_ ?_
    · by_cases hn : okN n
      · have hr := rightN_spec.2 hn
        have hnn := hn
        unfold okN at hnn
        have hil : (Lib.itoa n).length ≤ 1000 := by
          rw [Lib.itoa]
          split
          · have := dec_len 18 n.natAbs (by omega)
            rw [List.length_cons]; omega
          · have := dec_len 18 n.toNat (by omega)
            omega
        have hparse := parse_c (Lib.itoa n) hil _ (parse_show hn)
        rw [showL_yes hn] at hshow
        (try change AWp _ _ _ _ _ _); refine AWp.cond (by exact rfl) (fun hc => ?_) (fun hc => ?_) <;> (try simp only [bo_all, ne_eq] at hc)
        · repeat' (first | ((fail_if_success clear hK); change AWp _ _ _ _ _ _; first | refine AWp.seq ?_ | refine AWp.text (own := nO) tG_ok (by kernel_rfl) (fun K hK => ?_) | refine AWp.draw (own := nO) tG_ok mixed (by kernel_rfl) (by kernel_rfl) (fun K hK => ?_) | refine AWp.skip ?_ | refine AWp.ret ?_ | refine AWp.exit ?_ | refine AWp.label ?_ | refine AWp.block ?_) | (revert hK; intro hK; first | (with_reducible refine hK _ _ _ ?_; clear hK K) | (with_reducible refine hK _ _ _ ?_ ?_; (focus kernel_rfl); clear hK K) | ((with_reducible change CallS _ _ _ _ _ _); (first | refine CallS.of awake_c ?_ | refine CallS.of (right_c _) ?_ | refine CallS.of hshow ?_ | refine CallS.of hparse ?_ | refine CallS.of hparse2 ?_ | refine CallS.of_if (fun _ => hshow2) ?_ | refine CallS.of hs1 ?_ | refine CallS.of hs2 ?_ | refine CallS.of hs3 ?_ | refine CallS.of hadd ?_ | refine CallS.of_if (val := SD (str [])) (bo := []) (fun h => by cases h) ?_)) | (with_reducible refine And.intro ?_ ?_) | (simp (disch := omega) only [↓reduceIte, ev_all, backT, pos, idsB, idsC, nodup, live, makeSliceE, viewE, viewFE, appendUE, appendFE, capFE, copyE, copySrc, clearE, guardB, isNilOp, nilS, withTy, splice, lenE, appendE, sliceE, boundE, indexAddrE, indexE, buildE, fillE, buildSliceE, partsE, builtinE, minE, minI, convE, convHE, appendNE, capE, D.x, id_eq, eq_self, if_true, if_false, ne_eq, implies_true, Nat.reduceAdd, Nat.reduceMul, Nat.reduceSub, Nat.reduceEqDiff, Nat.reduceLT, Nat.reduceLeDiff, reduceCtorEq, co_all, forall_const, Nat.reduceBEq, Int.reduceEq, Int.reduceToNat, bne_self_eq_false, str_size, hcut, hlcut, hmod, htk, hdr, take_m8, drop_m8, List.length_map, true_and, tl2, tl3, tl4, tl9, tl27, tl35, tl38]) | (first | omega | (intro hq; (try simp only [bo_all, ne_eq, Bool.not_not, Bool.and_true] at hq); first | omega | assumption | (simp_all; done)) | (simp_all; done)) | (intro (bn : Bool) hbn)))
          (try change AWp _ _ _ _ _ _); refine AWp.cond (by exact rfl) (fun hc => ?_) (fun hc => ?_) <;> (try simp only [bo_all, ne_eq] at hc)
          · exfalso
            first | contradiction | (simp at hc; done)
          · repeat' (first | ((fail_if_success clear hK); change AWp _ _ _ _ _ _; first | refine AWp.seq ?_ | refine AWp.text (own := nO) tG_ok (by kernel_rfl) (fun K hK => ?_) | refine AWp.draw (own := nO) tG_ok mixed (by kernel_rfl) (by kernel_rfl) (fun K hK => ?_) | refine AWp.skip ?_ | refine AWp.ret ?_ | refine AWp.exit ?_ | refine AWp.label ?_ | refine AWp.block ?_) | (revert hK; intro hK; first | (with_reducible refine hK _ _ _ ?_; clear hK K) | (with_reducible refine hK _ _ _ ?_ ?_; (focus kernel_rfl); clear hK K) | ((with_reducible change CallS _ _ _ _ _ _); (first | refine CallS.of awake_c ?_ | refine CallS.of (right_c _) ?_ | refine CallS.of hshow ?_ | refine CallS.of hparse ?_ | refine CallS.of hparse2 ?_ | refine CallS.of_if (fun _ => hshow2) ?_ | refine CallS.of hs1 ?_ | refine CallS.of hs2 ?_ | refine CallS.of hs3 ?_ | refine CallS.of hadd ?_ | refine CallS.of_if (val := SD (str [])) (bo := []) (fun h => by cases h) ?_)) | (with_reducible refine And.intro ?_ ?_) | (simp (disch := omega) only [↓reduceIte, ev_all, backT, pos, idsB, idsC, nodup, live, makeSliceE, viewE, viewFE, appendUE, appendFE, capFE, copyE, copySrc, clearE, guardB, isNilOp, nilS, withTy, splice, lenE, appendE, sliceE, boundE, indexAddrE, indexE, buildE, fillE, buildSliceE, partsE, builtinE, minE, minI, convE, convHE, appendNE, capE, D.x, id_eq, eq_self, if_true, if_false, ne_eq, implies_true, Nat.reduceAdd, Nat.reduceMul, Nat.reduceSub, Nat.reduceEqDiff, Nat.reduceLT, Nat.reduceLeDiff, reduceCtorEq, co_all, forall_const, Nat.reduceBEq, Int.reduceEq, Int.reduceToNat, bne_self_eq_false, str_size, hcut, hlcut, hmod, htk, hdr, take_m8, drop_m8, List.length_map, true_and, tl2, tl3, tl4, tl9, tl27, tl35, tl38]) | (first | omega | (intro hq; (try simp only [bo_all, ne_eq, Bool.not_not, Bool.and_true] at hq); first | omega | assumption | (simp_all; done)) | (simp_all; done)) | (intro (bn : Bool) hbn)))
            refine mid_of (τ := ren []) (ν := []) ?_
            refine Le.of (by kernel_rfl) ?_ ?_ <;> (simp (disch := omega) only [↓reduceIte, fi_all, Nat.reduceEqDiff, Nat.reduceAdd, if_true, if_false, reduceCtorEq, eq_self, Nat.reduceBEq, co_all, forall_const, Nat.reduceBEq, Int.reduceEq, Int.reduceToNat, bne_self_eq_false, str_size, hcut, hlcut, hmod, htk, hdr, take_m8, drop_m8, List.length_map, tl2, tl3, tl4, tl9, tl27, tl35, tl38]; try (first | omega | rfl))
        · rw [hr] at hc; cases hc
      · have hr := rightN_no.2 hn
        (try change AWp _ _ _ _ _ _); refine AWp.cond (by exact rfl) (fun hc => ?_) (fun hc => ?_) <;> (try simp only [bo_all, ne_eq] at hc)
        · rw [hr] at hc; cases hc
        · repeat' (first | ((fail_if_success clear hK); change AWp _ _ _ _ _ _; first | refine AWp.seq ?_ | refine AWp.text (own := nO) tG_ok (by kernel_rfl) (fun K hK => ?_) | refine AWp.draw (own := nO) tG_ok mixed (by kernel_rfl) (by kernel_rfl) (fun K hK => ?_) | refine AWp.skip ?_ | refine AWp.ret ?_ | refine AWp.exit ?_ | refine AWp.label ?_ | refine AWp.block ?_) | (revert hK; intro hK; first | (with_reducible refine hK _ _ _ ?_; clear hK K) | (with_reducible refine hK _ _ _ ?_ ?_; (focus kernel_rfl); clear hK K) | ((with_reducible change CallS _ _ _ _ _ _); (first | refine CallS.of awake_c ?_ | refine CallS.of (right_c _) ?_ | refine CallS.of hshow ?_ | refine CallS.of hparse ?_ | refine CallS.of hparse2 ?_ | refine CallS.of_if (fun _ => hshow2) ?_ | refine CallS.of hs1 ?_ | refine CallS.of hs2 ?_ | refine CallS.of hs3 ?_ | refine CallS.of hadd ?_ | refine CallS.of_if (val := SD (str [])) (bo := []) (fun h => by cases h) ?_)) | (with_reducible refine And.intro ?_ ?_) | (simp (disch := omega) only [↓reduceIte, ev_all, backT, pos, idsB, idsC, nodup, live, makeSliceE, viewE, viewFE, appendUE, appendFE, capFE, copyE, copySrc, clearE, guardB, isNilOp, nilS, withTy, splice, lenE, appendE, sliceE, boundE, indexAddrE, indexE, buildE, fillE, buildSliceE, partsE, builtinE, minE, minI, convE, convHE, appendNE, capE, D.x, id_eq, eq_self, if_true, if_false, ne_eq, implies_true, Nat.reduceAdd, Nat.reduceMul, Nat.reduceSub, Nat.reduceEqDiff, Nat.reduceLT, Nat.reduceLeDiff, reduceCtorEq, co_all, forall_const, Nat.reduceBEq, Int.reduceEq, Int.reduceToNat, bne_self_eq_false, str_size, hcut, hlcut, hmod, htk, hdr, take_m8, drop_m8, List.length_map, true_and, tl2, tl3, tl4, tl9, tl27, tl35, tl38]) | (first | omega | (intro hq; (try simp only [bo_all, ne_eq, Bool.not_not, Bool.and_true] at hq); first | omega | assumption | (simp_all; done)) | (simp_all; done)) | (intro (bn : Bool) hbn)))
          refine mid_of (τ := ren []) (ν := []) ?_
          refine Le.of (by kernel_rfl) ?_ ?_ <;> (simp (disch := omega) only [↓reduceIte, fi_all, Nat.reduceEqDiff, Nat.reduceAdd, if_true, if_false, reduceCtorEq, eq_self, Nat.reduceBEq, co_all, forall_const, Nat.reduceBEq, Int.reduceEq, Int.reduceToNat, bne_self_eq_false, str_size, hcut, hlcut, hmod, htk, hdr, take_m8, drop_m8, List.length_map, tl2, tl3, tl4, tl9, tl27, tl35, tl38]; try (first | omega | rfl))
    · have hparse2' := hparse2
      have hshow : True := trivial
      repeat' (first | ((fail_if_success clear hK); change AWp _ _ _ _ _ _; first | refine AWp.seq ?_ | refine AWp.text (own := nO) tG_ok (by kernel_rfl) (fun K hK => ?_) | refine AWp.draw (own := nO) tG_ok mixed (by kernel_rfl) (by kernel_rfl) (fun K hK => ?_) | refine AWp.skip ?_ | refine AWp.ret ?_ | refine AWp.exit ?_ | refine AWp.label ?_ | refine AWp.block ?_) | (revert hK; intro hK; first | (with_reducible refine hK _ _ _ ?_; clear hK K) | (with_reducible refine hK _ _ _ ?_ ?_; (focus kernel_rfl); clear hK K) | ((with_reducible change CallS _ _ _ _ _ _); (first | refine CallS.of awake_c ?_ | refine CallS.of (right_c _) ?_ | refine CallS.of hshow ?_ | refine CallS.of hparse ?_ | refine CallS.of hparse2 ?_ | refine CallS.of_if (fun _ => hshow2) ?_ | refine CallS.of hs1 ?_ | refine CallS.of hs2 ?_ | refine CallS.of hs3 ?_ | refine CallS.of hadd ?_ | refine CallS.of_if (val := SD (str [])) (bo := []) (fun h => by cases h) ?_)) | (with_reducible refine And.intro ?_ ?_) | (simp (disch := omega) only [↓reduceIte, ev_all, backT, pos, idsB, idsC, nodup, live, makeSliceE, viewE, viewFE, appendUE, appendFE, capFE, copyE, copySrc, clearE, guardB, isNilOp, nilS, withTy, splice, lenE, appendE, sliceE, boundE, indexAddrE, indexE, buildE, fillE, buildSliceE, partsE, builtinE, minE, minI, convE, convHE, appendNE, capE, D.x, id_eq, eq_self, if_true, if_false, ne_eq, implies_true, Nat.reduceAdd, Nat.reduceMul, Nat.reduceSub, Nat.reduceEqDiff, Nat.reduceLT, Nat.reduceLeDiff, reduceCtorEq, co_all, forall_const, Nat.reduceBEq, Int.reduceEq, Int.reduceToNat, bne_self_eq_false, str_size, hcut, hlcut, hmod, htk, hdr, take_m8, drop_m8, List.length_map, true_and, tl2, tl3, tl4, tl9, tl27, tl35, tl38]) | (first | omega | (intro hq; (try simp only [bo_all, ne_eq, Bool.not_not, Bool.and_true] at hq); first | omega | assumption | (simp_all; done)) | (simp_all; done)) | (intro (bn : Bool) hbn)))
      (try change AWp _ _ _ _ _ _); refine AWp.cond (by exact rfl) (fun hc => ?_) (fun hc => ?_) <;> (try simp only [bo_all, ne_eq] at hc)
      · exfalso
        by_cases he : pe = 0
        · subst he
          obtain ⟨e, ok⟩ := show_parse hp
          rw [showL_yes ok, e] at hc
          simp at hc
        · have := parse_err hp he
          rcases hc with h | h
          · exact he h.1
          · exact h.2 this
      · clear hc
        have hparse2 : True := trivial
        have hshow2 : True := trivial
        by_cases hb : ab = true ∧ bb = true
        · obtain ⟨rfl, rfl⟩ := hb
          obtain ⟨hok, hsum⟩ := sum_parts h1 h2
          unfold okN at hok
          have hadd := add_c a b (s, sb) (by rw [← hsum, h3]) (by omega)
          repeat' (first | ((fail_if_success clear hK); change AWp _ _ _ _ _ _; first | refine AWp.seq ?_ | refine AWp.text (own := nO) tG_ok (by kernel_rfl) (fun K hK => ?_) | refine AWp.draw (own := nO) tG_ok mixed (by kernel_rfl) (by kernel_rfl) (fun K hK => ?_) | refine AWp.skip ?_ | refine AWp.ret ?_ | refine AWp.exit ?_ | refine AWp.label ?_ | refine AWp.block ?_) | (revert hK; intro hK; first | (with_reducible refine hK _ _ _ ?_; clear hK K) | (with_reducible refine hK _ _ _ ?_ ?_; (focus kernel_rfl); clear hK K) | ((with_reducible change CallS _ _ _ _ _ _); (first | refine CallS.of awake_c ?_ | refine CallS.of (right_c _) ?_ | refine CallS.of hshow ?_ | refine CallS.of hparse ?_ | refine CallS.of hparse2 ?_ | refine CallS.of_if (fun _ => hshow2) ?_ | refine CallS.of hs1 ?_ | refine CallS.of hs2 ?_ | refine CallS.of hs3 ?_ | refine CallS.of hadd ?_ | refine CallS.of_if (val := SD (str [])) (bo := []) (fun h => by cases h) ?_)) | (with_reducible refine And.intro ?_ ?_) | (simp (disch := omega) only [↓reduceIte, ev_all, backT, pos, idsB, idsC, nodup, live, makeSliceE, viewE, viewFE, appendUE, appendFE, capFE, copyE, copySrc, clearE, guardB, isNilOp, nilS, withTy, splice, lenE, appendE, sliceE, boundE, indexAddrE, indexE, buildE, fillE, buildSliceE, partsE, builtinE, minE, minI, convE, convHE, appendNE, capE, D.x, id_eq, eq_self, if_true, if_false, ne_eq, implies_true, Nat.reduceAdd, Nat.reduceMul, Nat.reduceSub, Nat.reduceEqDiff, Nat.reduceLT, Nat.reduceLeDiff, reduceCtorEq, co_all, forall_const, Nat.reduceBEq, Int.reduceEq, Int.reduceToNat, bne_self_eq_false, str_size, hcut, hlcut, hmod, htk, hdr, take_m8, drop_m8, List.length_map, true_and, tl2, tl3, tl4, tl9, tl27, tl35, tl38]) | (first | omega | (intro hq; (try simp only [bo_all, ne_eq, Bool.not_not, Bool.and_true] at hq); first | omega | assumption | (simp_all; done)) | (simp_all; done)) | (intro (bn : Bool) hbn)))
          (try change AWp _ _ _ _ _ _); refine AWp.cond (by exact rfl) (fun hc => ?_) (fun hc => ?_) <;> (try simp only [bo_all, ne_eq] at hc)
          · first | contradiction | (simp at hc; done)
          · repeat' (first | ((fail_if_success clear hK); change AWp _ _ _ _ _ _; first | refine AWp.seq ?_ | refine AWp.text (own := nO) tG_ok (by kernel_rfl) (fun K hK => ?_) | refine AWp.draw (own := nO) tG_ok mixed (by kernel_rfl) (by kernel_rfl) (fun K hK => ?_) | refine AWp.skip ?_ | refine AWp.ret ?_ | refine AWp.exit ?_ | refine AWp.label ?_ | refine AWp.block ?_) | (revert hK; intro hK; first | (with_reducible refine hK _ _ _ ?_; clear hK K) | (with_reducible refine hK _ _ _ ?_ ?_; (focus kernel_rfl); clear hK K) | ((with_reducible change CallS _ _ _ _ _ _); (first | refine CallS.of awake_c ?_ | refine CallS.of (right_c _) ?_ | refine CallS.of hshow ?_ | refine CallS.of hparse ?_ | refine CallS.of hparse2 ?_ | refine CallS.of_if (fun _ => hshow2) ?_ | refine CallS.of hs1 ?_ | refine CallS.of hs2 ?_ | refine CallS.of hs3 ?_ | refine CallS.of hadd ?_ | refine CallS.of_if (val := SD (str [])) (bo := []) (fun h => by cases h) ?_)) | (with_reducible refine And.intro ?_ ?_) | (simp (disch := omega) only [↓reduceIte, ev_all, backT, pos, idsB, idsC, nodup, live, makeSliceE, viewE, viewFE, appendUE, appendFE, capFE, copyE, copySrc, clearE, guardB, isNilOp, nilS, withTy, splice, lenE, appendE, sliceE, boundE, indexAddrE, indexE, buildE, fillE, buildSliceE, partsE, builtinE, minE, minI, convE, convHE, appendNE, capE, D.x, id_eq, eq_self, if_true, if_false, ne_eq, implies_true, Nat.reduceAdd, Nat.reduceMul, Nat.reduceSub, Nat.reduceEqDiff, Nat.reduceLT, Nat.reduceLeDiff, reduceCtorEq, co_all, forall_const, Nat.reduceBEq, Int.reduceEq, Int.reduceToNat, bne_self_eq_false, str_size, hcut, hlcut, hmod, htk, hdr, take_m8, drop_m8, List.length_map, true_and, tl2, tl3, tl4, tl9, tl27, tl35, tl38]) | (first | omega | (intro hq; (try simp only [bo_all, ne_eq, Bool.not_not, Bool.and_true] at hq); first | omega | assumption | (simp_all; done)) | (simp_all; done)) | (intro (bn : Bool) hbn)))
            change Fin _ _ _ _ _ _; simp only [fe_all, id_eq, Nat.reduceLeDiff, ↓reduceIte, fi_all, Nat.reduceEqDiff, Nat.reduceAdd, if_true, if_false, reduceCtorEq, eq_self, Nat.reduceBEq, Tryd.results8, tl2, tl3, tl4, tl9, tl27, tl35, tl38]; refine ⟨[], [], [], by kernel_rfl, ?_, ?_⟩ <;> (simp (disch := omega) only [↓reduceIte, fi_all, Nat.reduceEqDiff, Nat.reduceAdd, if_true, if_false, reduceCtorEq, eq_self, Nat.reduceBEq, co_all, forall_const, Nat.reduceBEq, Int.reduceEq, Int.reduceToNat, bne_self_eq_false, str_size, hcut, hlcut, hmod, htk, hdr, take_m8, drop_m8, List.length_map, tl2, tl3, tl4, tl9, tl27, tl35, tl38]; try omega)
        · repeat' (first | ((fail_if_success clear hK); change AWp _ _ _ _ _ _; first | refine AWp.seq ?_ | refine AWp.text (own := nO) tG_ok (by kernel_rfl) (fun K hK => ?_) | refine AWp.draw (own := nO) tG_ok mixed (by kernel_rfl) (by kernel_rfl) (fun K hK => ?_) | refine AWp.skip ?_ | refine AWp.ret ?_ | refine AWp.exit ?_ | refine AWp.label ?_ | refine AWp.block ?_) | (revert hK; intro hK; first | (with_reducible refine hK _ _ _ ?_; clear hK K) | (with_reducible refine hK _ _ _ ?_ ?_; (focus kernel_rfl); clear hK K) | ((with_reducible change CallS _ _ _ _ _ _); (first | refine CallS.of awake_c ?_ | refine CallS.of (right_c _) ?_ | refine CallS.of hshow ?_ | refine CallS.of hparse ?_ | refine CallS.of hparse2 ?_ | refine CallS.of_if (fun _ => hshow2) ?_ | refine CallS.of hs1 ?_ | refine CallS.of hs2 ?_ | refine CallS.of hs3 ?_ | refine CallS.of hadd ?_ | refine CallS.of_if (val := SD (str [])) (bo := []) (fun h => by cases h) ?_)) | (with_reducible refine And.intro ?_ ?_) | (simp (disch := omega) only [↓reduceIte, ev_all, backT, pos, idsB, idsC, nodup, live, makeSliceE, viewE, viewFE, appendUE, appendFE, capFE, copyE, copySrc, clearE, guardB, isNilOp, nilS, withTy, splice, lenE, appendE, sliceE, boundE, indexAddrE, indexE, buildE, fillE, buildSliceE, partsE, builtinE, minE, minI, convE, convHE, appendNE, capE, D.x, id_eq, eq_self, if_true, if_false, ne_eq, implies_true, Nat.reduceAdd, Nat.reduceMul, Nat.reduceSub, Nat.reduceEqDiff, Nat.reduceLT, Nat.reduceLeDiff, reduceCtorEq, co_all, forall_const, Nat.reduceBEq, Int.reduceEq, Int.reduceToNat, bne_self_eq_false, str_size, hcut, hlcut, hmod, htk, hdr, take_m8, drop_m8, List.length_map, true_and, tl2, tl3, tl4, tl9, tl27, tl35, tl38]) | (first | omega | (intro hq; (try simp only [bo_all, ne_eq, Bool.not_not, Bool.and_true] at hq); first | omega | assumption | (simp_all; done)) | (simp_all; done)) | (intro (bn : Bool) hbn)))
          (try change AWp _ _ _ _ _ _); refine AWp.cond (by exact rfl) (fun hc => ?_) (fun hc => ?_) <;> (try simp only [bo_all, ne_eq] at hc)
          · repeat' (first | ((fail_if_success clear hK); change AWp _ _ _ _ _ _; first | refine AWp.seq ?_ | refine AWp.text (own := nO) tG_ok (by kernel_rfl) (fun K hK => ?_) | refine AWp.draw (own := nO) tG_ok mixed (by kernel_rfl) (by kernel_rfl) (fun K hK => ?_) | refine AWp.skip ?_ | refine AWp.ret ?_ | refine AWp.exit ?_ | refine AWp.label ?_ | refine AWp.block ?_) | (revert hK; intro hK; first | (with_reducible refine hK _ _ _ ?_; clear hK K) | (with_reducible refine hK _ _ _ ?_ ?_; (focus kernel_rfl); clear hK K) | ((with_reducible change CallS _ _ _ _ _ _); (first | refine CallS.of awake_c ?_ | refine CallS.of (right_c _) ?_ | refine CallS.of hshow ?_ | refine CallS.of hparse ?_ | refine CallS.of hparse2 ?_ | refine CallS.of_if (fun _ => hshow2) ?_ | refine CallS.of hs1 ?_ | refine CallS.of hs2 ?_ | refine CallS.of hs3 ?_ | refine CallS.of hadd ?_ | refine CallS.of_if (val := SD (str [])) (bo := []) (fun h => by cases h) ?_)) | (with_reducible refine And.intro ?_ ?_) | (simp (disch := omega) only [↓reduceIte, ev_all, backT, pos, idsB, idsC, nodup, live, makeSliceE, viewE, viewFE, appendUE, appendFE, capFE, copyE, copySrc, clearE, guardB, isNilOp, nilS, withTy, splice, lenE, appendE, sliceE, boundE, indexAddrE, indexE, buildE, fillE, buildSliceE, partsE, builtinE, minE, minI, convE, convHE, appendNE, capE, D.x, id_eq, eq_self, if_true, if_false, ne_eq, implies_true, Nat.reduceAdd, Nat.reduceMul, Nat.reduceSub, Nat.reduceEqDiff, Nat.reduceLT, Nat.reduceLeDiff, reduceCtorEq, co_all, forall_const, Nat.reduceBEq, Int.reduceEq, Int.reduceToNat, bne_self_eq_false, str_size, hcut, hlcut, hmod, htk, hdr, take_m8, drop_m8, List.length_map, true_and, tl2, tl3, tl4, tl9, tl27, tl35, tl38]) | (first | omega | (intro hq; (try simp only [bo_all, ne_eq, Bool.not_not, Bool.and_true] at hq); first | omega | assumption | (simp_all; done)) | (simp_all; done)) | (intro (bn : Bool) hbn)))
            change Fin _ _ _ _ _ _; simp only [fe_all, id_eq, Nat.reduceLeDiff, ↓reduceIte, fi_all, Nat.reduceEqDiff, Nat.reduceAdd, if_true, if_false, reduceCtorEq, eq_self, Nat.reduceBEq, Tryd.results8, tl2, tl3, tl4, tl9, tl27, tl35, tl38]; refine ⟨[], [], [], by kernel_rfl, ?_, ?_⟩ <;> (simp (disch := omega) only [↓reduceIte, fi_all, Nat.reduceEqDiff, Nat.reduceAdd, if_true, if_false, reduceCtorEq, eq_self, Nat.reduceBEq, co_all, forall_const, Nat.reduceBEq, Int.reduceEq, Int.reduceToNat, bne_self_eq_false, str_size, hcut, hlcut, hmod, htk, hdr, take_m8, drop_m8, List.length_map, tl2, tl3, tl4, tl9, tl27, tl35, tl38]; try omega)
          · exfalso
            exact hb (by simpa using hc)
end Eng
end Go.Proofs.YtllfgnhnooonfaaDoor
