/- Lists of messages: what is read of them. -/
import Derived.Test.YtpmammacnoamkaaS10
import Derived.Test.YtpmammacnoamkaaA7
set_option autoImplicit false
set_option linter.unusedSimpArgs false
set_option linter.unusedVariables false
set_option maxRecDepth 100000
namespace Go.Proofs.Ytpmammacnoamkaa
namespace Eng
abbrev msD (l : List Msg) : D := .e (.c (.v (.s 18 (l.map mV))))
theorem getD_mR (l : List Msg) (i : Nat) : (l.map mV).getD i [.x (.int .i64 0), .x (.int .i64 0), .x (.int .i64 0), .x (.bool false), .x (.int .i64 0), .x (.int .i64 0), .x (.bool false), .x (.string ⟨#[]⟩), .x (.string ⟨#[]⟩), .x (.string ⟨#[]⟩), .x (.string ⟨#[]⟩), .x (.string ⟨#[]⟩), .x (.string ⟨#[]⟩), .x (.int .i64 0), .x (.bool false), .x (.int .i64 0), .x (.int .i64 0), .x (.int .i64 0)] = mV (l.getD i default) := by
  simp only [List.getD_eq_getElem?_getD, List.getElem?_map]
  cases l[i]? <;> rfl
theorem getD_mR0 (l : List Msg) (i : Nat) (h : i < l.length) : (l.map mV).getD i [] = mV (l.getD i default) := getD_map mV l i h
theorem m_pick (x : Msg) : pick1 false 1 C.v (mV x) = .e (.c (.v (.x (.int .i64 x.kind)))) ∧ pick1 false 1 C.v ((mV x).drop 1) = .e (.c (.v (.x (.int .i64 x.seq)))) ∧ pick1 false 1 C.v ((mV x).drop 2) = .e (.c (.v (.x (.int .i64 x.time)))) ∧ pick1 false 1 C.v ((mV x).drop 4) = .e (.c (.v (.x (.int .i64 x.a)))) ∧ pick1 false 1 C.v ((mV x).drop 5) = .e (.c (.v (.x (.int .i64 x.b)))) ∧ pick1 true 18 C.v (mV x) = .e (.a ((mV x).map C.v)) := ⟨rfl, rfl, rfl, rfl, rfl, rfl⟩
theorem m_head (x : Msg) : (mV x).headD default = .x (.int .i64 x.kind) ∧ ((mV x).drop 1).headD default = .x (.int .i64 x.seq) ∧ ((mV x).drop 2).headD default = .x (.int .i64 x.time) ∧ ((mV x).drop 4).headD default = .x (.int .i64 x.a) ∧ ((mV x).drop 5).headD default = .x (.int .i64 x.b) := ⟨rfl, rfl, rfl, rfl, rfl⟩
theorem rowAt_m2 (l : List Msg) (i : Nat) : (rowAt ty2 (l.map mV) i 1).headD default = .x (.int .i64 (l.getD i default).seq) ∧ (rowAt ty2 (l.map mV) i 2).headD default = .x (.int .i64 (l.getD i default).time) ∧ (rowAt ty2 (l.map mV) i 4).headD default = .x (.int .i64 (l.getD i default).a) ∧ (rowAt ty2 (l.map mV) i 5).headD default = .x (.int .i64 (l.getD i default).b) := by
  have hz : zeroV ty2 = [.x (.int .i64 0)] := tl2.2.2.2.2.2.1
  unfold rowAt
  simp only [List.getD_eq_getElem?_getD, List.getElem?_map]
  cases l[i]? with
  | none => simp only [Option.map_none, hz]; exact ⟨rfl, rfl, rfl, rfl⟩
  | some x => exact ⟨rfl, rfl, rfl, rfl⟩
theorem rowAt_m3 (l : List Msg) (i : Nat) : (rowAt ty3 (l.map mV) i 0).headD default = .x (.int .i64 (l.getD i default).kind) := by
  have hz : zeroV ty3 = [.x (.int .i64 0)] := tl3.2.2.2.2.2.1
  unfold rowAt
  simp only [List.getD_eq_getElem?_getD, List.getElem?_map]
  cases l[i]? with
  | none => simp only [Option.map_none, hz]; rfl
  | some x => rfl
theorem ms_all : type_of% (And.intro @getD_mR (And.intro @getD_mR0 (And.intro @m_pick (And.intro @m_head (And.intro @rowAt_m2 (And.intro @rowAt_m3 (And.intro @rows18 (@mV_len2)))))))) :=
  And.intro @getD_mR (And.intro @getD_mR0 (And.intro @m_pick (And.intro @m_head (And.intro @rowAt_m2 (And.intro @rowAt_m3 (And.intro @rows18 (@mV_len2)))))))
/-- How many of a kind. -/
def cnt (k : Int) (l : List Msg) : Nat := (l.filter fun m => decide (m.kind = k)).length
theorem cnt_snoc {k : Int} {T : List Msg} {j : Nat} (h : j < T.length) : cnt k (T.take (j + 1)) = cnt k (T.take j) + if (T.getD j default).kind = k then 1 else 0 := by
  unfold cnt
  rw [List.take_succ_eq_append_getElem h, List.filter_append, List.length_append, List.getD_eq_getElem?_getD, List.getElem?_eq_getElem h]
  congr 1
  simp only [List.filter_cons, List.filter_nil, Option.getD_some, decide_eq_true_eq]
  split <;> rfl
theorem cnt_le (k : Int) (l : List Msg) : cnt k l ≤ l.length := List.length_filter_le _ _
theorem tick_lost (n out sa t : Int) (te : Bool) (hn : 1 ≤ n ∧ n ≤ 20) (ht : 1 ≤ t ∧ t < 3 * n) (ho : 2 ≤ out ∧ out ≤ 1000) (hsa : 0 ≤ sa ∧ sa ≤ t) : tickS ⟨2, 2, [], out, n, 0, sa, 0, 0, te⟩ t =
    if 2 * n ≤ t ∧ te = false then (⟨2, 2, [], out + 1, n, 0, t, 0, 0, true⟩, [{ mT 3 0 0 ⟨#[116]⟩ with seq := out, time := t }], 0) else
    if sa ≤ t - n then (⟨2, 2, [], out + 1, n, 0, t, 0, 0, te⟩, [{ mT 2 0 0 ⟨#[]⟩ with seq := out, time := t }], 0) else (⟨2, 2, [], out, n, 0, sa, 0, 0, te⟩, [], 0) := by
  have e : rightB 2 [] = true := by decide
  have hr : sesR ⟨2, 2, [], out, n, 0, sa, 0, 0, te⟩ = true := sesR_iff.2 ⟨by dsimp only; omega, e, by dsimp only; omega, by dsimp only; omega, by dsimp only; omega, by dsimp only; omega, by dsimp only; omega, by dsimp only; omega⟩
  have hw : whenB t = true := whenB_iff.2 (by omega)
  have hg : (gapS 2 []).2.2 = false := by rfl
  unfold tickS
  rw [if_neg (fun h => h ⟨hr, hw⟩), if_neg (show ¬ (2 : Int) = 0 by decide), if_neg (by dsimp only; omega), if_neg (show ¬ (2 : Int) ≠ 2 by decide)]
  have ag : ∀ a : Ses × List Msg, a.1.nx = 2 → a.1.hd = [] → againS n t a = a := fun a h1 h2 => by
    unfold againS
    rw [h1, h2, hg]
    exact if_neg (fun h => absurd h.1 (by decide))
  unfold testS
  by_cases h1 : 2 * n ≤ t ∧ te = false
  · rw [if_pos h1, if_pos (show (0 : Int) ≤ t - 2 * n ∧ te = false from ⟨by omega, h1.2⟩)]
    unfold beatS sayS
    rw [if_neg (show ¬ out = 1099511627776 by omega)]
    dsimp only
    rw [if_neg (show ¬ t ≤ t - n by omega), ag _ rfl rfl]
    rfl
  · rw [if_neg h1, if_neg (show ¬ ((0 : Int) ≤ t - 2 * n ∧ te = false) from fun h => h1 ⟨by omega, h.2⟩)]
    unfold beatS
    by_cases h2 : sa ≤ t - n
    · rw [if_pos h2]
      dsimp only
      rw [if_pos h2]
      unfold sayS
      dsimp only
      rw [if_neg (show ¬ out = 1099511627776 by omega), ag _ rfl rfl]
      rfl
    · rw [if_neg h2]
      dsimp only
      rw [if_neg h2, ag _ rfl rfl]
end Eng
end Go.Proofs.Ytpmammacnoamkaa
