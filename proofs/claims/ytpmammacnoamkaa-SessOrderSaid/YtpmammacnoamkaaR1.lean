/- Items and lines: what they read as, and what an operation makes of them. -/
import Derived.Test.YtpmammacnoamkaaTys
set_option autoImplicit false
set_option linter.unusedSimpArgs false
set_option linter.unusedVariables false
set_option maxRecDepth 100000
namespace Go.Proofs.Ytpmammacnoamkaa
namespace Eng
structure Msg where
  kind : Int
  seq : Int
  time : Int
  copy : Bool
  a : Int
  b : Int
  gap : Bool
  text : ByteArray
  id : ByteArray
  ref : ByteArray
  order : ByteArray
  account : ByteArray
  symbol : ByteArray
  ekind : Int
  buy : Bool
  qty : Int
  price : Int
  etime : Int
def zM : Msg := ⟨0, 0, 0, false, 0, 0, false, ⟨#[]⟩, ⟨#[]⟩, ⟨#[]⟩, ⟨#[]⟩, ⟨#[]⟩, ⟨#[]⟩, 0, false, 0, 0, 0⟩
structure Itm where
  fr : Int
  to : Int
  m : Msg
instance : Inhabited Msg := ⟨zM⟩
instance : Inhabited Itm := ⟨⟨0, 0, zM⟩⟩
abbrev vB (b : Bool) : V := .x (.bool b)
abbrev vS (b : ByteArray) : V := .x (.string b)
def mV (m : Msg) : List V := [vI m.kind, vI m.seq, vI m.time, vB m.copy, vI m.a, vI m.b, vB m.gap, vS m.text, vS m.id, vS m.ref, vS m.order, vS m.account, vS m.symbol, vI m.ekind, vB m.buy, vI m.qty, vI m.price, vI m.etime]
def iV (x : Itm) : List V := vI x.fr :: vI x.to :: mV x.m
abbrev mC (m : Msg) : List C := (mV m).map C.v
abbrev iC (x : Itm) : List C := (iV x).map C.v
abbrev iD (x : Itm) : D := .e (.a ((iV x).map C.v))
abbrev iR (l : List Itm) : List (List V) := l.map iV
abbrev isD (l : List Itm) : D := .e (.c (.v (.s 20 (l.map iV))))
abbrev lnC (n : Int) (l : List Itm) : List C := [.v (vI n), .v (.s 20 (l.map iV))]
abbrev lnD (n : Int) (l : List Itm) : D := .e (.a [.v (.x (.int .i64 n)), .v (.s 20 (l.map iV))])
theorem iV_len (x : Itm) : (iV x).length = 20 := rfl
theorem mV_len (x : Msg) : (mV x).length = 18 := rfl
theorem iV_take (x : Itm) : (iV x).take 20 = iV x := rfl
theorem iC_take (x : Itm) : ((iV x).map C.v).take 20 = (iV x).map C.v := rfl
theorem iC_drop (x : Itm) : ((iV x).map C.v).drop 20 = [] := rfl
theorem iV_h0 (x : Itm) : (iV x).headD default = .x (.int .i64 x.fr) := rfl
theorem iV_h1 (x : Itm) : ((iV x).drop 1).headD default = .x (.int .i64 x.to) := rfl
theorem iC_h0 (x : Itm) : ((iV x).map C.v).headD default = .v (.x (.int .i64 x.fr)) := rfl
theorem iC_h1 (x : Itm) : (((iV x).map C.v).drop 1).headD default = .v (.x (.int .i64 x.to)) := rfl
theorem iV_m (x : Itm) : ((iV x).drop 2).take 18 = mV x.m := rfl
theorem iC_m (x : Itm) : (((iV x).map C.v).drop 2).take 18 = (mV x.m).map C.v := rfl
theorem i_pick0 (x : Itm) : pick1 false 1 C.v (iV x) = .e (.c (.v (.x (.int .i64 x.fr)))) ∧ pick1 false 1 C.v ((iV x).drop 1) = .e (.c (.v (.x (.int .i64 x.to)))) ∧ pick1 false 1 id ((iV x).map C.v) = .e (.c (.v (.x (.int .i64 x.fr)))) ∧ pick1 false 1 id (((iV x).map C.v).drop 1) = .e (.c (.v (.x (.int .i64 x.to)))) ∧
    pick1 true 20 C.v (iV x) = iD x ∧ pick1 true 20 id ((iV x).map C.v) = iD x ∧ pick1 true 18 C.v ((iV x).drop 2) = .e (.a ((mV x.m).map C.v)) ∧ pick1 true 18 id (((iV x).map C.v).drop 2) = .e (.a ((mV x.m).map C.v)) := ⟨rfl, rfl, rfl, rfl, rfl, rfl, rfl, rfl⟩
theorem iC_fold (f t : Int) : [C.v (.x (.int .i64 f)), C.v (.x (.int .i64 t)), .v (.x (.int .i64 0)), .v (.x (.int .i64 0)), .v (.x (.int .i64 0)), .v (.x (.bool false)), .v (.x (.int .i64 0)), .v (.x (.int .i64 0)), .v (.x (.bool false)), .v (.x (.string ⟨#[]⟩)), .v (.x (.string ⟨#[]⟩)), .v (.x (.string ⟨#[]⟩)), .v (.x (.string ⟨#[]⟩)), .v (.x (.string ⟨#[]⟩)), .v (.x (.string ⟨#[]⟩)), .v (.x (.int .i64 0)), .v (.x (.bool false)), .v (.x (.int .i64 0)), .v (.x (.int .i64 0)), .v (.x (.int .i64 0))] = (iV ⟨f, t, zM⟩).map C.v := rfl
theorem iC_fold2 (f t : Int) (m : Msg) : C.v (.x (.int .i64 f)) :: C.v (.x (.int .i64 t)) :: (mV m).map C.v = (iV ⟨f, t, m⟩).map C.v := rfl
theorem frz_map (h : Nat → Option Blk) (vs : List V) : frzCs h (vs.map C.v) = some (vs, [], True) := by
  induction vs with
  | nil => rfl
  | cons v vs ih => simp only [List.map_cons, frzCs, ih]
theorem ren_map (τ : Nat → Nat) (vs : List V) : (vs.map C.v).map (renC τ) = vs.map C.v := by
  induction vs with
  | nil => rfl
  | cons v vs ih => simp only [List.map_cons, renC, ih]
theorem ids_map (vs : List V) : (vs.map C.v).flatMap idsC = [] := by
  induction vs with
  | nil => rfl
  | cons v vs ih => simp only [List.map_cons, List.flatMap_cons, idsC, ih, List.nil_append]
theorem all_iV (x : Itm) : ((iV x).map C.v).all plainC = true := rfl
theorem all_mV (x : Msg) : ((mV x).map C.v).all plainC = true := rfl
theorem VLe_refl (v : V) : VLe v v := by cases v <;> exact rfl
theorem csLe_map (H H2 : Nat → Option Blk) (τ : Nat → Nat) (ν : List Nat) (vs : List V) : CsLe H H2 τ ν (vs.map C.v) (vs.map C.v) = True := by
  refine eq_true ?_
  induction vs with
  | nil => trivial
  | cons v vs ih => exact ⟨VLe_refl v, ih⟩
theorem csP_map (vs : List V) : CsP (vs.map C.v) (vs.map C.v) = True := by
  refine eq_true ?_
  induction vs with
  | nil => trivial
  | cons v vs ih => exact ⟨VLe_refl v, ih⟩
theorem getD_iR (l : List Itm) (i : Nat) : (l.map iV).getD i [.x (.int .i64 0), .x (.int .i64 0), .x (.int .i64 0), .x (.int .i64 0), .x (.int .i64 0), .x (.bool false), .x (.int .i64 0), .x (.int .i64 0), .x (.bool false), .x (.string ⟨#[]⟩), .x (.string ⟨#[]⟩), .x (.string ⟨#[]⟩), .x (.string ⟨#[]⟩), .x (.string ⟨#[]⟩), .x (.string ⟨#[]⟩), .x (.int .i64 0), .x (.bool false), .x (.int .i64 0), .x (.int .i64 0), .x (.int .i64 0)] = iV (l.getD i default) := by
  simp only [List.getD_eq_getElem?_getD, List.getElem?_map]
  cases l[i]? <;> rfl
theorem getD_iR0 (l : List Itm) (i : Nat) (h : i < l.length) : (l.map iV).getD i [] = iV (l.getD i default) := getD_map iV l i h
theorem rowAt_fr (l : List Itm) (i : Nat) : (rowAt ty2 (l.map iV) i 0).headD default = .x (.int .i64 (l.getD i default).fr) ∧ (rowAt ty2 (l.map iV) i 1).headD default = .x (.int .i64 (l.getD i default).to) := by
  have hz : zeroV ty2 = [.x (.int .i64 0)] := tl2.2.2.2.2.2.1
  unfold rowAt
  simp only [List.getD_eq_getElem?_getD, List.getElem?_map]
  cases l[i]? with
  | none => simp only [Option.map_none, hz]; exact ⟨rfl, rfl⟩
  | some x => exact ⟨rfl, rfl⟩
theorem rows20 (l : List Itm) : (∀ r, r ∈ l.map iV → r.length = 20) = True := eq_true fun r hr => by
  obtain ⟨x, _, rfl⟩ := List.mem_map.1 hr; rfl
theorem one20 (y : Itm) : (∀ r, r ∈ [iV y] → r.length = 20) = True := eq_true fun r hr => by
  rw [List.mem_singleton.1 hr]; rfl
theorem iC_dd (x : Itm) : (((iV x).map C.v).drop 1).drop 1 = (mV x.m).map C.v := rfl
theorem it_all : type_of% (And.intro @rowAt_fr (And.intro @iC_dd (And.intro @one20 (And.intro @rows20 (And.intro @iV_len (And.intro @mV_len (And.intro @iV_take (And.intro @iC_take (And.intro @iC_drop (And.intro @iV_h0 (And.intro @iV_h1 (And.intro @iC_h0 (And.intro @iC_h1 (And.intro @iV_m (And.intro @iC_m (And.intro @i_pick0 (And.intro @iC_fold (And.intro @iC_fold2 (And.intro @frz_map (And.intro @ren_map (And.intro @ids_map (And.intro @all_iV (And.intro @all_mV (And.intro @csLe_map (And.intro @getD_iR (@getD_iR0)))))))))))))))))))))))))) :=
  (And.intro @rowAt_fr (And.intro @iC_dd (And.intro @one20 (And.intro @rows20 (And.intro @iV_len (And.intro @mV_len (And.intro @iV_take (And.intro @iC_take (And.intro @iC_drop (And.intro @iV_h0 (And.intro @iV_h1 (And.intro @iC_h0 (And.intro @iC_h1 (And.intro @iV_m (And.intro @iC_m (And.intro @i_pick0 (And.intro @iC_fold (And.intro @iC_fold2 (And.intro @frz_map (And.intro @ren_map (And.intro @ids_map (And.intro @all_iV (And.intro @all_mV (And.intro @csLe_map (And.intro @getD_iR (@getD_iR0))))))))))))))))))))))))))
end Eng
end Go.Proofs.Ytpmammacnoamkaa
