/- Small helpers for the walks. -/
import Derived.Test.YtllfgnhnooonfaaDoorEngY
set_option autoImplicit false
set_option linter.unusedSimpArgs false
set_option linter.unusedVariables false
namespace Go.Proofs.YtllfgnhnooonfaaDoor
namespace Eng

theorem CallS.of {P : Program} {q : Bool} {f : Nat} {bi : List Blk} {args : List D} {K : D → List Blk → Prop} {val : D} {bo : List Blk} (h : ACall P f bi args val bo) (k : K val bo) : CallS P q f bi args K := ⟨val, bo, fun _ => .inl h, k⟩
theorem CallS.of_if {P : Program} {q : Bool} {f : Nat} {bi : List Blk} {args : List D} {K : D → List Blk → Prop} {val : D} {bo : List Blk} (h : q = true → ACall P f bi args val bo) (k : K val bo) : CallS P q f bi args K := ⟨val, bo, fun hq => .inl (h hq), k⟩
theorem CallS.ext {P : Program} {q : Bool} {f : Nat} {bi : List Blk} {args : List D} {K : D → List Blk → Prop} {val : D} {bo : List Blk} (h : XCall P f bi args val bo) (k : K val bo) : CallS P q f bi args K := ⟨val, bo, fun _ => .inr h, k⟩

def CP : C → C → Prop
  | .v a, .v b => VLe a b
  | _, _ => False
def CsP : List C → List C → Prop
  | [], [] => True
  | a :: as, b :: bs => CP a b ∧ CsP as bs
  | _, _ => False
def DP : D → D → Prop
  | .e (.c a), .e (.c b) => CP a b
  | .e (.a as), .e (.a bs) => CsP as bs
  | _, _ => False
def DsP : List D → List D → Prop
  | [], [] => True
  | a :: as, b :: bs => DP a b ∧ DsP as bs
  | _, _ => False
theorem q_P : (∀ a b, CP (.v a) (.v b) = VLe a b) ∧ CsP [] [] = True ∧ (∀ a as b bs, CsP (a :: as) (b :: bs) = (CP a b ∧ CsP as bs)) ∧ (∀ a b, DP (.e (.c a)) (.e (.c b)) = CP a b) ∧ (∀ as bs, DP (.e (.a as)) (.e (.a bs)) = CsP as bs) ∧
    DsP [] [] = True ∧ (∀ a as b bs, DsP (a :: as) (b :: bs) = (DP a b ∧ DsP as bs)) := ⟨fun _ _ => rfl, rfl, fun _ _ _ _ => rfl, fun _ _ => rfl, fun _ _ => rfl, rfl, fun _ _ _ _ => rfl⟩
theorem VLe.rep0 {w : World} {ow : Nat → Prop} {a b : V} {u : Value} (h : VLe a b) (hb : RepV w ow b u) : RepV w ow a u := by
  cases a with
  | x v => cases (show V.x v = b from h); exact hb
  | s k rows =>
    cases b with
    | x v =>
      obtain ⟨rfl, rfl⟩ := (show rows = [] ∧ v = .slice none 0 0 from h)
      cases hb with
      | x _ _ => exact .s k [] none 0 0 (fun _ _ => undef) rfl (by simp) (fun _ => rfl) (Nat.le_refl _) (by simp) (by simp)
    | s k' rows' => cases (show V.s k rows = V.s k' rows' from h); exact hb
    | f fn caps => cases (show V.s k rows = V.f fn caps from h)
  | f fn caps => cases (show V.f fn caps = b from h); exact hb
theorem CP.rep {w : World} {ow : Nat → Prop} {ρ : Nat → Option Pl} {a b : C} {u : Value} (h : CP a b) (hb : RepC w ow ρ b u) : RepC w ow ρ a u := by
  cases a with
  | v a => cases b with
    | v b => exact VLe.rep0 h hb
    | o _ _ => exact h.elim
  | o _ _ => exact h.elim
theorem CsP.rep {w : World} {ow : Nat → Prop} {ρ : Nat → Option Pl} : ∀ {as bs : List C} {us : List Value}, CsP as bs → All2 (RepC w ow ρ) bs us → All2 (RepC w ow ρ) as us
  | [], [], [], _, _ => trivial
  | _ :: _, _ :: _, _ :: _, h, hb => ⟨CP.rep h.1 hb.1, CsP.rep h.2 hb.2⟩
  | [], _ :: _, _, h, _ => h.elim
  | _ :: _, [], _, h, _ => h.elim
  | [], [], _ :: _, _, hb => hb.elim
  | _ :: _, _ :: _, [], _, hb => hb.elim
theorem DP.rep {w : World} {ow : Nat → Prop} {ρ : Nat → Option Pl} {a b : D} {u : Value} (h : DP a b) (hb : RepD w ow ρ b u) : RepD w ow ρ a u := by
  cases a with
  | e a => cases b with
    | e b => cases a <;> cases b
             · exact CP.rep h hb
             · exact h.elim
             · exact h.elim
             · obtain ⟨us, hu, hb⟩ := hb; exact ⟨us, hu, CsP.rep h hb⟩
    | _ => cases a <;> exact h.elim
  | _ => exact h.elim
theorem DsP.rep {w : World} {ow : Nat → Prop} {ρ : Nat → Option Pl} : ∀ {as bs : List D} {us : List Value}, DsP as bs → All2 (RepD w ow ρ) bs us → All2 (RepD w ow ρ) as us
  | [], [], [], _, _ => trivial
  | _ :: _, _ :: _, _ :: _, h, hb => ⟨DP.rep h.1 hb.1, DsP.rep h.2 hb.2⟩
  | [], _ :: _, _, h, _ => h.elim
  | _ :: _, [], _, h, _ => h.elim
  | [], [], _ :: _, _, hb => hb.elim
  | _ :: _, _ :: _, [], _, hb => hb.elim
theorem ACall.args {P : Program} {f : Nat} {bi : List Blk} {as bs : List D} {val : D} {bo : List Blk} (h : ACall P f bi as val bo) (hl : DsP as bs) : ACall P f bi bs val bo :=
  ⟨h.1, fun own0 w ρ vs hm ha => h.2 own0 w ρ vs hm (DsP.rep hl ha)⟩
theorem CallS.le {P : Program} {q : Bool} {f : Nat} {bi : List Blk} {as bs : List D} {K : D → List Blk → Prop} {val : D} {bo : List Blk} (h : ACall P f bi as val bo) (hl : DsP as bs) (k : K val bo) : CallS P q f bi bs K := ⟨val, bo, fun _ => .inl (h.args hl), k⟩

theorem round_of {β : Type} {m0 : Nat} {S : β → St} {p : β → Prop} {μ : β → Nat} {b : β} {Q : Exit → St → Prop} {st : St} (b' : β) {τ : Nat → Nat} {ν : List Nat} (hp : p b') (hm : μ b' < μ b) (hl : Le m0 τ ν st (S b')) : roundQ m0 S p μ b Q .normal st := ⟨b', τ, ν, hp, hm, hl⟩

theorem getD_map {α : Type} [Inhabited α] (f : α → List V) (xs : List α) (i : Nat) (h : i < xs.length) : (xs.map f).getD i [] = f (xs.getD i default) := by
  simp [List.getD_eq_getElem?_getD, h]

theorem rowAt_map {α : Type} [Inhabited α] (f : α → List V) (xs : List α) (ty : Ty) (i off : Nat) (h : i < xs.length) : rowAt ty (xs.map f) i off = (f (xs.getD i default)).drop off := by
  unfold rowAt
  simp [List.getD_eq_getElem?_getD, h]
theorem getD_rI (xs : List Int) (i : Nat) : (xs.map fun n => [V.x (.int .i64 n)]).getD i [V.x (.int .i64 0)] = [V.x (.int .i64 (xs.getD i 0))] := by
  simp only [List.getD_eq_getElem?_getD, List.getElem?_map]
  cases xs[i]? <;> rfl
theorem getD_rB (xs : List Int) (i : Nat) : (xs.map fun n => [V.x (.int .u8 n)]).getD i [V.x (.int .u8 0)] = [V.x (.int .u8 (xs.getD i 0))] := by
  simp only [List.getD_eq_getElem?_getD, List.getElem?_map]
  cases xs[i]? <;> rfl

theorem wrap_i64 (x : Int) (h1 : -9223372036854775808 ≤ x) (h2 : x ≤ 9223372036854775807) : IntKind.i64.wrap x = x := by
  simp only [IntKind.wrap, IntKind.bits, IntKind.signed]
  simp
  omega
theorem wrap_u64 (x : Int) (h1 : 0 ≤ x) (h2 : x ≤ 18446744073709551615) : IntKind.u64.wrap x = x := by
  simp only [IntKind.wrap, IntKind.bits, IntKind.signed]
  simp
  omega
theorem wrap_u32 (x : Int) (h1 : 0 ≤ x) (h2 : x ≤ 4294967295) : IntKind.u32.wrap x = x := by
  simp only [IntKind.wrap, IntKind.bits, IntKind.signed]
  simp
  omega
theorem wrap_u16 (x : Int) (h1 : 0 ≤ x) (h2 : x ≤ 65535) : IntKind.u16.wrap x = x := by
  simp only [IntKind.wrap, IntKind.bits, IntKind.signed]
  simp
  omega
theorem wrap_u8 (x : Int) (h1 : 0 ≤ x) (h2 : x ≤ 255) : IntKind.u8.wrap x = x := by
  simp only [IntKind.wrap, IntKind.bits, IntKind.signed]
  simp
  omega

theorem and32 (x : Int) (h1 : 0 ≤ x) (h2 : x ≤ 18446744073709551615) : IntKind.u64.wrap ((BitVec.ofInt IntKind.u64.bits x &&& BitVec.ofInt IntKind.u64.bits 4294967295).toNat) = x % 4294967296 := by
  obtain ⟨n, rfl⟩ : ∃ n : Nat, x = n := ⟨x.toNat, by omega⟩
  have e1 : (BitVec.ofInt IntKind.u64.bits (n : Int) &&& BitVec.ofInt IntKind.u64.bits 4294967295).toNat = n % 4294967296 := by
    rw [BitVec.toNat_and]
    have a : (BitVec.ofInt IntKind.u64.bits (n : Int)).toNat = n := by
      rw [show (n : Int) = ((n : Nat) : Int) from rfl, BitVec.ofInt_natCast, BitVec.toNat_ofNat]
      exact Nat.mod_eq_of_lt (by show n < 18446744073709551616; omega)
    have b : (BitVec.ofInt IntKind.u64.bits 4294967295).toNat = 4294967295 := by decide
    rw [a, b]
    exact Nat.and_two_pow_sub_one_eq_mod n 32
  rw [e1, wrap_u64 _ (by omega) (by omega)]
  omega
theorem shr32 (x : Int) : x.fdiv (2 ^ (min (Int.toNat 32) IntKind.u64.bits)) = x / 4294967296 := by
  have : (2 : Int) ^ (min (Int.toNat 32) IntKind.u64.bits) = 4294967296 := by decide
  rw [this, Int.fdiv_eq_ediv_of_nonneg _ (by omega)]

theorem tmod_pos (a b : Int) (h : 0 ≤ a) : a.tmod b = a % b := Int.tmod_eq_emod_of_nonneg h

theorem take_map {α β : Type} (f : α → β) (xs : List α) : (xs.map f).take xs.length = xs.map f := List.take_of_length_le (by simp)
theorem toNat_cast (n : Nat) : (n : Int).toNat = n := rfl

def strB (xs : List Int) : ByteArray := ⟨(xs.map fun n => UInt8.ofNat n.toNat).toArray⟩
theorem strRows_map (xs : List Int) : strRows (xs.map fun n => [V.x (.int .u8 n)]) = strB xs := by
  simp only [strRows, strB, List.map_map]; rfl
theorem areBytes_map (xs : List Int) : areBytes (xs.map fun n => [V.x (.int .u8 n)]) = True := by
  refine eq_true fun r hr => ?_
  obtain ⟨n, _, rfl⟩ := List.mem_map.1 hr
  exact trivial
theorem strB_append (xs ys : List Int) : strB xs ++ strB ys = strB (xs ++ ys) := by
  apply ByteArray.ext
  simp [strB, ByteArray.data_append]
theorem strB_size (xs : List Int) : (strB xs).size = xs.length := by simp [strB, ByteArray.size]
theorem q_lapp {α : Type} : (∀ b : List α, List.append [] b = b) ∧ (∀ (a : α) (l b : List α), List.append (a :: l) b = a :: List.append l b) := ⟨fun _ => rfl, fun _ _ _ => rfl⟩
theorem among2 {α : Type} (q : Bool) (i : Int) (f : Nat → Tr α) : among q i f 2 = .ite (decide (i = 1)) (f 1) (.ask (q = true → i = 0) (f 0)) := rfl
theorem getD_mapD {α : Type} [Inhabited α] (f : α → List V) (xs : List α) (i : Nat) (d : List V) (h : i < xs.length) : (xs.map f).getD i d = f (xs.getD i default) := by
  simp [List.getD_eq_getElem?_getD, h]
theorem take_m {α : Type} (f : α → List V) (xs : List α) (n : Nat) : (xs.map f).take n = (xs.take n).map f := by rw [List.map_take]

def nO (_ : Nat) : Bool := false
theorem nO_eq (f : Nat) : nO f = false := rfl
/-- The functions that take over their arguments' slices; 0: cuts are views. -/
def oF : List Nat → Nat → Bool
  | [], _ => false
  | a :: l, f => (f == a) || oF l f
theorem oF_eq : (∀ f, oF [] f = false) ∧ ∀ a l f, oF (a :: l) f = ((f == a) || oF l f) := ⟨fun _ => rfl, fun _ _ _ => rfl⟩
theorem dfl_int : (default : Int) = 0 := rfl
abbrev vI (n : Int) : V := .x (.int .i64 n)
abbrev I (n : Int) : D := .e (.c (.v (.x (.int .i64 n))))
abbrev B (b : Bool) : D := .e (.c (.v (.x (.bool b))))
abbrev sI (xs : List Int) : V := .s 1 (xs.map fun n => [.x (.int .i64 n)])
abbrev sB (xs : List Int) : V := .s 1 (xs.map fun n => [.x (.int .u8 n)])


/-! Many laws in one name: the lists of simp stay short. -/
theorem ev_all : type_of% (And.intro @List.size_toArray.{0} (And.intro @upd_app (And.intro @q_mk (And.intro @q_ofL (And.intro @q_sat (And.intro @q_callE (And.intro @q_callP (And.intro @q_callN (And.intro @q_okHand (And.intro @rowAt_map (And.intro @q_full (And.intro @q_pass (And.intro @q_frzD (And.intro @q_hand (And.intro @q_contC (And.intro @q_plain (And.intro @q_ren (And.intro @q_need (And.intro @q_needO (And.intro @q_evO (And.intro @q_op (And.intro @q_lapp (And.intro @q_nil (And.intro @q_ncK (And.intro @q_mkS (And.intro @q_mkT (And.intro @q_bA (And.intro @q_bAg (And.intro @q_bN (And.intro @q_bNn (And.intro @q_cN (And.intro @q_eqs (And.intro @q_opf (And.intro @q_mf (And.intro @q_caps (And.intro @q_cv (And.intro @q_cut (And.intro @q_app (And.intro @q_cl (And.intro @q_bi (And.intro @q_n (And.intro @q_w (And.intro @q_K (And.intro @q_goN (And.intro @q_goS (And.intro @q_go0 (And.intro @q_gS0 (And.intro @q_put (And.intro @q_updL (And.intro @q_small (And.intro @q_ds (And.intro @q_bin (And.intro @q_binB (And.intro @q_isB (And.intro @q_binS (And.intro @q_strOp (And.intro @q_un (And.intro @q_pick (And.intro @q_load (And.intro @q_store (And.intro @q_pick1 (And.intro @q_agg (And.intro @q_fA (And.intro @q_fE (And.intro @q_shift (And.intro @q_cells (And.intro @q_frz (And.intro @q_ext (And.intro @q_rowsOf (And.intro @updL_append (And.intro @List.getD_cons_zero.{0} (And.intro @List.getD_cons_succ.{0} (And.intro @List.getElem?_cons_zero.{0} (And.intro @List.getElem?_cons_succ.{0} (And.intro @List.toList_toArray.{0} (And.intro @List.getElem?_toArray.{0} (And.intro @List.map_cons.{0,0} (And.intro @List.map_nil.{0,0} (And.intro @List.zip_cons_cons.{0,0} (And.intro @List.zip_nil_right.{0,0} (And.intro @List.zip_nil_left.{0,0} (And.intro @List.flatMap_cons.{0,0} (And.intro @List.flatMap_nil.{0,0} (And.intro @List.all_nil.{0} (And.intro @List.all_cons.{0} (And.intro @Option.bind_some.{0,0} (And.intro @Option.map_some.{0,0} (And.intro @Option.map_none.{0,0} (And.intro @Option.getD_some.{0} (And.intro @List.length_cons.{0} (And.intro @List.length_nil.{0} (And.intro @List.length_map.{0,0} (And.intro @List.take_succ_cons.{0} (And.intro @List.take_zero.{0} (And.intro @List.drop_succ_cons.{0} (And.intro @List.drop_zero.{0} (And.intro @List.headD_cons.{0} (And.intro @List.cons_append.{0} (And.intro @List.nil_append.{0} (And.intro @List.append_nil.{0} (And.intro @true_and (And.intro @and_true (And.intro @true_implies (And.intro @Bool.true_and (And.intro @Bool.and_true (And.intro @Bool.false_and (And.intro @Bool.and_false (And.intro @decide_true (And.intro @Bool.false_eq_true (And.intro @not_false_eq_true (And.intro @imp_self (And.intro @beq_true (And.intro @beq_false (And.intro @Bool.not_eq_true' (And.intro @Bool.if_false_left (And.intro @toNat_cast (And.intro @Nat.zero_add (@Nat.add_zero)))))))))))))))))))))))))))))))))))))))))))))))))))))))))))))))))))))))))))))))))))))))))))))))))))))))))))))))))))))) := And.intro @List.size_toArray.{0} (And.intro @upd_app (And.intro @q_mk (And.intro @q_ofL (And.intro @q_sat (And.intro @q_callE (And.intro @q_callP (And.intro @q_callN (And.intro @q_okHand (And.intro @rowAt_map (And.intro @q_full (And.intro @q_pass (And.intro @q_frzD (And.intro @q_hand (And.intro @q_contC (And.intro @q_plain (And.intro @q_ren (And.intro @q_need (And.intro @q_needO (And.intro @q_evO (And.intro @q_op (And.intro @q_lapp (And.intro @q_nil (And.intro @q_ncK (And.intro @q_mkS (And.intro @q_mkT (And.intro @q_bA (And.intro @q_bAg (And.intro @q_bN (And.intro @q_bNn (And.intro @q_cN (And.intro @q_eqs (And.intro @q_opf (And.intro @q_mf (And.intro @q_caps (And.intro @q_cv (And.intro @q_cut (And.intro @q_app (And.intro @q_cl (And.intro @q_bi (And.intro @q_n (And.intro @q_w (And.intro @q_K (And.intro @q_goN (And.intro @q_goS (And.intro @q_go0 (And.intro @q_gS0 (And.intro @q_put (And.intro @q_updL (And.intro @q_small (And.intro @q_ds (And.intro @q_bin (And.intro @q_binB (And.intro @q_isB (And.intro @q_binS (And.intro @q_strOp (And.intro @q_un (And.intro @q_pick (And.intro @q_load (And.intro @q_store (And.intro @q_pick1 (And.intro @q_agg (And.intro @q_fA (And.intro @q_fE (And.intro @q_shift (And.intro @q_cells (And.intro @q_frz (And.intro @q_ext (And.intro @q_rowsOf (And.intro @updL_append (And.intro @List.getD_cons_zero.{0} (And.intro @List.getD_cons_succ.{0} (And.intro @List.getElem?_cons_zero.{0} (And.intro @List.getElem?_cons_succ.{0} (And.intro @List.toList_toArray.{0} (And.intro @List.getElem?_toArray.{0} (And.intro @List.map_cons.{0,0} (And.intro @List.map_nil.{0,0} (And.intro @List.zip_cons_cons.{0,0} (And.intro @List.zip_nil_right.{0,0} (And.intro @List.zip_nil_left.{0,0} (And.intro @List.flatMap_cons.{0,0} (And.intro @List.flatMap_nil.{0,0} (And.intro @List.all_nil.{0} (And.intro @List.all_cons.{0} (And.intro @Option.bind_some.{0,0} (And.intro @Option.map_some.{0,0} (And.intro @Option.map_none.{0,0} (And.intro @Option.getD_some.{0} (And.intro @List.length_cons.{0} (And.intro @List.length_nil.{0} (And.intro @List.length_map.{0,0} (And.intro @List.take_succ_cons.{0} (And.intro @List.take_zero.{0} (And.intro @List.drop_succ_cons.{0} (And.intro @List.drop_zero.{0} (And.intro @List.headD_cons.{0} (And.intro @List.cons_append.{0} (And.intro @List.nil_append.{0} (And.intro @List.append_nil.{0} (And.intro @true_and (And.intro @and_true (And.intro @true_implies (And.intro @Bool.true_and (And.intro @Bool.and_true (And.intro @Bool.false_and (And.intro @Bool.and_false (And.intro @decide_true (And.intro @Bool.false_eq_true (And.intro @not_false_eq_true (And.intro @imp_self (And.intro @beq_true (And.intro @beq_false (And.intro @Bool.not_eq_true' (And.intro @Bool.if_false_left (And.intro @toNat_cast (And.intro @Nat.zero_add (@Nat.add_zero)))))))))))))))))))))))))))))))))))))))))))))))))))))))))))))))))))))))))))))))))))))))))))))))))))))))))))))))))))))
theorem bo_all : type_of% (And.intro @Bool.or_eq_true (And.intro @Bool.and_eq_true (And.intro @decide_eq_true_eq (And.intro @Bool.or_eq_false_iff (And.intro @Bool.and_eq_false_iff (And.intro @decide_eq_false_iff_not (And.intro @Bool.not_eq_true' (And.intro @Bool.not_eq_false' (And.intro @beq_iff_eq.{0} (And.intro @bne_iff_ne.{0} (And.intro @beq_eq_false_iff_ne.{0} (And.intro @bne_eq_false_iff_eq.{0} (And.intro @Bool.not_eq_eq_eq_not (And.intro @Bool.not_true (@Bool.not_false))))))))))))))) := And.intro @Bool.or_eq_true (And.intro @Bool.and_eq_true (And.intro @decide_eq_true_eq (And.intro @Bool.or_eq_false_iff (And.intro @Bool.and_eq_false_iff (And.intro @decide_eq_false_iff_not (And.intro @Bool.not_eq_true' (And.intro @Bool.not_eq_false' (And.intro @beq_iff_eq.{0} (And.intro @bne_iff_ne.{0} (And.intro @beq_eq_false_iff_ne.{0} (And.intro @bne_eq_false_iff_eq.{0} (And.intro @Bool.not_eq_eq_eq_not (And.intro @Bool.not_true (@Bool.not_false))))))))))))))
theorem fi_all : type_of% (And.intro @q_ice (And.intro @q_le (And.intro @q_Le (And.intro @q_VLe (And.intro @q_BLe (And.intro @q_empty (And.intro @q_mk (And.intro @q_ofL (And.intro @upd_app (And.intro @and_true (And.intro @true_and (And.intro @List.getD_cons_zero.{0} (And.intro @List.getD_cons_succ.{0} (And.intro @List.contains_nil.{0} (And.intro @List.contains_cons.{0} (And.intro @BEq.rfl.{0} (And.intro @Bool.true_or (And.intro @Bool.or_false (And.intro @List.getElem?_cons_zero.{0} (And.intro @Int.ofNat_zero (And.intro @Int.natCast_add (And.intro @Int.natCast_one (And.intro @Int.cast_ofNat_Int (And.intro @Bool.false_eq_true (And.intro @Option.isSome_some.{0} (And.intro @V.x.injEq (And.intro @Value.int.injEq (And.intro @Value.bool.injEq (And.intro @Value.string.injEq (And.intro @List.map_cons.{0,0} (And.intro @List.map_nil.{0,0} (And.intro @List.length_map.{0,0} (@Nat.le_refl))))))))))))))))))))))))))))))))) := And.intro @q_ice (And.intro @q_le (And.intro @q_Le (And.intro @q_VLe (And.intro @q_BLe (And.intro @q_empty (And.intro @q_mk (And.intro @q_ofL (And.intro @upd_app (And.intro @and_true (And.intro @true_and (And.intro @List.getD_cons_zero.{0} (And.intro @List.getD_cons_succ.{0} (And.intro @List.contains_nil.{0} (And.intro @List.contains_cons.{0} (And.intro @BEq.rfl.{0} (And.intro @Bool.true_or (And.intro @Bool.or_false (And.intro @List.getElem?_cons_zero.{0} (And.intro @Int.ofNat_zero (And.intro @Int.natCast_add (And.intro @Int.natCast_one (And.intro @Int.cast_ofNat_Int (And.intro @Bool.false_eq_true (And.intro @Option.isSome_some.{0} (And.intro @V.x.injEq (And.intro @Value.int.injEq (And.intro @Value.bool.injEq (And.intro @Value.string.injEq (And.intro @List.map_cons.{0,0} (And.intro @List.map_nil.{0,0} (And.intro @List.length_map.{0,0} (@Nat.le_refl))))))))))))))))))))))))))))))))
theorem fe_all : type_of% (And.intro @q_Fin (And.intro @q_res (And.intro @q_onRes (And.intro @q_load (And.intro @q_pick1 (And.intro @q_agg (And.intro @Option.map_some.{0,0} (And.intro @List.toList_toArray.{0} (And.intro @List.drop_zero.{0} (And.intro @List.drop_succ_cons.{0} (And.intro @List.take_succ_cons.{0} (And.intro @List.take_zero.{0} (And.intro @List.length_cons.{0} (And.intro @List.length_nil.{0} (And.intro @List.headD_cons.{0} (And.intro @List.map_id.{0} (And.intro @Nat.zero_add (@Nat.le_refl)))))))))))))))))) := And.intro @q_Fin (And.intro @q_res (And.intro @q_onRes (And.intro @q_load (And.intro @q_pick1 (And.intro @q_agg (And.intro @Option.map_some.{0,0} (And.intro @List.toList_toArray.{0} (And.intro @List.drop_zero.{0} (And.intro @List.drop_succ_cons.{0} (And.intro @List.take_succ_cons.{0} (And.intro @List.take_zero.{0} (And.intro @List.length_cons.{0} (And.intro @List.length_nil.{0} (And.intro @List.headD_cons.{0} (And.intro @List.map_id.{0} (And.intro @Nat.zero_add (@Nat.le_refl)))))))))))))))))
theorem co_all : type_of% (And.intro @Nat.mul_one (And.intro @Int.mul_one (And.intro @nO_eq (And.intro @oF_eq (And.intro @Bool.true_or (And.intro @Bool.false_or (And.intro @Bool.or_false (And.intro @dfl_int (And.intro @decide_false (And.intro @Bool.false_eq_true (And.intro @false_implies (And.intro @Bool.not_true (And.intro @Bool.not_false (And.intro @BEq.rfl.{0} (And.intro @take_map (And.intro @List.take_length.{0} (@wrap_i64))))))))))))))))) := And.intro @Nat.mul_one (And.intro @Int.mul_one (And.intro @nO_eq (And.intro @oF_eq (And.intro @Bool.true_or (And.intro @Bool.false_or (And.intro @Bool.or_false (And.intro @dfl_int (And.intro @decide_false (And.intro @Bool.false_eq_true (And.intro @false_implies (And.intro @Bool.not_true (And.intro @Bool.not_false (And.intro @BEq.rfl.{0} (And.intro @take_map (And.intro @List.take_length.{0} (@wrap_i64))))))))))))))))
end Eng
end Go.Proofs.YtllfgnhnooonfaaDoor
