/- Small helpers for the walks. -/
import Derived.Test.YtgpjbcgbjpmgaaaEngY
set_option autoImplicit false
set_option linter.unusedSimpArgs false
set_option linter.unusedVariables false
namespace Go.Proofs.Ytgpjbcgbjpmgaaa
namespace Eng

theorem CallS.of {P : Program} {q : Bool} {f : Nat} {bi : List Blk} {args : List D} {K : D → List Blk → Prop} {val : D} {bo : List Blk} (h : ACall P f bi args val bo) (k : K val bo) : CallS P q f bi args K := ⟨val, bo, fun _ => h, k⟩
theorem CallS.of_if {P : Program} {q : Bool} {f : Nat} {bi : List Blk} {args : List D} {K : D → List Blk → Prop} {val : D} {bo : List Blk} (h : q = true → ACall P f bi args val bo) (k : K val bo) : CallS P q f bi args K := ⟨val, bo, h, k⟩

def CP : C → C → Prop
  | .v a, .v b => VLe a b
  | _, _ => False
def CsP : List C → List C → Prop
  | [], [] => True
  | a :: as, b :: bs => CP a b ∧ CsP as bs
  | _, _ => False
def DP : D → D → Prop
  | .e (.c a), .e (.c b) => CP a b
  | .e (.a as), .e (.a bs) => CsP as bs
  | _, _ => False
def DsP : List D → List D → Prop
  | [], [] => True
  | a :: as, b :: bs => DP a b ∧ DsP as bs
  | _, _ => False
theorem q_P : (∀ a b, CP (.v a) (.v b) = VLe a b) ∧ CsP [] [] = True ∧ (∀ a as b bs, CsP (a :: as) (b :: bs) = (CP a b ∧ CsP as bs)) ∧ (∀ a b, DP (.e (.c a)) (.e (.c b)) = CP a b) ∧ (∀ as bs, DP (.e (.a as)) (.e (.a bs)) = CsP as bs) ∧
    DsP [] [] = True ∧ (∀ a as b bs, DsP (a :: as) (b :: bs) = (DP a b ∧ DsP as bs)) := ⟨fun _ _ => rfl, rfl, fun _ _ _ _ => rfl, fun _ _ => rfl, fun _ _ => rfl, rfl, fun _ _ _ _ => rfl⟩
theorem VLe.rep0 {w : World} {ow : Nat → Prop} {a b : V} {u : Value} (h : VLe a b) (hb : RepV w ow b u) : RepV w ow a u := by
  cases a with
  | x v => cases (show V.x v = b from h); exact hb
  | s k rows =>
    cases b with
    | x v =>
      obtain ⟨rfl, rfl⟩ := (show rows = [] ∧ v = .slice none 0 0 from h)
      cases hb with
      | x _ _ => exact .s k [] none 0 0 (fun _ _ => undef) rfl (by simp) (fun _ => rfl) (Nat.le_refl _) (by simp) (by simp)
    | s k' rows' => cases (show V.s k rows = V.s k' rows' from h); exact hb
    | f fn caps => cases (show V.s k rows = V.f fn caps from h)
  | f fn caps => cases (show V.f fn caps = b from h); exact hb
theorem CP.rep {w : World} {ow : Nat → Prop} {ρ : Nat → Option Pl} {a b : C} {u : Value} (h : CP a b) (hb : RepC w ow ρ b u) : RepC w ow ρ a u := by
  cases a with
  | v a => cases b with
    | v b => exact VLe.rep0 h hb
    | o _ _ => exact h.elim
  | o _ _ => exact h.elim
theorem CsP.rep {w : World} {ow : Nat → Prop} {ρ : Nat → Option Pl} : ∀ {as bs : List C} {us : List Value}, CsP as bs → All2 (RepC w ow ρ) bs us → All2 (RepC w ow ρ) as us
  | [], [], [], _, _ => trivial
  | _ :: _, _ :: _, _ :: _, h, hb => ⟨CP.rep h.1 hb.1, CsP.rep h.2 hb.2⟩
  | [], _ :: _, _, h, _ => h.elim
  | _ :: _, [], _, h, _ => h.elim
  | [], [], _ :: _, _, hb => hb.elim
  | _ :: _, _ :: _, [], _, hb => hb.elim
theorem DP.rep {w : World} {ow : Nat → Prop} {ρ : Nat → Option Pl} {a b : D} {u : Value} (h : DP a b) (hb : RepD w ow ρ b u) : RepD w ow ρ a u := by
  cases a with
  | e a => cases b with
    | e b => cases a <;> cases b
             · exact CP.rep h hb
             · exact h.elim
             · exact h.elim
             · obtain ⟨us, hu, hb⟩ := hb; exact ⟨us, hu, CsP.rep h hb⟩
    | _ => cases a <;> exact h.elim
  | _ => exact h.elim
theorem DsP.rep {w : World} {ow : Nat → Prop} {ρ : Nat → Option Pl} : ∀ {as bs : List D} {us : List Value}, DsP as bs → All2 (RepD w ow ρ) bs us → All2 (RepD w ow ρ) as us
  | [], [], [], _, _ => trivial
  | _ :: _, _ :: _, _ :: _, h, hb => ⟨DP.rep h.1 hb.1, DsP.rep h.2 hb.2⟩
  | [], _ :: _, _, h, _ => h.elim
  | _ :: _, [], _, h, _ => h.elim
  | [], [], _ :: _, _, hb => hb.elim
  | _ :: _, _ :: _, [], _, hb => hb.elim
theorem ACall.args {P : Program} {f : Nat} {bi : List Blk} {as bs : List D} {val : D} {bo : List Blk} (h : ACall P f bi as val bo) (hl : DsP as bs) : ACall P f bi bs val bo :=
  ⟨h.1, fun own0 w ρ vs hm ha => h.2 own0 w ρ vs hm (DsP.rep hl ha)⟩
theorem CallS.le {P : Program} {q : Bool} {f : Nat} {bi : List Blk} {as bs : List D} {K : D → List Blk → Prop} {val : D} {bo : List Blk} (h : ACall P f bi as val bo) (hl : DsP as bs) (k : K val bo) : CallS P q f bi bs K := ⟨val, bo, fun _ => h.args hl, k⟩

theorem round_of {β : Type} {m0 : Nat} {S : β → St} {p : β → Prop} {μ : β → Nat} {b : β} {Q : Exit → St → Prop} {st : St} (b' : β) {τ : Nat → Nat} {ν : List Nat} (hp : p b') (hm : μ b' < μ b) (hl : Le m0 τ ν st (S b')) : roundQ m0 S p μ b Q .normal st := ⟨b', τ, ν, hp, hm, hl⟩

theorem getD_map {α : Type} [Inhabited α] (f : α → List V) (xs : List α) (i : Nat) (h : i < xs.length) : (xs.map f).getD i [] = f (xs.getD i default) := by
  simp [List.getD_eq_getElem?_getD, h]

theorem getD_rI (xs : List Int) (i : Nat) : (xs.map fun n => [V.x (.int .i64 n)]).getD i [V.x (.int .i64 0)] = [V.x (.int .i64 (xs.getD i 0))] := by
  simp only [List.getD_eq_getElem?_getD, List.getElem?_map]
  cases xs[i]? <;> rfl
theorem getD_rB (xs : List Int) (i : Nat) : (xs.map fun n => [V.x (.int .u8 n)]).getD i [V.x (.int .u8 0)] = [V.x (.int .u8 (xs.getD i 0))] := by
  simp only [List.getD_eq_getElem?_getD, List.getElem?_map]
  cases xs[i]? <;> rfl

theorem wrap_i64 (x : Int) (h1 : -9223372036854775808 ≤ x) (h2 : x ≤ 9223372036854775807) : IntKind.i64.wrap x = x := by
  simp only [IntKind.wrap, IntKind.bits, IntKind.signed]
  simp
  omega
theorem wrap_u64 (x : Int) (h1 : 0 ≤ x) (h2 : x ≤ 18446744073709551615) : IntKind.u64.wrap x = x := by
  simp only [IntKind.wrap, IntKind.bits, IntKind.signed]
  simp
  omega
theorem wrap_u32 (x : Int) (h1 : 0 ≤ x) (h2 : x ≤ 4294967295) : IntKind.u32.wrap x = x := by
  simp only [IntKind.wrap, IntKind.bits, IntKind.signed]
  simp
  omega
theorem wrap_u16 (x : Int) (h1 : 0 ≤ x) (h2 : x ≤ 65535) : IntKind.u16.wrap x = x := by
  simp only [IntKind.wrap, IntKind.bits, IntKind.signed]
  simp
  omega
theorem wrap_u8 (x : Int) (h1 : 0 ≤ x) (h2 : x ≤ 255) : IntKind.u8.wrap x = x := by
  simp only [IntKind.wrap, IntKind.bits, IntKind.signed]
  simp
  omega

theorem and32 (x : Int) (h1 : 0 ≤ x) (h2 : x ≤ 18446744073709551615) : IntKind.u64.wrap ((BitVec.ofInt IntKind.u64.bits x &&& BitVec.ofInt IntKind.u64.bits 4294967295).toNat) = x % 4294967296 := by
  obtain ⟨n, rfl⟩ : ∃ n : Nat, x = n := ⟨x.toNat, by omega⟩
  have e1 : (BitVec.ofInt IntKind.u64.bits (n : Int) &&& BitVec.ofInt IntKind.u64.bits 4294967295).toNat = n % 4294967296 := by
    rw [BitVec.toNat_and]
    have a : (BitVec.ofInt IntKind.u64.bits (n : Int)).toNat = n := by
      rw [show (n : Int) = ((n : Nat) : Int) from rfl, BitVec.ofInt_natCast, BitVec.toNat_ofNat]
      exact Nat.mod_eq_of_lt (by show n < 18446744073709551616; omega)
    have b : (BitVec.ofInt IntKind.u64.bits 4294967295).toNat = 4294967295 := by decide
    rw [a, b]
    exact Nat.and_two_pow_sub_one_eq_mod n 32
  rw [e1, wrap_u64 _ (by omega) (by omega)]
  omega
theorem shr32 (x : Int) : x.fdiv (2 ^ (min (Int.toNat 32) IntKind.u64.bits)) = x / 4294967296 := by
  have : (2 : Int) ^ (min (Int.toNat 32) IntKind.u64.bits) = 4294967296 := by decide
  rw [this, Int.fdiv_eq_ediv_of_nonneg _ (by omega)]

theorem tmod_pos (a b : Int) (h : 0 ≤ a) : a.tmod b = a % b := Int.tmod_eq_emod_of_nonneg h

theorem take_map {α β : Type} (f : α → β) (xs : List α) : (xs.map f).take xs.length = xs.map f := List.take_of_length_le (by simp)
theorem toNat_cast (n : Nat) : (n : Int).toNat = n := rfl

def strB (xs : List Int) : ByteArray := ⟨(xs.map fun n => UInt8.ofNat n.toNat).toArray⟩
theorem strRows_map (xs : List Int) : strRows (xs.map fun n => [V.x (.int .u8 n)]) = strB xs := by
  simp only [strRows, strB, List.map_map]; rfl
theorem areBytes_map (xs : List Int) : areBytes (xs.map fun n => [V.x (.int .u8 n)]) = True := by
  refine eq_true fun r hr => ?_
  obtain ⟨n, _, rfl⟩ := List.mem_map.1 hr
  exact trivial
theorem strB_append (xs ys : List Int) : strB xs ++ strB ys = strB (xs ++ ys) := by
  apply ByteArray.ext
  simp [strB, ByteArray.data_append]
theorem strB_size (xs : List Int) : (strB xs).size = xs.length := by simp [strB, ByteArray.size]
theorem q_lapp {α : Type} : (∀ b : List α, List.append [] b = b) ∧ (∀ (a : α) (l b : List α), List.append (a :: l) b = a :: List.append l b) := ⟨fun _ => rfl, fun _ _ _ => rfl⟩
theorem among2 {α : Type} (q : Bool) (i : Int) (f : Nat → Tr α) : among q i f 2 = .ite (decide (i = 1)) (f 1) (.ask (q = true → i = 0) (f 0)) := rfl
theorem getD_mapD {α : Type} [Inhabited α] (f : α → List V) (xs : List α) (i : Nat) (d : List V) (h : i < xs.length) : (xs.map f).getD i d = f (xs.getD i default) := by
  simp [List.getD_eq_getElem?_getD, h]
theorem take_m {α : Type} (f : α → List V) (xs : List α) (n : Nat) : (xs.map f).take n = (xs.take n).map f := by rw [List.map_take]

def nO (_ : Nat) : Bool := false
theorem nO_eq (f : Nat) : nO f = false := rfl
/-- The functions that take over their arguments' slices; 0: cuts are views. -/
def oF : List Nat → Nat → Bool
  | [], _ => false
  | a :: l, f => (f == a) || oF l f
theorem oF_eq : (∀ f, oF [] f = false) ∧ ∀ a l f, oF (a :: l) f = ((f == a) || oF l f) := ⟨fun _ => rfl, fun _ _ _ => rfl⟩
theorem dfl_int : (default : Int) = 0 := rfl
abbrev vI (n : Int) : V := .x (.int .i64 n)
abbrev I (n : Int) : D := .e (.c (.v (.x (.int .i64 n))))
abbrev B (b : Bool) : D := .e (.c (.v (.x (.bool b))))
abbrev sI (xs : List Int) : V := .s 1 (xs.map fun n => [.x (.int .i64 n)])
abbrev sB (xs : List Int) : V := .s 1 (xs.map fun n => [.x (.int .u8 n)])

end Eng
end Go.Proofs.Ytgpjbcgbjpmgaaa
