/- Each operation does what the evaluator says: the runs. -/
import Derived.Test.YtgpjbcgbjpmgaaaEngC
set_option autoImplicit false
set_option linter.unusedSimpArgs false
set_option linter.unusedVariables false
namespace Go.Proofs.Ytgpjbcgbjpmgaaa
namespace Eng

/-- The blocks that are handed over. -/
def Hd (ρ : Nat → Option Pl) (b : Nat) : Prop := ∃ i base c, ρ i = some (.blk b base c)

/-- A contract: called with the blocks bi handed over and with arguments that read so, in whatever memory, the function returns what reads so; nothing else that was there has changed. -/
def Plain (P : Program) (f : FuncId) : Prop := ∃ fn, P.funcs[f]? = some fn ∧ (fn.name == "runtime.NumGoroutine") = false ∧ fn.body.isNone = false

def ACall (P : Program) (f : FuncId) (bi : List Blk) (args : List D) (val : D) (bo : List Blk) : Prop :=
  Plain P f ∧ ∀ (own0 : Nat → Prop) (w : World) (ρ : Nat → Option Pl) (vs : List Value), Mem own0 (Hd ρ) w ρ (fun i => bi[i]?) w → All2 (RepD w (Ow own0 ρ fun i => bi[i]?) ρ) args vs →
    Calls P f vs.toArray w fun e w' => ∃ u ρ', e = .returned u ∧ Sub ρ ρ' ∧ RepD w' (Ow own0 ρ' fun i => bo[i]?) ρ' val u ∧ Mem own0 (Hd ρ) w ρ' (fun i => bo[i]?) w'

def Tr.gives {α : Type} (P : Program) : Tr α → α → Prop
  | .ret a, x => x = a
  | .fail, _ => False
  | .ask p k, x => p ∧ k.gives P x
  | .ite b t e, x => if b = true then t.gives P x else e.gives P x
  | .call q f bi args k, x => ∃ val bo, (q = true → ACall P f bi args val bo) ∧ (k val bo).gives P x

def Tr.sat {α : Type} (P : Program) : Tr α → (α → Prop) → Prop
  | .ret a, Q => Q a
  | .fail, _ => False
  | .ask p k, Q => p ∧ k.sat P Q
  | .ite b t e, Q => (b = true → t.sat P Q) ∧ (b = false → e.sat P Q)
  | .call q f bi args k, Q => ∃ val bo, (q = true → ACall P f bi args val bo) ∧ (k val bo).sat P Q

theorem Tr.sat_gives {α : Type} {P : Program} {t : Tr α} {Q : α → Prop} (h : t.sat P Q) : ∃ x, t.gives P x ∧ Q x := by
  induction t with
  | ret a => exact ⟨a, rfl, h⟩
  | fail => exact h.elim
  | ask p k ih => obtain ⟨hp, hk⟩ := h; obtain ⟨x, hx, hq⟩ := ih hk; exact ⟨x, ⟨hp, hx⟩, hq⟩
  | ite b t e iht ihe =>
    cases b with
    | true => obtain ⟨x, hx, hq⟩ := iht (h.1 rfl); exact ⟨x, by simpa [gives] using hx, hq⟩
    | false => obtain ⟨x, hx, hq⟩ := ihe (h.2 rfl); exact ⟨x, by simpa [gives] using hx, hq⟩
  | call q f bi args k ih => obtain ⟨v, bo, hc, hk⟩ := h; obtain ⟨x, hx, hq⟩ := ih v bo hk; exact ⟨x, ⟨v, bo, hc, hx⟩, hq⟩

def Tr.bind {α β : Type} : Tr α → (α → Tr β) → Tr β
  | .ret a, f => f a
  | .fail, _ => .fail
  | .ask p k, f => .ask p (k.bind f)
  | .ite b t e, f => .ite b (t.bind f) (e.bind f)
  | .call q g bi args k, f => .call q g bi args fun v bo => (k v bo).bind f

theorem Tr.gives_bind {α β : Type} {P : Program} {t : Tr α} {f : α → Tr β} {y : β} (h : (t.bind f).gives P y) : ∃ x, t.gives P x ∧ (f x).gives P y := by
  induction t with
  | ret a => exact ⟨a, rfl, h⟩
  | fail => exact h.elim
  | ask p k ih => obtain ⟨hp, hk⟩ := h; obtain ⟨x, hx, hq⟩ := ih hk; exact ⟨x, ⟨hp, hx⟩, hq⟩
  | ite b t e iht ihe =>
    cases b with
    | true => obtain ⟨x, hx, hq⟩ := iht (by simpa [bind, gives] using h); exact ⟨x, by simpa [gives] using hx, hq⟩
    | false => obtain ⟨x, hx, hq⟩ := ihe (by simpa [bind, gives] using h); exact ⟨x, by simpa [gives] using hx, hq⟩
  | call q g bi args k ih => obtain ⟨v, bo, hc, hk⟩ := h; obtain ⟨x, hx, hq⟩ := ih v bo hk; exact ⟨x, ⟨v, bo, hc, hx⟩, hq⟩

theorem Tr.sat_bind {α β : Type} {P : Program} {t : Tr α} {f : α → Tr β} {Q : β → Prop} : (t.bind f).sat P Q ↔ t.sat P fun x => (f x).sat P Q := by
  induction t with
  | ret a => rfl
  | fail => rfl
  | ask p k ih => simp only [bind, sat, ih]
  | ite b t e iht ihe => simp only [bind, sat, iht, ihe]
  | call q g bi args k ih => simp only [bind, sat, ih]

variable {P : Program} {w : World} {ow : Nat → Prop} {ρ : Nat → Option Pl} {q : Bool}

theorem need_gives {α : Type} {d : D} {k : D → Tr α} {x : α} (hq : q = true) (h : (need q d k).gives P x) :
    ∃ d', (∀ u, RepD w ow ρ d u → RepD w ow ρ d' u) ∧ (k d').gives P x := by
  cases d with
  | g b d => exact ⟨d, fun u hu => hu.1 (h.1 hq), h.2⟩
  | e a => exact ⟨_, fun u hu => hu, h⟩
  | t es => exact ⟨_, fun u hu => hu, h⟩
  | p b off => exact ⟨_, fun u hu => hu, h⟩
  | q cs => exact ⟨_, fun u hu => hu, h⟩
  | w r k i off => exact ⟨_, fun u hu => hu, h⟩
  | u r k off n => exact ⟨_, fun u hu => hu, h⟩
  | top => exact ⟨_, fun u hu => hu, h⟩

theorem oneCell_eq (v : Value) : v.oneCell' = v.oneCell := by cases v <;> rfl

theorem rep_x {v u : Value} (h : RepD w ow ρ (.x v) u) : u = v ∧ v.oneCell = true := by
  change RepV w ow (.x v) u at h
  cases h with
  | x _ h => exact ⟨rfl, h⟩

theorem rep_x_mk {v : Value} (h : v.oneCell = true) : RepD w ow ρ (.x v) v := RepV.x v h

theorem RepC.oneCell {c : C} {u : Value} (h : RepC w ow ρ c u) : u.oneCell = true := by
  cases c with
  | v a => exact RepV.oneCell h
  | o r n =>
    obtain ⟨m, _, h⟩ := h
    cases m with
    | nil => obtain ⟨_, a, rfl⟩ := h; rfl
    | blk b base cap => obtain ⟨rfl, _⟩ := h; rfl

theorem all2_ofVal (cs : List Value) (h : cs.all Value.oneCell = true) : All2 (RepC w ow ρ) (cs.map fun c => .v (.x c)) cs := by
  induction cs with
  | nil => trivial
  | cons c r ih => simp at h; exact ⟨RepV.x _ h.1, ih (by simpa using h.2)⟩

theorem rep_evConst (v : Value) : RepD w ow ρ (evConst v) v := by
  unfold evConst
  split
  · rename_i h
    cases v <;> first
      | exact RepV.x _ rfl
      | (rename_i cs; exact ⟨cs.toList, by simp, all2_ofVal _ h⟩)
      | simp [okVal] at h
  · trivial

theorem rep_evO {En : Nat → D} {a : Act} (h : ∀ t, RepD w ow ρ (En t) (a.tmps.getD t undef)) (x : Operand) : RepD w ow ρ (evO En x) (a.eval x) := by
  cases x with
  | tmp t => exact h t
  | const v => exact rep_evConst v
  | global g => exact RepV.x _ rfl
  | func f => exact RepV.x _ rfl

/-- The cells of what is no tuple. -/
theorem rep_cells {e : E} {u : Value} (h : RepE w ow ρ e u) : All2 (RepC w ow ρ) e.cells u.cells.toList ∧ (e.cells.length = u.cells.size) := by
  cases e with
  | c y =>
    have h1 := RepC.oneCell (show RepC w ow ρ y u from h)
    have : u.cells = #[u] := by cases u <;> first | rfl | simp [Value.oneCell] at h1
    rw [this]
    exact ⟨⟨h, trivial⟩, rfl⟩
  | a cs =>
    obtain ⟨us, rfl, h⟩ := h
    exact ⟨by simpa [E.cells, Value.cells] using h, by simpa [E.cells, Value.cells] using h.length⟩

theorem rep_e_nt {e : E} {u : Value} (h : RepE w ow ρ e u) : (∃ us, u = .tuple us) → False := by
  rintro ⟨us, rfl⟩
  cases e with
  | c y => have := RepC.oneCell (show RepC w ow ρ y _ from h); simp [Value.oneCell] at this
  | a cs => obtain ⟨us', h, _⟩ := h; cases h

theorem run_isAgg {t : TypeId} {ty : Ty} (h : TyOk P t ty) (w : World) : (isAgg t).run P w = .ok (isAggD ty.desc) w := by
  unfold isAgg
  rw [Sem.run_bind, run_underlying h.under w]
  simp only [Result.andThen_ok]
  cases ty.desc <;> rfl

theorem run_sizeOf {t : TypeId} {ty : Ty} (h : TyOk P t ty) (w : World) : (sizeOf t).run P w = .ok ty.size w := by
  obtain ⟨i, hi, _, hs, _⟩ := h.info
  simp [sizeOf, typeInfo, hi, hs]

theorem run_zero {t : TypeId} {ty : Ty} (h : TyOk P t ty) (w : World) : (zeroValue t).run P w = .ok ty.zero w := by
  obtain ⟨i, hi, hz, _, _⟩ := h.info
  simp [zeroValue, typeInfo, hi, hz]

/-- Cells that lie one behind the other are loaded. -/
theorem run_loadVar {t : TypeId} {ty : Ty} (h : TyOk P t ty) (w : World) (a : Addr) (xs : List Value) (hl : xs.length = ty.size) (hone : isAggD ty.desc = false → ty.size = 1)
    (hx : ∀ j v, xs[j]? = some v → w.cell? (a.add j) = some v) :
    (loadVar t a).run P w = .ok (if isAggD ty.desc then .agg xs.toArray else xs.headD undef) w := by
  unfold loadVar
  rw [Sem.run_bind, run_isAgg h]
  simp only [Result.andThen_ok]
  cases hd : isAggD ty.desc with
  | true => simp [run_sizeOf h, ← hl, run_loadCells_list (P := P) w a xs hx]
  | false =>
    have h1 := hone hd
    match xs, hl with
    | [x], _ =>
      have hx0 := hx 0 x rfl
      have ha : a.add 0 = a := by simp [Addr.add]
      rw [ha] at hx0
      simp [hx0]
    | [], hl => simp at hl; omega
    | _ :: _ :: _, hl => simp at hl; omega

theorem rep_pick1 {α : Type} [Inhabited α] {R : α → Value → Prop} {mk1 : α → C} (hmk : ∀ c u, R c u → RepC w ow ρ (mk1 c) u) {cs : List α} {xs : List Value} {agg : Bool} {size : Nat}
    (h : All2 R cs xs) (hs : size ≤ cs.length) (hone : agg = false → size = 1) :
    RepD w ow ρ (pick1 agg size mk1 cs) (if agg then .agg (xs.take size).toArray else (xs.take size).headD undef) := by
  unfold pick1
  cases agg with
  | true => exact ⟨_, rfl, All2.map_left ((h.take size).mono fun a b => hmk a b)⟩
  | false =>
    have h1 := hone rfl
    subst h1
    match cs, xs, h with
    | c :: _, x :: _, ⟨h0, _⟩ => exact hmk _ _ h0
    | [], [], _ => simp at hs
    | [], _ :: _, h => exact h.elim
    | _ :: _, [], h => exact h.elim

theorem addr_add_lit (b o j : Nat) : (Addr.add ⟨b, o, none⟩ j) = ⟨b, o + j, none⟩ := by
  unfold Addr.add; split
  · rename_i h; simp [h]
  · rfl

theorem addr_add_add (a : Addr) (i j : Nat) (h : j ≠ 0 ∨ a.spot = none) : (a.add i).add j = a.add (i + j) := by
  unfold Addr.add
  split <;> split <;> (try split) <;> simp_all <;> omega

end Eng
end Go.Proofs.Ytgpjbcgbjpmgaaa
