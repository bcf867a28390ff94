/- One operation of the model's code, evaluated. -/
import Derived.Test.YtllfgnhnooonfaaDoorEngF
set_option autoImplicit false
set_option linter.unusedSimpArgs false
set_option linter.unusedVariables false
namespace Go.Proofs.YtllfgnhnooonfaaDoor
namespace Eng

def withTy {α : Type} (Γ : Nat → Option Ty) (t : TypeId) (k : Ty → Tr α) : Tr α :=
  match Γ t with
  | some ty => k ty
  | none => .fail

def needL {α : Type} (q : Bool) : List D → (List D → Tr α) → Tr α
  | [], k => k []
  | d :: r, k => need q d fun d => needL q r fun ds => k (d :: ds)

def needO {α : Type} (q : Bool) (d : Option D) (k : Option D → Tr α) : Tr α :=
  match d with
  | none => k none
  | some d => need q d fun d => k (some d)

def appE (Γ : Nat → Option Ty) (ts : Array TypeId) (H : Nat → Option Blk) (nx : Nat) (s x : D) : Tr (D × Ups) :=
  match x with
  | .u r' k off m => match s with
    | .e (.c (.o r n)) => appendUE Γ ts H r n r' k off m
    | _ => .fail
  | .e (.c (.v (.x (.int _ n)))) => appendFE Γ ts H nx s n
  | x => appendE Γ ts H nx s x

/-- A cut: a view of an own row, or what nobody writes from now on. -/
def cutE (vw : Bool) (Γ : Nat → Option Ty) (ty : Ty) (q : Bool) (H : Nat → Option Blk) (nx : Nat) (x : D) (lo hi mx : Option D) : Tr (D × Ups) :=
  if vw then viewFE Γ ty q H nx x lo hi mx else sliceE Γ ty q H nx x lo hi mx

def builtinE (Γ : Nat → Option Ty) (b : Builtin) (ts : Array TypeId) (H : Nat → Option Blk) (nx : Nat) (ds : List D) : Tr (D × Ups) :=
  match b with
  | .len => match ds, ts[0]? with
    | [d], some t => withTy Γ t fun ty => lenE ty d
    | _, _ => .fail
  | .cap => match ds, ts[0]? with
    | [d], some t => withTy Γ t fun ty => capFE ty H d
    | _, _ => .fail
  | .append => match ds with
    | [s, x] => appE Γ ts H nx s x
    | _ => .fail
  | .clear => match ds with
    | [.u r k off m] => clearE Γ ts H r k off m
    | _ => .fail
  | .copy => match ds with
    | [x, y] => copyE Γ ts H x y
    | _ => .fail
  | .min => minE false ds
  | .max => minE true ds
  | _ => .fail

/-- A call of a function value: what it has captured follows the arguments. -/
def callvE (own : Nat → Bool) (H : Nat → Option Blk) (nx : Nat) (q : Bool) (d : D) (ds : List D) : Tr (D × Ups) :=
  match d with
  | .e (.c (.v (.f f caps))) => callE (own f) H nx q f (ds ++ caps.map .q)
  | .e (.c (.v (.x (.func (.func f) ⟨[]⟩ ⟨[]⟩)))) => callE (own f) H nx q f ds
  | _ => .fail

def opE (Γ : Nat → Option Ty) (own : Nat → Bool) (o : Op) (En : Nat → D) (H : Nat → Option Blk) (nx : Nat) (q : Bool) : Tr (D × Ups) :=
  match o with
  | .move x => need q (evO En x) fun d => .ret (d, [])
  | .assign x => need q (evO En x) fun d => .ret (d, [])
  | .pick c a b => need q (evO En c) fun d => pickE q d a b (evO En a) (evO En b)
  | .alloc t => withTy Γ t fun ty => .ret (.p nx 0, [(nx, .loc (zeroC ty))])
  | .box _ v => need q (evO En v) fun
    | .e e => .ret (.p nx 0, [(nx, .loc e.cells)])
    | _ => .fail
  | .build t ps => withTy Γ t fun ty => needL q (ps.toList.map fun p => evO En p.2) fun ds => buildE Γ ty ((ps.toList.map (·.1)).zip ds)
  | .buildSlice t n ps => withTy Γ t fun ty => needL q (ps.toList.map fun p => evO En p.2) fun ds => buildSliceE Γ ty H n nx ((ps.toList.map (·.1)).zip ds)
  | .load t a => withTy Γ t fun ty => need q (evO En a) fun d => loadE ty H q d
  | .store t a x => withTy Γ t fun ty => need q (evO En a) fun d => need q (evO En x) fun e => storeE ty H d e
  | .nilCheck x => need q (evO En x) fun
    | .p b off => .ret (.p b off, [])
    | .q cs => .ret (.q cs, [])
    | .w r k i off => .ret (.w r k i off, [])
    | _ => .fail
  | .binOp op t x y _ => need q (evO En x) fun d => need q (evO En y) fun e => binNE Γ q op t y d e
  | .unOp op _ x => need q (evO En x) fun d => unQ q op d
  | .convert s t x => need q (evO En x) fun d => convHE Γ H nx s t d
  | .slice t x lo hi mx => withTy Γ t fun ty => need q (evO En x) fun d => needO q (lo.map (evO En)) fun l => needO q (hi.map (evO En)) fun h => needO q (mx.map (evO En)) fun m => cutE (own 0) Γ ty q H nx d l h m
  | .fieldAddr t x f => withTy Γ t fun ty => need q (evO En x) fun d => fieldAddrE Γ ty f d
  | .field t x f => withTy Γ t fun ty => need q (evO En x) fun d => fieldE Γ ty f q d
  | .indexAddr t x i => withTy Γ t fun ty => need q (evO En x) fun d => need q (evO En i) fun e => indexAddrE Γ ty q d e
  | .index t x i => withTy Γ t fun ty => need q (evO En x) fun d => need q (evO En i) fun e => indexE Γ ty q d e
  | .extract x i => need q (evO En x) fun d => extractE i d
  | .call c => needL q (c.args.toList.map (evO En)) fun ds => match c.callee with
    | .value (.func f) => callE (own f) H nx q f ds
    | .value (.tmp t) => need q (En t) fun d => callvE own H nx q d ds
    | .builtin b => builtinE Γ b c.argTypes H nx ds
    | _ => .fail
  | .makeSlice t l c => withTy Γ t fun ty => need q (evO En l) fun d => need q (evO En c) fun e => makeSliceE Γ ty nx d e
  | .makeFunc fn first caps => needL q (caps.toList.map (evO En)) fun ds => makeFuncE H fn first ds
  | _ => .fail

variable {P : Program} {Γ : Nat → Option Ty} {own : Nat → Bool} {own0 mt : Nat → Prop} {w0 w w' : World} {ow ow' : Nat → Prop} {ρ ρ' : Nat → Option Pl} {En : Nat → D} {H : Nat → Option Blk} {q : Bool}
  {d' : D} {ups : Ups}

theorem withTy_gives {α : Type} {t : TypeId} {k : Ty → Tr α} {x : α} (h : (withTy Γ t k).gives P x) : ∃ ty, Γ t = some ty ∧ (k ty).gives P x := by
  unfold withTy at h
  split at h
  · exact ⟨_, by assumption, h⟩
  · exact h.elim

theorem needL_gives {α : Type} (hq : q = true) : ∀ {ds : List D} {us : List Value} {k : List D → Tr α} {x : α}, (needL q ds k).gives P x → All2 (RepD w ow ρ) ds us → ∃ ds', All2 (RepD w ow ρ) ds' us ∧ (k ds').gives P x
  | [], [], k, x, h, _ => ⟨[], trivial, h⟩
  | d :: ds, u :: us, k, x, h, ⟨h0, h1⟩ => by
    simp only [needL] at h
    obtain ⟨d', hd, h⟩ := need_gives (w := w) (ow := ow) (ρ := ρ) hq h
    obtain ⟨ds', ha, h⟩ := needL_gives hq h h1
    exact ⟨d' :: ds', ⟨hd _ h0, ha⟩, h⟩
  | [], _ :: _, _, _, _, h => h.elim
  | _ :: _, [], _, _, _, h => h.elim

theorem needO_gives {α : Type} (hq : q = true) {d : Option D} {u : Option Value} {k : Option D → Tr α} {x : α} (h : (needO q d k).gives P x) (hr : OptRep w ow ρ d u) : ∃ d', OptRep w ow ρ d' u ∧ (k d').gives P x := by
  cases d with
  | none => exact ⟨none, hr, h⟩
  | some d => cases u with
    | none => exact hr.elim
    | some u =>
      obtain ⟨d', hd, h⟩ := need_gives (w := w) (ow := ow) (ρ := ρ) hq h
      exact ⟨some d', hd _ hr, h⟩

theorem all2_map {α β γ δ : Type} {R : γ → δ → Prop} {f : α → γ} {g : β → δ} : ∀ {as : List α} {bs : List β}, All2 (fun a b => R (f a) (g b)) as bs → All2 R (as.map f) (bs.map g)
  | [], [], _ => trivial
  | _ :: _, _ :: _, ⟨h, hs⟩ => ⟨h, all2_map hs⟩
  | [], _ :: _, h => h.elim
  | _ :: _, [], h => h.elim

theorem all2_same {α : Type} {R : α → α → Prop} : ∀ {as : List α}, (∀ a, R a a) → All2 R as as
  | [], _ => trivial
  | a :: as, h => ⟨h a, all2_same h⟩

theorem all2_parts {R : D → Value → Prop} : ∀ {ps : List (Nat × Operand)} {ds : List D} {f : Operand → Value}, All2 R ds (ps.map fun p => f p.2) → All2 (fun (p : Nat × D) (u : Nat × Value) => p.1 = u.1 ∧ R p.2 u.2) ((ps.map (·.1)).zip ds) (ps.map fun p => (p.1, f p.2))
  | [], [], _, _ => trivial
  | p :: ps, d :: ds, f, ⟨h0, h1⟩ => ⟨⟨rfl, h0⟩, all2_parts h1⟩
  | [], _ :: _, _, h => h.elim
  | _ :: _, [], _, h => h.elim

/-- One operation's run and what it gives. -/
structure OpRun (P : Program) (own0 mt : Nat → Prop) (w0 : World) (ρ : Nat → Option Pl) (H : Nat → Option Blk) (w : World) (d : D) (ups : Ups) (v : Value) (w' : World) (ρ' : Nat → Option Pl) : Prop where
  step : Step own0 mt w0 ρ H w ρ' (updL H ups) w'
  rep : RepD w' (Ow own0 ρ' (updL H ups)) ρ' d v

theorem passDs_fresh {o : Bool} {hs : List Nat} {i : Nat} : ∀ {ds args : List D} {H : Nat → Option Blk} {ups : Ups} {p : Prop}, passDs o hs H ds = some (args, ups, p) → H i = none → updL H ups i = none
  | [], _, _, _, _, h, hi => by cases h; exact hi
  | d :: ds, args, H, ups, p, h, hi => by
    simp only [passDs] at h
    split at h
    · rename_i d' u1 p1 hd
      split at h
      · rename_i ds' u2 p2 hds
        cases h
        rw [updL_append]
        refine passDs_fresh hds ?_
        unfold passD at hd
        split at hd
        · cases hd; exact hi
        · split at hd
          · cases hd; exact hi
          · rename_i e _
            unfold frzD at hd
            split at hd
            · split at hd
              · rename_i hc; cases hd; exact frzCs_fresh hc hi
              · cases hd
            · split at hd
              · rename_i hc; cases hd; exact frzCs_fresh hc hi
              · cases hd
            · cases hd
        · cases hd; exact hi
        · split at hd
          · cases hd; exact hi
          · cases hd
        · cases hd
      · cases h
    · cases h

theorem run_callFunc {f : FuncId} (h : Plain P f) (args : Array Value) (w : World) : (callFunc f args).run P w = .ok (.enter f args) w := by
  obtain ⟨fn, hf, hn, hb⟩ := h
  have hn' : ¬ fn.name = "runtime.NumGoroutine" := by simpa using hn
  have hb' : ¬ fn.body = none := by intro h; rw [h] at hb; cases hb
  simp [callFunc, hf, hn', hb']

theorem sliceAt_eq {t : TypeId} {ty : Ty} (ht : TyOk P t ty) (hd : ∀ n e, ty.desc ≠ .array n e) (x : Value) (l h m : Option Value) (w : World) : (Instr.sliceAt t x l h m).run P w = (Instr.slice t x l h m).run P w := by
  unfold Instr.sliceAt
  rw [Sem.run_bind, run_underlying ht.under]
  simp only [Result.andThen_ok]

theorem op_sound (hΓ : TysOk P Γ) {o : Oper} {a : Act} (hm : Mem own0 mt w0 ρ H w) (ht : ∀ t, RepD w (Ow own0 ρ H) ρ (En t) (a.tmps.getD t undef)) {nx : Nat} (hnx : ∀ j, nx ≤ j → j < nx + 64 → H j = none) (hq : q = true)
    (hg : (opE Γ own o.op En H nx q).gives P (d', ups)) (K : Act → World → Prop) (Q : Exit → Act → World → Prop)
    (hK : ∀ v w' ρ', OpRun P own0 mt w0 ρ H w d' ups v w' ρ' → K (a.put o.dst v) w') : o.wp P a w K Q := by
  have hnx0 : H nx = none := hnx nx (Nat.le_refl _) (by omega)
  have ev : ∀ x, RepD w (Ow own0 ρ H) ρ (evO En x) (a.eval x) := rep_evO ht
  have evs : ∀ xs : List Operand, All2 (RepD w (Ow own0 ρ H) ρ) (xs.map (evO En)) (xs.map a.eval) := fun xs => all2_map (all2_same ev)
  have evp : ∀ ps : List (Nat × Operand), All2 (RepD w (Ow own0 ρ H) ρ) (ps.map fun p => evO En p.2) (ps.map fun p => a.eval p.2) := fun ps => all2_map (all2_same fun p => ev p.2)
  have evo : ∀ x : Option Operand, OptRep w (Ow own0 ρ H) ρ (x.map (evO En)) (x.map a.eval) := fun x => by cases x with
    | none => trivial
    | some x => exact ev x
  -- the ways of running
  have val : ∀ {s : Sem Value} {v : Value}, execOp a.eval o = (do pure (.value (← s))) → s.run P w = .ok v w → ups = [] → RepD w (Ow own0 ρ H) ρ d' v → o.wp P a w K Q := by
    intro s v he hr hu hd
    subst hu
    unfold Oper.wp
    rw [he]
    simp only [Sem.run_bind, hr, Result.andThen_ok, Sem.run_pure, Oper.upon]
    exact hK v w ρ ⟨Step.refl hm, hd⟩
  have val2 : ∀ {s : Sem Value}, execOp a.eval o = (do pure (.value (← s))) → (ups = [] ∧ ∃ v, s.run P w = .ok v w ∧ RepD w (Ow own0 ρ H) ρ d' v) → o.wp P a w K Q := fun he ⟨hu, v, hr, hd⟩ => val he hr hu hd
  have mval : ∀ {s : Sem Value}, execOp a.eval o = (do pure (.value (← s))) → MRun P own0 mt w0 ρ H w s ups (fun w' ow' ρ' v => RepD w' ow' ρ' d' v) → o.wp P a w K Q := by
    rintro s he ⟨v, w', ρ', hr, hs, hd⟩
    unfold Oper.wp
    rw [he]
    simp only [Sem.run_bind, hr, Result.andThen_ok, Sem.run_pure, Oper.upon]
    exact hK v w' ρ' ⟨hs, hd⟩
  have munit : ∀ {s : Sem Unit}, d' = .top → execOp a.eval o = (do s; pure .skip) → MRun P own0 mt w0 ρ H w s ups (fun _ _ _ _ => True) → o.wp P a w K Q := by
    rintro s hd he ⟨v, w', ρ', hr, hs, _⟩
    unfold Oper.wp
    rw [he]
    simp only [Sem.run_bind, hr, Result.andThen_ok, Sem.run_pure, Oper.upon]
    exact hK _ w' ρ' ⟨hs, by subst hd; trivial⟩
  cases hop : o.op with
  | move x =>
    rw [hop] at hg
    obtain ⟨d1, h1, hg⟩ := need_gives hq hg
    have hg' : (d', ups) = (_, _) := hg
    obtain ⟨e1, e2⟩ := Prod.mk.inj hg'
    exact val (s := pure (a.eval x)) (by simp [execOp, hop]) rfl e2 (by rw [e1]; exact h1 _ (ev x))
  | assign x =>
    rw [hop] at hg
    obtain ⟨d1, h1, hg⟩ := need_gives hq hg
    have hg' : (d', ups) = (_, _) := hg
    obtain ⟨e1, e2⟩ := Prod.mk.inj hg'
    exact val (s := pure (a.eval x)) (by simp [execOp, hop]) rfl e2 (by rw [e1]; exact h1 _ (ev x))
  | pick c x y =>
    rw [hop] at hg
    obtain ⟨d1, h1, hg⟩ := need_gives hq hg
    obtain ⟨hu, v, hr, hd⟩ := pickE_sound hq (h1 _ (ev c)) (ev x) (ev y) (fun v h => by rw [h]; rfl) (fun v h => by rw [h]; rfl) hg
    exact val (s := do pure (if ← asBool (a.eval c) then a.eval x else a.eval y)) (by simp [execOp, hop]) hr hu hd
  | alloc t =>
    rw [hop] at hg
    obtain ⟨ty, hty, hg⟩ := withTy_gives hg
    have hg' : (d', ups) = (_, _) := hg
    obtain ⟨e1, e2⟩ := Prod.mk.inj hg'
    exact mval (s := Instr.alloc t true (.tuple #[])) (by simp only [execOp, hop]) (by rw [e1, e2]; exact alloc_sound hm hnx0 (hΓ _ _ hty))
  | box t x =>
    rw [hop] at hg
    obtain ⟨d1, h1, hg⟩ := need_gives hq hg
    split at hg
    · rename_i e
      have hg' : (d', ups) = (_, _) := hg
      obtain ⟨e1, e2⟩ := Prod.mk.inj hg'
      exact mval (s := Instr.box t (a.eval x)) (by simp only [execOp, hop]) (by rw [e1, e2]; exact newVar_sound hm hnx0 (e := e) (h1 _ (ev x)) t)
    · exact hg.elim
  | build t ps =>
    rw [hop] at hg
    obtain ⟨ty, hty, hg⟩ := withTy_gives hg
    obtain ⟨ds, hds, hg⟩ := needL_gives hq hg (evp ps.toList)
    exact val2 (by simp only [execOp, hop]) (build_sound hΓ (hΓ _ _ hty) (us := ps.map fun p => (p.1, a.eval p.2)) (by simpa using all2_parts hds) hg)
  | buildSlice t n ps =>
    rw [hop] at hg
    obtain ⟨ty, hty, hg⟩ := withTy_gives hg
    obtain ⟨ds, hds, hg⟩ := needL_gives hq hg (evp ps.toList)
    exact mval (by simp only [execOp, hop]) (buildSlice_sound hΓ hm hnx0 (hΓ _ _ hty) (us := ps.map fun p => (p.1, a.eval p.2)) (by simpa using all2_parts hds) hg)
  | load t x =>
    rw [hop] at hg
    obtain ⟨ty, hty, hg⟩ := withTy_gives hg
    obtain ⟨d1, h1, hg⟩ := need_gives hq hg
    exact val2 (by simp only [execOp, hop]) (load_sound hm (hΓ _ _ hty) hq hg (h1 _ (ev x)))
  | store t x y =>
    rw [hop] at hg
    obtain ⟨ty, hty, hg⟩ := withTy_gives hg
    obtain ⟨d1, h1, hg⟩ := need_gives hq hg
    obtain ⟨d2, h2, hg⟩ := need_gives hq hg
    obtain ⟨hd, hr⟩ := store_sound hm (hΓ _ _ hty) (h1 _ (ev x)) (h2 _ (ev y)) hg
    exact munit hd (by simp only [execOp, hop]) hr
  | nilCheck x =>
    rw [hop] at hg
    obtain ⟨d1, h1, hg⟩ := need_gives hq hg
    have hx := h1 _ (ev x)
    have key : ∀ ad, a.eval x = .pointer (some ad) → ups = [] → RepD w (Ow own0 ρ H) ρ d' (a.eval x) → o.wp P a w K Q := fun ad he hu hd =>
      val (s := pure (a.eval x)) (by simp [execOp, hop, he]) rfl hu hd
    split at hg
    · have hg' : (d', ups) = (_, _) := hg
      cases hg'
      have hx' := hx
      obtain ⟨bn, z, c, hp, he⟩ := hx
      exact key _ he rfl hx'
    · have hg' : (d', ups) = (_, _) := hg
      cases hg'
      have hx' := hx
      obtain ⟨ad, he, _⟩ := hx
      exact key _ he rfl hx'
    · have hg' : (d', ups) = (_, _) := hg
      cases hg'
      have hx' := hx
      obtain ⟨b, base, cap, hp, he⟩ := hx
      exact key _ he rfl hx'
    · exact hg.elim
  | binOp op t x y ty =>
    rw [hop] at hg
    obtain ⟨d1, h1, hg⟩ := need_gives hq hg
    obtain ⟨d2, h2, hg⟩ := need_gives hq hg
    exact val2 (by simp only [execOp, hop]) (binN_sound hΓ hq (h1 _ (ev x)) (h2 _ (ev y)) x y hg)
  | unOp op t x =>
    rw [hop] at hg
    obtain ⟨d1, h1, hg⟩ := need_gives hq hg
    unfold unQ at hg
    split at hg
    · exact (hg.1 hq).elim
    · exact val2 (by simp only [execOp, hop]) (unE_sound (h1 _ (ev x)) hg)
  | convert s t x =>
    rw [hop] at hg
    obtain ⟨d1, h1, hg⟩ := need_gives hq hg
    exact mval (by simp only [execOp, hop]) (conv_sound hΓ hm hnx0 (h1 _ (ev x)) hg)
  | slice t x lo hi mx =>
    rw [hop] at hg
    obtain ⟨ty, hty, hg⟩ := withTy_gives hg
    obtain ⟨d1, h1, hg⟩ := need_gives hq hg
    obtain ⟨l, hl, hg⟩ := needO_gives hq hg (evo lo)
    obtain ⟨h, hh, hg⟩ := needO_gives hq hg (evo hi)
    obtain ⟨m, hmx, hg⟩ := needO_gives hq hg (evo mx)
    unfold cutE at hg
    have hd : ∀ n e, ty.desc ≠ .array n e := by
      intro n e he
      have ns : (sliceE Γ ty q H nx d1 l h m).gives P (d', ups) → False := fun hg => by
        unfold sliceE at hg
        rw [he] at hg
        split at hg
        · split at hg <;> exact hg.elim
        · exact hg.elim
      split at hg
      · have nv : (viewE Γ ty q H nx d1 l h m).gives P (d', ups) → False := fun hg => by
          unfold viewE at hg
          rw [he] at hg
          split at hg
          · exact hg.elim
          · exact ns hg
        unfold viewFE at hg
        rw [he] at hg
        split at hg
        · split at hg
          · split at hg <;> exact hg.elim
          · exact nv hg
        · exact nv hg
      · exact ns hg
    have hmr : MRun P own0 mt w0 ρ H w (Instr.slice t (a.eval x) (lo.map a.eval) (hi.map a.eval) (mx.map a.eval)) ups fun w' ow' ρ' v => RepD w' ow' ρ' d' v := by
      split at hg
      · exact viewF_sound hΓ hm hnx0 (hΓ _ _ hty) hq (h1 _ (ev x)) hl hh hmx hg
      · exact slice_sound hΓ hm hnx0 (hΓ _ _ hty) hq (h1 _ (ev x)) hl hh hmx hg
    obtain ⟨v, w', ρ', hr, hs, hd'⟩ := hmr
    rw [← sliceAt_eq (hΓ _ _ hty) hd] at hr
    exact mval (by simp only [execOp, hop]) ⟨v, w', ρ', hr, hs, hd'⟩
  | makeSlice t l c =>
    rw [hop] at hg
    obtain ⟨ty, hty, hg⟩ := withTy_gives hg
    obtain ⟨d1, h1, hg⟩ := need_gives hq hg
    obtain ⟨d2, h2, hg⟩ := need_gives hq hg
    exact mval (by simp only [execOp, hop]) (makeSlice_sound hΓ hm hnx0 (hΓ _ _ hty) (h1 _ (ev l)) (h2 _ (ev c)) hg)
  | fieldAddr t x f =>
    rw [hop] at hg
    obtain ⟨ty, hty, hg⟩ := withTy_gives hg
    obtain ⟨d1, h1, hg⟩ := need_gives hq hg
    exact val2 (by simp only [execOp, hop]) (fieldAddr_sound hΓ (hΓ _ _ hty) (h1 _ (ev x)) hg)
  | field t x f =>
    rw [hop] at hg
    obtain ⟨ty, hty, hg⟩ := withTy_gives hg
    obtain ⟨d1, h1, hg⟩ := need_gives hq hg
    exact val2 (by simp only [execOp, hop]) (fieldE_sound hΓ (hΓ _ _ hty) hq (h1 _ (ev x)) hg)
  | indexAddr t x i =>
    rw [hop] at hg
    obtain ⟨ty, hty, hg⟩ := withTy_gives hg
    obtain ⟨d1, h1, hg⟩ := need_gives hq hg
    obtain ⟨d2, h2, hg⟩ := need_gives hq hg
    exact val2 (by simp only [execOp, hop]) (indexAddr_sound hΓ (hΓ _ _ hty) hq (h1 _ (ev x)) (h2 _ (ev i)) hg)
  | index t x i =>
    rw [hop] at hg
    obtain ⟨ty, hty, hg⟩ := withTy_gives hg
    obtain ⟨d1, h1, hg⟩ := need_gives hq hg
    obtain ⟨d2, h2, hg⟩ := need_gives hq hg
    exact val2 (by simp only [execOp, hop]) (index_sound hΓ (hΓ _ _ hty) hq (h1 _ (ev x)) (h2 _ (ev i)) hg)
  | extract x i =>
    rw [hop] at hg
    obtain ⟨d1, h1, hg⟩ := need_gives hq hg
    exact val2 (by simp only [execOp, hop]) (extract_sound (h1 _ (ev x)) hg)
  | call c =>
    rw [hop] at hg
    obtain ⟨ds, hds, hg⟩ := needL_gives hq hg (evs c.args.toList)
    split at hg
    · rename_i f hf
      have hargs : (c.args.map a.eval) = (c.args.toList.map a.eval).toArray := by apply Array.ext'; simp
      unfold Oper.wp
      rcases call_sound hm hnx hq hds hg fun args u1 p hp j hj1 hj2 => passDs_fresh hp (hnx j hj1 hj2) with ⟨hpl, hcall⟩ | ⟨v0, hrun, v, ρ', he, hs, hd⟩
      rotate_left
      · cases he
        have hx : (execOp a.eval o).run P w = .ok (.value v0) w := by
          rw [← hargs] at hrun
          simp [execOp, hop, resolve, hf, Act.eval, Deferred.ofValue, invoke, hrun]
        rw [hx]
        simp only [Oper.upon]
        exact hK v0 w ρ' ⟨hs, hd⟩
      have hx : (execOp a.eval o).run P w = .ok (.enter f (c.args.map a.eval)) w := by
        simp [execOp, hop, resolve, hf, Act.eval, Deferred.ofValue, invoke, run_callFunc hpl]
      rw [hx]
      simp only [Oper.upon]
      rw [hargs]
      refine hcall.mono ?_
      rintro e w' ⟨v, ρ', rfl, hs, hd⟩
      exact hK v w' ρ' ⟨hs, hd⟩
    · rename_i t ht'
      obtain ⟨d1, hd1, hg⟩ := need_gives hq hg
      have hu := hd1 _ (ht t)
      have go : ∀ (f : Nat) (ds' : List D) (us' : List Value) (caps : Array Value), a.tmps.getD t undef = .func (.func f) #[] caps → (c.args.map a.eval ++ caps) = us'.toArray → All2 (RepD w (Ow own0 ρ H) ρ) ds' us' → (callE (own f) H nx q f ds').gives P (d', ups) → o.wp P a w K Q := by
        intro f ds' us' caps he hargs hds hg
        unfold Oper.wp
        rcases call_sound hm hnx hq hds hg fun args u1 p hp j hj1 hj2 => passDs_fresh hp (hnx j hj1 hj2) with ⟨hpl, hcall⟩ | ⟨v0, hrun, v, ρ', hev, hs, hd⟩
        rotate_left
        · cases hev
          have hx : (execOp a.eval o).run P w = .ok (.value v0) w := by
            have he' : a.eval (.tmp t) = .func (.func f) #[] caps := he
            rw [← hargs] at hrun
            simp [execOp, hop, resolve, ht', he', Deferred.ofValue, invoke, hrun]
          rw [hx]
          simp only [Oper.upon]
          exact hK v0 w ρ' ⟨hs, hd⟩
        have hx : (execOp a.eval o).run P w = .ok (.enter f (c.args.map a.eval ++ caps)) w := by
          have he' : a.eval (.tmp t) = .func (.func f) #[] caps := he
          simp [execOp, hop, resolve, ht', he', Deferred.ofValue, invoke, run_callFunc hpl]
        rw [hx]
        simp only [Oper.upon]
        rw [hargs]
        refine hcall.mono ?_
        rintro e w' ⟨v, ρ', rfl, hs, hd⟩
        exact hK v w' ρ' ⟨hs, hd⟩
      have hargs : (c.args.map a.eval) = (c.args.toList.map a.eval).toArray := by apply Array.ext'; simp
      unfold callvE at hg
      split at hg
      · rename_i f caps
        obtain ⟨us, hue, hcaps⟩ := rep_f (ρ := ρ) (show RepV w _ (.f f caps) _ from hu)
        exact go f _ (c.args.toList.map a.eval ++ us) _ hue (by rw [hargs]; simp) (hds.append (All2.map_left hcaps)) hg
      · rename_i f
        exact go f _ (c.args.toList.map a.eval) #[] (rep_x hu).1 (by rw [hargs]; simp) hds hg
      · exact hg.elim
    · rename_i b hb
      have hx : ∀ s : Sem Value, builtin b c.argTypes o.type (c.args.map fun | .const _ => true | _ => false) (c.args.map a.eval) = (do pure (.value (← s))) → execOp a.eval o = (do pure (.value (← s))) := by
        intro s hs
        simp only [execOp, hop, resolve, hb, invoke, pure_bind]
        exact hs
      have hargs : (c.args.map a.eval) = (c.args.toList.map a.eval).toArray := by apply Array.ext'; simp
      unfold builtinE at hg
      split at hg
      · split at hg
        · rename_i d t hts
          obtain ⟨ty, hty, hg⟩ := withTy_gives hg
          generalize hus : c.args.toList.map a.eval = us at *
          match us, hds with
          | [u], ⟨h0, _⟩ =>
            exact val2 (hx _ (by rw [hargs]; rfl)) (len_sound (hΓ _ _ hty) h0 hts o.type hg)
        · exact hg.elim
      · split at hg
        · rename_i d t hts
          obtain ⟨ty, hty, hg⟩ := withTy_gives hg
          generalize hus : c.args.toList.map a.eval = us at *
          match us, hds with
          | [u], ⟨h0, _⟩ =>
            exact val2 (hx _ (by rw [hargs]; rfl)) (capF_sound hm (hΓ _ _ hty) h0 hts o.type hg)
        · exact hg.elim
      · split at hg
        · rename_i s x
          generalize hus : c.args.toList.map a.eval = us at *
          match us, hds with
          | [u, v], ⟨h0, h1, _⟩ =>
            unfold appE at hg
            split at hg
            · split at hg
              · exact mval (hx _ (by rw [hargs]; rfl)) (appendU_sound hΓ hm h0 h1 o.type hg)
              · exact hg.elim
            · exact mval (hx _ (by rw [hargs]; rfl)) (appendF_sound hΓ hm hnx0 h0 h1 o.type hg)
            exact mval (hx _ (by rw [hargs]; rfl)) (append_sound hΓ hm hnx0 h0 h1 o.type hg)
        · exact hg.elim
      · split at hg
        · rename_i r k off m
          generalize hus : c.args.toList.map a.eval = us at *
          match us, hds with
          | [u], ⟨h0, _⟩ =>
            exact mval (hx _ (by rw [hargs]; rfl)) (clear_sound hΓ hm h0 o.type hg)
        · exact hg.elim
      · split at hg
        · rename_i x y
          generalize hus : c.args.toList.map a.eval = us at *
          match us, hds with
          | [u, v], ⟨h0, h1, _⟩ =>
            exact mval (hx _ (by rw [hargs]; rfl)) (copy_sound hΓ hm h0 h1 o.type hg)
        · exact hg.elim
      · exact val2 (hx _ (by rw [hargs]; rfl)) (minE_sound (up := false) hds hg c.argTypes o.type)
      · exact val2 (hx _ (by rw [hargs]; rfl)) (minE_sound (up := true) hds hg c.argTypes o.type)
      · exact hg.elim
    · exact hg.elim
  | makeFunc fn first caps =>
    rw [hop] at hg
    obtain ⟨ds, hds, hg⟩ := needL_gives hq hg (evs caps.toList)
    have hargs : (caps.map a.eval) = (caps.toList.map a.eval).toArray := by apply Array.ext'; simp
    exact mval (s := Instr.makeFunc fn (first.map a.eval) (caps.map a.eval)) (by simp only [execOp, hop]) (by rw [hargs]; exact makeFunc_sound hm a.eval hds hg)
  | _ => rw [hop] at hg; exact hg.elim

end Eng
end Go.Proofs.YtllfgnhnooonfaaDoor
