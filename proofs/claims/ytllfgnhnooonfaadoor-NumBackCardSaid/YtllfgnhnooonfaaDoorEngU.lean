/- Operations one behind the other, in the text's order. -/
import Derived.Test.YtllfgnhnooonfaaDoorEngT
set_option autoImplicit false
set_option linter.unusedSimpArgs false
set_option linter.unusedVariables false
namespace Go.Proofs.YtllfgnhnooonfaaDoor
namespace Eng

def putE (En : Nat → D) (dst : Option Tmp) (d : D) : Nat → D :=
  match dst with
  | some t => upd En t d
  | none => En

def dstL : List Oper → List (Option Tmp)
  | [] => []
  | o :: r => o.dst :: dstL r

theorem dstL_get : ∀ (l : List Oper) (j : Nat), ((dstL l)[j]?).bind id = (l[j]?).bind (·.dst)
  | [], j => by simp [dstL]
  | o :: r, 0 => by simp [dstL]
  | o :: r, j + 1 => by simpa [dstL] using dstL_get r j

theorem dsts_get (ops : Array Oper) (j : Nat) : ((dstL ops.toList)[j]?).bind id = (ops[j]?).bind (·.dst) := by
  rw [dstL_get]; simp

/-- Is a guarded operation wanted? -/
def guardB (ds : List (Option Tmp)) (En : Nat → D) (g : Nat × Bool) : Option Bool :=
  match (ds[g.1]?).bind id with
  | some t => match En t with
    | .x (.bool b) => some (b == g.2)
    | .g c (.x (.bool b)) => some (c && (b == g.2))
    | _ => none
  | none => none

def small (n : Nat) (ups : Ups) : Bool := ups.all fun u => decide (u.1 < n)

/-- One operation of a region, evaluated: what holds behind it. -/
def stepS (P : Program) (Γ : Nat → Option Ty) (own : Nat → Bool) (ds : List (Option Tmp)) (o : Oper) (En : Nat → D) (H : Nat → Option Blk) (nx : Nat) (K : D → Ups → Prop) : Prop :=
  match o.guard with
  | none => (opE Γ own o.op En H nx true).sat P fun x => small (nx + 64) x.2 = true ∧ K x.1 x.2
  | some g => match guardB ds En g with
    | none => False
    | some q => (opE Γ own o.op En H nx q).sat P fun x => match x.2 with
      | [] => K (.g q x.1) []
      | u :: us => (q = true → small (nx + 64) (u :: us) = true ∧ K x.1 (u :: us)) ∧ (q = false → K .top [])

/-- What one operation gives. -/
def StepG (P : Program) (Γ : Nat → Option Ty) (own : Nat → Bool) (ds : List (Option Tmp)) (o : Oper) (En : Nat → D) (H : Nat → Option Blk) (nx : Nat) (d : D) (ups : Ups) : Prop :=
  small (nx + 64) ups = true ∧ match o.guard with
  | none => (opE Γ own o.op En H nx true).gives P (d, ups)
  | some g => ∃ q, guardB ds En g = some q ∧ ((∃ d0, (opE Γ own o.op En H nx q).gives P (d0, []) ∧ d = .g q d0 ∧ ups = []) ∨ (q = true ∧ (opE Γ own o.op En H nx q).gives P (d, ups)) ∨ (q = false ∧ d = .top ∧ ups = []))

variable {P : Program} {Γ : Nat → Option Ty} {own : Nat → Bool} {ops : Array Oper} {own0 mt : Nat → Prop} {w0 w w' : World} {ρ0 ρ ρ' : Nat → Option Pl} {En En' : Nat → D} {H H' : Nat → Option Blk}

theorem stepS_gives {ds : List (Option Tmp)} {o : Oper} {nx : Nat} {K : D → Ups → Prop} (h : stepS P Γ own ds o En H nx K) : ∃ d ups, StepG P Γ own ds o En H nx d ups ∧ K d ups := by
  unfold stepS at h
  cases hg : o.guard with
  | none =>
    rw [hg] at h
    obtain ⟨x, hx, hs, hk⟩ := Tr.sat_gives h
    exact ⟨x.1, x.2, ⟨hs, by rw [hg]; exact hx⟩, hk⟩
  | some g =>
    rw [hg] at h
    dsimp only at h
    cases hb : guardB ds En g with
    | none => rw [hb] at h; exact h.elim
    | some q =>
      rw [hb] at h
      obtain ⟨⟨d, ups⟩, hx, hk⟩ := Tr.sat_gives h
      cases ups with
      | nil => exact ⟨_, _, ⟨rfl, by rw [hg]; exact ⟨q, hb, .inl ⟨d, hx, rfl, rfl⟩⟩⟩, hk⟩
      | cons u us =>
        cases q with
        | true => obtain ⟨hs, hk⟩ := hk.1 rfl; exact ⟨_, _, ⟨hs, by rw [hg]; exact ⟨true, hb, .inr (.inl ⟨rfl, hx⟩)⟩⟩, hk⟩
        | false => exact ⟨_, _, ⟨rfl, by rw [hg]; exact ⟨false, hb, .inr (.inr ⟨rfl, rfl, rfl⟩)⟩⟩, hk.2 rfl⟩

theorem getD_some {ts : Array Value} {t : Nat} {v : Value} (h : ts.getD t undef = v) (hv : v ≠ undef) : ts[t]? = some v := by
  rw [Array.getD_eq_getD_getElem?] at h
  cases hs : ts[t]? with
  | none => rw [hs] at h; exact absurd h.symm hv
  | some x => rw [hs] at h; simp at h; rw [h]

theorem guardB_sound {a : Act} (ht : ∀ t, RepD w (Ow own0 ρ H) ρ (En t) (a.tmps.getD t undef)) {o : Oper} {g : Nat × Bool} (hg : o.guard = some g) {q : Bool} (h : guardB (dstL ops.toList) En g = some q) :
    Region.wanted o (yielded ops a.tmps) = q := by
  unfold guardB at h
  rw [dsts_get] at h
  split at h
  · rename_i t hd
    have htt := ht t
    have hy : ∀ b : Bool, a.tmps.getD t undef = .bool b → yielded ops a.tmps g.1 = some b := fun b hb => by
      have := getD_some hb (by intro h; cases h)
      simp [yielded, hd, this]
    split at h
    · rename_i b he
      rw [he] at htt
      cases h
      have := hy b (rep_x htt).1
      simp only [Region.wanted, hg, this]
      cases b <;> cases g.2 <;> rfl
    · rename_i c b he
      rw [he] at htt
      cases h
      obtain ⟨h1, h2⟩ := htt
      cases c with
      | true =>
        have := hy b (rep_x (h1 rfl)).1
        simp only [Region.wanted, hg, this]
        cases b <;> cases g.2 <;> rfl
      | false =>
        have hu := h2 rfl
        have : yielded ops a.tmps g.1 = none := by
          simp only [yielded, hd, Option.bind_some]
          rw [Array.getD_eq_getD_getElem?] at hu
          cases hs : a.tmps[t]? with
          | none => rfl
          | some x => rw [hs] at hu; simp at hu; subst hu; rfl
        simp [Region.wanted, hg, this]
    · cases h
  · cases h

/-- All temporaries, and memory, are as the evaluator says. -/
structure Now (own0 mt : Nat → Prop) (w0 : World) (ρ0 : Nat → Option Pl) (N : Nat) (En : Nat → D) (H : Nat → Option Blk) (nx : Nat) (a : Act) (w : World) : Prop where
  rel : ∃ ρ, Rel own0 mt w0 ρ0 N ρ En H a w
  fresh : ∀ j, nx ≤ j → H j = none

theorem Rel.put {N : Nat} {a : Act} (hr : Rel own0 mt w0 ρ0 N ρ En H a w) {ups : Ups} (hs : Step own0 mt w0 ρ H w ρ' (updL H ups) w') {dst : Option Tmp} (hN : ∀ t, dst = some t → t < N) {d : D} {v : Value} (hd : RepD w' (Ow own0 ρ' (updL H ups)) ρ' d v) :
    Rel own0 mt w0 ρ0 N ρ' (putE En dst d) (updL H ups) (a.put dst v) w' where
  defers := by cases dst <;> exact hr.defers
  base := hr.base.trans hs.sub
  size := by cases dst <;> simp [Act.put, hr.size]
  tmps t := by
    cases dst with
    | none => exact hs.rep (hr.tmps t)
    | some t' =>
      by_cases e : t = t'
      · subst e
        have hlt := hN t rfl
        have : (a.put (some t) v).tmps.getD t undef = v := by
          rw [Array.getD_eq_getD_getElem?]
          simp only [Act.put]
          rw [Array.getElem?_setIfInBounds_self_of_lt (by rw [hr.size]; exact hlt)]
          rfl
        rw [this]; simpa [putE] using hd
      · have : (a.put (some t') v).tmps.getD t undef = a.tmps.getD t undef := by
          rw [Array.getD_eq_getD_getElem?, Array.getD_eq_getD_getElem?]
          simp only [Act.put]
          rw [Array.getElem?_setIfInBounds_ne (fun h => e h.symm)]
        rw [this]
        simp only [putE, upd_other _ _ e]
        exact hs.rep (hr.tmps t)
  mem := hs.mem

/-- One operation runs as the evaluator says. -/
theorem step_run (hΓ : TysOk P Γ) {N : Nat} {a : Act} (hr : Rel own0 mt w0 ρ0 N ρ En H a w) {i : Nat} {o : Oper} (ho : ops[i]? = some o) (hN : ∀ t, o.dst = some t → t < N) {nx : Nat} (hnx : ∀ j, nx ≤ j → j < nx + 64 → H j = none)
    {d : D} {ups : Ups} (hg : StepG P Γ own (dstL ops.toList) o En H nx d ups) (K : Act → World → Prop) (Q : Exit → Act → World → Prop) (hK : ∀ ρ' a' w', Rel own0 mt w0 ρ0 N ρ' (putE En o.dst d) (updL H ups) a' w' → K a' w') :
    wpOp P ops Q i K a w := by
  unfold wpOp
  simp only [ho]
  obtain ⟨_, hg⟩ := hg
  cases hgd : o.guard with
  | none =>
    rw [hgd] at hg
    have hw : Region.wanted o (yielded ops a.tmps) = true := by simp [Region.wanted, hgd]
    rw [if_pos hw]
    exact .inl (op_sound hΓ hr.mem hr.tmps hnx rfl hg K Q fun v w' ρ' h => hK ρ' _ w' (hr.put h.step hN h.rep))
  | some g =>
    rw [hgd] at hg
    obtain ⟨q, hb, hg⟩ := hg
    have hw := guardB_sound hr.tmps hgd hb
    cases q with
    | true =>
      rw [if_pos hw]
      rcases hg with ⟨d0, hg, rfl, rfl⟩ | ⟨_, hg⟩ | ⟨hf, _⟩
      · exact .inl (op_sound hΓ hr.mem hr.tmps hnx rfl hg K Q fun v w' ρ' h => hK ρ' _ w' (hr.put h.step hN ⟨fun _ => h.rep, fun h => by cases h⟩))
      · exact .inl (op_sound hΓ hr.mem hr.tmps hnx rfl hg K Q fun v w' ρ' h => hK ρ' _ w' (hr.put h.step hN h.rep))
      · cases hf
    | false =>
      rw [if_neg (by rw [hw]; simp)]
      have h0 : ∀ d, RepD w (Ow own0 ρ H) ρ d undef → d = d → K (a.put o.dst undef) w → K (a.put o.dst undef) w := fun _ _ _ h => h
      rcases hg with ⟨d0, hg, rfl, rfl⟩ | ⟨hf, _⟩ | ⟨_, rfl, rfl⟩
      · exact hK ρ _ w (hr.put (ups := []) (Step.refl hr.mem) hN ⟨(fun h => by cases h), fun _ => rfl⟩)
      · cases hf
      · exact hK ρ _ w (hr.put (ups := []) (Step.refl hr.mem) hN trivial)

/-- The operations of a region, one behind the other; 'hist': what each looks at and changes. -/
def goS (P : Program) (Γ : Nat → Option Ty) (own : Nat → Bool) (ds : List (Option Tmp)) (K : (Nat → D) → (Nat → Option Blk) → List (List Nat × List Nat) → Prop) : Nat → List Oper → (Nat → D) → (Nat → Option Blk) → List (List Nat × List Nat) → Prop
  | _, [], En, H, hist => K En H hist
  | nx, o :: r, En, H, hist => stepS P Γ own ds o En H nx fun d ups => goS P Γ own ds K (nx + 64) r (putE En o.dst d) (updL H ups) (hist ++ [(touch (opDs En o.op) H, ups.map (·.1))])

/-- Is a slice nil? -/
def isNilOp : Op → Option (TypeId × Operand × Bool)
  | .binOp .eql t x (.const (.slice none 0 0)) _ => some (t, x, false)
  | .binOp .neq t x (.const (.slice none 0 0)) _ => some (t, x, true)
  | _ => none

def nilS (Γ : Nat → Option Ty) (t : TypeId) (d : D) (neg : Bool) (K : D → Prop) : Prop :=
  match Γ t with
  | some ty => match ty.desc with
    | .slice _ => match d with
      | .e (.c (.v (.s _ rows))) => ∀ b : Bool, (b = true → rows = []) → K (.x (.bool (if neg then !b else b)))
      | .e (.c (.o _ n)) => ∀ b : Bool, (b = true → n = 0) → K (.x (.bool (if neg then !b else b)))
      | .e (.c (.v (.x (.slice none 0 0)))) => K (.x (.bool (!neg)))
      | _ => False
    | _ => False
  | none => False

def goN (P : Program) (Γ : Nat → Option Ty) (own : Nat → Bool) (ds : List (Option Tmp)) (K : (Nat → D) → (Nat → Option Blk) → Nat → Prop) : Nat → List Oper → (Nat → D) → (Nat → Option Blk) → Prop
  | nx, [], En, H => K En H nx
  | nx, o :: r, En, H => match isNilOp o.op, o.guard with
    | some (t, x, neg), none => nilS Γ t (evO En x) neg fun d => goN P Γ own ds K (nx + 64) r (putE En o.dst d) H
    | _, _ => stepS P Γ own ds o En H nx fun d ups => goN P Γ own ds K (nx + 64) r (putE En o.dst d) (updL H ups)

theorem run_equal_nil {t e : TypeId} {a : Option Addr} {n c : Nat} (hu : P.underlying t = some (.slice e)) : (Op.equal t (.slice a n c) (.slice none 0 0)).run P w = .ok a.isNone w := by
  have h : ∀ k, (Op.equalIn (k + 1) t (.slice a n c) (.slice none 0 0)).run P w = .ok a.isNone w := by
    intro k
    rw [Op.equalIn, Sem.run_bind, run_underlying hu]
    cases a <;> rfl
  exact h 9999

theorem isNilOp_spec {op : Op} {t : TypeId} {x : Operand} {neg : Bool} (h : isNilOp op = some (t, x, neg)) : ∃ ty, op = .binOp (if neg then .neq else .eql) t x (.const (.slice none 0 0)) ty := by
  unfold isNilOp at h
  split at h
  · cases h; exact ⟨_, rfl⟩
  · cases h; exact ⟨_, rfl⟩
  · cases h

/-- The run of a test for nil. -/
theorem nil_run (hΓ : TysOk P Γ) {N : Nat} {a : Act} (hr : Rel own0 mt w0 ρ0 N ρ En H a w) {i : Nat} {o : Oper} (ho : ops[i]? = some o) (hN : ∀ t, o.dst = some t → t < N) (hgd : o.guard = none) {t : TypeId} {x : Operand} {neg : Bool} (hop : isNilOp o.op = some (t, x, neg))
    {K' : D → Prop} (h : nilS Γ t (evO En x) neg K') (K : Act → World → Prop) (Q : Exit → Act → World → Prop) (hK : ∀ d a' , K' d → Rel own0 mt w0 ρ0 N ρ (putE En o.dst d) H a' w → K a' w) : wpOp P ops Q i K a w := by
  obtain ⟨ty', hop⟩ := isNilOp_spec hop
  unfold wpOp
  simp only [ho]
  have hw : Region.wanted o (yielded ops a.tmps) = true := by simp [Region.wanted, hgd]
  rw [if_pos hw]
  refine .inl ?_
  unfold nilS at h
  split at h
  · rename_i ty hty
    have hu := (hΓ _ _ hty).under
    split at h
    · rename_i e hdesc
      rw [hdesc] at hu
      have hx := rep_evO hr.tmps x
      have key : ∀ (ad : Option Addr) (n c : Nat), a.eval x = .slice ad n c → K' (.x (.bool (if neg then !ad.isNone else ad.isNone))) → o.wp P a w K Q := by
        intro ad n c he hk
        unfold Oper.wp
        have hcn : a.eval (.const (.slice none 0 0)) = .slice none 0 0 := rfl
        have hrun : (execOp a.eval o).run P w = .ok (.value (.bool (if neg then !ad.isNone else ad.isNone))) w := by
          cases neg
          · simp only [Bool.false_eq_true, if_false] at hop ⊢
            simp [execOp, hop, he, hcn, eqGuard, Go.binOp, run_equal_nil hu]
          · simp only [if_true] at hop ⊢
            simp [execOp, hop, he, hcn, eqGuard, Go.binOp, run_equal_nil hu]
        rw [hrun]
        simp only [Oper.upon]
        exact hK _ _ hk (hr.put (ups := []) (Step.refl hr.mem) hN (RepV.x _ rfl))
      split at h
      · rename_i k rows heq
        rw [heq] at hx
        obtain ⟨ad, c, he, _, hz, _⟩ := rep_s (show RepV w _ (.s k rows) _ from hx)
        exact key ad _ c he (h ad.isNone fun hb => hz (by simpa using hb))
      · rename_i r n heq
        rw [heq] at hx
        obtain ⟨m, _, hc⟩ := hx
        cases m with
        | nil => obtain ⟨h0, ad, he⟩ := hc; exact key ad 0 0 he (h ad.isNone fun _ => h0)
        | blk b base cap => obtain ⟨he, _⟩ := hc; exact key _ _ _ he (h false fun hb => by cases hb)
      · rename_i heq
        rw [heq] at hx
        have he := rep_nil hx
        refine key none 0 0 he ?_
        cases neg <;> simpa using h
      · exact h.elim
    · exact h.elim
  · exact h.elim

theorem small_spec {n : Nat} {ups : Ups} (h : small n ups = true) {u : Nat × Blk} (hu : u ∈ ups) : u.1 < n := by
  have := List.all_eq_true.1 h u hu
  simpa using this

theorem updL_notin {ups : Ups} {j : Nat} {h : Nat → Option Blk} (hn : ∀ u, u ∈ ups → u.1 ≠ j) : updL h ups j = h j := by
  induction ups generalizing h with
  | nil => rfl
  | cons u r ih => exact (ih fun u hu => hn u (by simp [hu])).trans (upd_other _ _ fun e => hn u (by simp) e.symm)

def dstOk (N : Nat) (ops : Array Oper) : Bool := ops.all fun o => match o.dst with | some t => decide (t < N) | none => true

theorem dstOk_spec {N i : Nat} {o : Oper} (h : dstOk N ops = true) (ho : ops[i]? = some o) {t : Nat} (ht : o.dst = some t) : t < N := by
  have := Array.all_eq_true_iff_forall_mem.1 h o (Array.mem_of_getElem? ho)
  simpa [ht] using this

/-- A region whose order is the text's. -/
theorem region_text (hΓ : TysOk P Γ) {N : Nat} {a : Act} {nx : Nat} (hn : Now own0 mt w0 ρ0 N En H nx a w) (hN : dstOk N ops = true) {K : (Nat → D) → (Nat → Option Blk) → Nat → Prop} (h : goN P Γ own (dstL ops.toList) K nx ops.toList En H)
    {id : Nat} {Q : Exit → Act → World → Prop} (hQ : ∀ En' H' nx' a' w', K En' H' nx' → Now own0 mt w0 ρ0 N En' H' nx' a' w' → Q .normal a' w') : (Code.region id ops false).wp P Q a w := by
  refine wp_region ?_
  have key : ∀ (rest : List Oper) (i nx : Nat) (En : Nat → D) (H : Nat → Option Blk) (a : Act) (w : World), (∀ k, rest[k]? = ops[i + k]?) → Now own0 mt w0 ρ0 N En H nx a w → goN P Γ own (dstL ops.toList) K nx rest En H →
      wpOps P ops Q (List.range' i rest.length) a w := by
    intro rest
    induction rest with
    | nil => intro i nx En H a w _ hn h; exact hQ _ _ _ _ _ h hn
    | cons o r ih =>
      intro i nx En H a w hr hn h
      rw [List.length_cons, List.range'_succ, wpOps_cons]
      have ho : ops[i]? = some o := by have := hr 0; simpa using this.symm
      obtain ⟨ρ, hrel⟩ := hn.rel
      have hr' : ∀ k, r[k]? = ops[i + 1 + k]? := fun k => by have := hr (k + 1); simpa [Nat.add_assoc, Nat.add_comm 1] using this
      have step : (stepS P Γ own (dstL ops.toList) o En H nx fun d ups => goN P Γ own (dstL ops.toList) K (nx + 64) r (putE En o.dst d) (updL H ups)) → wpOp P ops Q i (wpOps P ops Q (List.range' (i + 1) r.length)) a w := by
        intro h
        obtain ⟨d, ups, hg, hk⟩ := stepS_gives h
        refine step_run hΓ hrel ho (fun t ht => dstOk_spec hN ho ht) (fun j hj _ => hn.fresh j hj) hg _ Q fun ρ' a' w' hrel' => ?_
        refine ih (i + 1) (nx + 64) _ _ a' w' hr' ⟨⟨ρ', hrel'⟩, fun j hj => ?_⟩ hk
        rw [updL_notin fun u hu => by have := small_spec hg.1 hu; omega]
        exact hn.fresh j (by omega)
      simp only [goN] at h
      split at h
      · rename_i t x neg hop hgd
        exact nil_run hΓ hrel ho (fun t ht => dstOk_spec hN ho ht) hgd hop h _ Q fun d a' hk hrel' => ih (i + 1) (nx + 64) _ _ a' w hr' ⟨⟨ρ, hrel'⟩, fun j hj => hn.fresh j (by omega)⟩ hk
      · exact step h
  have := key ops.toList 0 nx En H a w (fun k => by simp) hn h
  rw [List.range_eq_range']
  simpa using this

end Eng
end Go.Proofs.YtllfgnhnooonfaaDoor
