/- Each operation does what the evaluator says: reads. -/
import Derived.Test.YtllfgnhnooonfaaDoorEngD
set_option autoImplicit false
set_option linter.unusedSimpArgs false
set_option linter.unusedVariables false
namespace Go.Proofs.YtllfgnhnooonfaaDoor
namespace Eng

variable {P : Program} {Γ : Nat → Option Ty} {own0 mt : Nat → Prop} {w0 w : World} {ow : Nat → Prop} {ρ : Nat → Option Pl} {H : Nat → Option Blk} {q : Bool}

/-- What is at hand: the types are as the table says. -/
def TysOk (P : Program) (Γ : Nat → Option Ty) : Prop := ∀ t ty, Γ t = some ty → TyOk P t ty

theorem all2_cells {k : Nat} {rows : List (List V)} {vs : Array Value} {base i off : Nat} (hlen : ∀ r, r ∈ rows → r.length = k) (hi : i < rows.length) 
    (h3 : ∀ (i : Nat) (r : List V) (j : Nat) (v : V), rows[i]? = some r → r[j]? = some v → ∃ x, vs[base + i * k + j]? = some x ∧ RepV w ow v x) (hoff : off ≤ k) :
    ∃ xs : List Value, All2 (RepV w ow) ((rows.getD i []).drop off) xs ∧ xs.length = k - off ∧ ∀ j v, xs[j]? = some v → vs[base + i * k + off + j]? = some v := by
  have hri : rows[i]? = some (rows.getD i []) := by simp [List.getD, hi]
  have hl : (rows.getD i []).length = k := hlen _ (List.mem_of_getElem? hri)
  refine ⟨(List.range (k - off)).map fun j => (vs[base + i * k + off + j]?).getD undef, ?_, by simp, ?_⟩
  · refine All2.of_get (by rw [List.length_drop, hl]; simp) fun j a b ha hb => ?_
    rw [List.getElem?_drop] at ha
    obtain ⟨x, hx, hv⟩ := h3 i _ _ a hri ha
    have hj : j < k - off := by
      have := (List.getElem?_eq_some_iff.1 hb).1; simpa using this
    simp [hj] at hb
    rw [show base + i * k + (off + j) = base + i * k + off + j by omega] at hx
    rw [hx] at hb; simp at hb; subst hb; exact hv
  · intro j v hv
    have hj : j < k - off := by
      have := (List.getElem?_eq_some_iff.1 hv).1; simpa using this
    simp [hj] at hv
    have hr : ((rows.getD i []))[off + j]? = some ((rows.getD i [])[off + j]'(by omega)) := List.getElem?_eq_getElem (by omega)
    obtain ⟨x, hx, _⟩ := h3 i _ _ _ hri hr
    rw [show base + i * k + (off + j) = base + i * k + off + j by omega] at hx
    rw [hx] at hv ⊢; simpa using hv

theorem row_of_blk {r k : Nat} {rows : List (List V)} {blk : Blk} (hblk : blk = .row k rows ∨ blk = .ice k rows) (hb : RepB w ow ρ r blk) :
    (∀ r, r ∈ rows → r.length = k) ∧ ∃ m, ρ r = some m ∧ match m with
    | .nil => rows = []
    | .blk b base cap => rows.length ≤ cap ∧ ∃ vs T fr, w.heap[b]? = some (.cells vs T fr) ∧ RFr k vs fr ∧ base + cap * k ≤ vs.size ∧
        ∀ (i : Nat) (r : List V) (j : Nat) (v : V), rows[i]? = some r → r[j]? = some v → ∃ x, vs[base + i * k + j]? = some x ∧ RepV w ow v x := by
  rcases hblk with rfl | rfl <;> exact hb

theorem cell_lit {b o : Nat} {vs : Array Value} {T : TypeId} {fr : Nat × Nat} (h : w.heap[b]? = some (.cells vs T fr)) : w.cell? ⟨b, o, none⟩ = vs[o]? := by
  simp [World.cell?, h]

theorem load_sound (hm : Mem own0 mt w0 ρ H w) {t : TypeId} {ty : Ty} (ht : TyOk P t ty) (hq : q = true) {d d' : D} {ups : Ups} (hg : (loadE ty H q d).gives P (d', ups)) {u : Value}
    (hd : RepD w (Ow own0 ρ H) ρ d u) : ups = [] ∧ ∃ v, (Instr.loadAt t u).run P w = .ok v w ∧ RepD w (Ow own0 ρ H) ρ d' v := by
  cases d with
  | p b off =>
    simp only [loadE] at hg
    split at hg
    · rename_i cs hb
      obtain ⟨hlen, hg⟩ := hg
      have hlen := hlen hq
      simp only [Tr.gives, Prod.mk.injEq] at hg
      obtain ⟨rfl, rfl⟩ := hg
      obtain ⟨bn, z, c, hp, rfl⟩ := hd
      obtain ⟨b', c', hp', vs, T, fr, hh, hf, ha⟩ := hm.blks b _ hb
      rw [hp] at hp'; cases hp'
      refine ⟨rfl, _, ?_, rep_pick1 (xs := (vs.toList.drop off)) (fun _ _ h => h) (ha.drop off) (by simp; omega) ht.one⟩
      have hl := ha.length
      simp only [Instr.loadAt, Instr.sureAddr, Sem.run_bind, Sem.run_pure, Result.andThen_ok]
      exact run_loadVar ht w _ _ (by simp; simp at hl; omega) ht.one fun j v hj => by
        rw [List.getElem?_take] at hj
        split at hj
        · rw [addr_add_lit, cell_lit hh]
          simpa [Nat.add_assoc] using hj
        · cases hj
    · exact hg.elim
  | q cs =>
    obtain ⟨hlen, hg⟩ := hg
    have hlen := hlen hq
    simp only [Tr.gives, Prod.mk.injEq] at hg
    obtain ⟨rfl, rfl⟩ := hg
    obtain ⟨ad, rfl, h⟩ := hd
    have hex : ∃ xs : List Value, All2 (RepV w (Ow own0 ρ H)) cs xs ∧ ∀ (j : Nat) v, xs[j]? = some v → w.cell? (ad.add j) = some v := by
      refine ⟨(List.range cs.length).map fun j => (w.cell? (ad.add j)).getD undef, All2.of_get (by simp) fun i a b ha hb => ?_, fun j v hv => ?_⟩
      · obtain ⟨x, hx, hv, _⟩ := h i a ha
        have : i < cs.length := (List.getElem?_eq_some_iff.1 ha).1
        simp [this, hx] at hb; subst hb; exact hv
      · have hj : j < cs.length := by have := (List.getElem?_eq_some_iff.1 hv).1; simpa using this
        obtain ⟨x, hx, _⟩ := h j _ (List.getElem?_eq_getElem hj)
        simp [hj, hx] at hv; rw [hx, hv]
    obtain ⟨xs, ha, hx⟩ := hex
    refine ⟨rfl, _, ?_, rep_pick1 (mk1 := .v) (xs := xs) (fun _ _ h => h) ha hlen ht.one⟩
    simp only [Instr.loadAt, Instr.sureAddr, Sem.run_bind, Sem.run_pure, Result.andThen_ok]
    have hl := ha.length
    exact run_loadVar ht w _ _ (by simp; omega) ht.one fun j v hj => by
      rw [List.getElem?_take] at hj
      split at hj
      · exact hx j v hj
      · cases hj
  | w r k i off =>
    have key : ∀ (k' : Nat) (rows : List (List V)) (blk : Blk), (blk = .row k' rows ∨ blk = .ice k' rows) → H r = some blk →
        (Tr.ask (q = true → k' = k ∧ i < rows.length ∧ off + ty.size ≤ k) (.ret (pick1 (isAggD ty.desc) ty.size .v (rowAt ty rows i off), []))).gives P (d', ups) →
        ups = [] ∧ ∃ v, (Instr.loadAt t u).run P w = .ok v w ∧ RepD w (Ow own0 ρ H) ρ d' v := by
      intro k' rows blk hblk hb hk
      obtain ⟨hlen, hk⟩ := hk
      obtain ⟨rfl, hi, hoff⟩ := hlen hq
      have hg' : (d', ups) = (_, []) := hk
      cases hg'
      obtain ⟨b, base, cap, hp, hu⟩ := hd
      subst hu
      obtain ⟨hrl, m, hm', h⟩ := row_of_blk hblk (hm.blks r _ hb)
      rw [hp] at hm'; cases hm'
      obtain ⟨_, vs, T, fr, hh, _, _, h3⟩ := h
      obtain ⟨xs, ha, hxl, hx⟩ := all2_cells (off := off) hrl hi h3 (by omega)
      have hrl' : (rows.getD i []).length = k' := hrl _ (by rw [List.getD, List.getElem?_eq_getElem hi]; simp)
      have hat : rowAt ty rows i off = (rows.getD i []).drop off := by unfold rowAt; rw [List.getD, List.getElem?_eq_getElem hi]; rfl
      rw [hat]
      refine ⟨rfl, _, ?_, rep_pick1 (mk1 := .v) (xs := xs) (fun _ _ h => h) ha (by rw [List.length_drop, hrl']; omega) ht.one⟩
      simp only [Instr.loadAt, Instr.sureAddr, Sem.run_bind, Sem.run_pure, Result.andThen_ok]
      exact run_loadVar ht w _ _ (by simp; omega) ht.one fun j v hj => by
        rw [List.getElem?_take] at hj
        split at hj
        · rw [addr_add_lit, cell_lit hh]; exact hx j v hj
        · cases hj
    unfold loadE at hg
    dsimp only at hg
    split at hg
    · rename_i k' rows hb; exact key k' rows _ (.inl rfl) hb hg
    · rename_i k' rows hb; exact key k' rows _ (.inr rfl) hb hg
    · exact hg.elim
  | e a => exact hg.elim
  | t es => exact hg.elim
  | g b d => exact hg.elim
  | top => exact hg.elim
  | u r k off n => exact hg.elim

end Eng
end Go.Proofs.YtllfgnhnooonfaaDoor

/-! Each operation does what the evaluator says: what touches no memory. -/
namespace Go.Proofs.YtllfgnhnooonfaaDoor
namespace Eng

variable {P : Program} {Γ : Nat → Option Ty} {own0 mt : Nat → Prop} {w0 w : World} {ow : Nat → Prop} {ρ : Nat → Option Pl} {H : Nat → Option Blk} {q : Bool}
  {d' : D} {ups : Ups}

theorem gives_x {v : Value} (hg : (Tr.ret (D.x v, ([] : Ups))).gives P (d', ups)) : ups = [] ∧ d' = .x v := by
  have : (d', ups) = (_, _) := hg; cases this; exact ⟨rfl, rfl⟩

/-- A scalar's run. -/
theorem ok_x {s : Sem Value} {v : Value} (hg : (Tr.ret (D.x v, ([] : Ups))).gives P (d', ups)) (hv : v.oneCell = true) (hr : s.run P w = .ok v w) :
    ups = [] ∧ ∃ v, s.run P w = .ok v w ∧ RepD w ow ρ d' v := by
  obtain ⟨rfl, rfl⟩ := gives_x hg
  exact ⟨rfl, v, hr, RepV.x _ hv⟩

theorem binI_sound {op : BinOp} {k : IntKind} {a b : Int} (t : TypeId) (hq : q = true) (hne : op ≠ .shl ∧ op ≠ .shr) (hg : (binI q op k a b).gives P (d', ups)) :
    ups = [] ∧ ∃ v, (Go.binOp op t (.int k a) (.int k b)).run P w = .ok v w ∧ RepD w ow ρ d' v := by
  cases op <;> first
    | exact hg.elim
    | exact absurd rfl hne.1
    | exact absurd rfl hne.2
    | (refine ok_x hg rfl ?_; simp [Go.binOp, Op.intArith, Op.intCmp, Op.intBits]; done)
    | (obtain ⟨h0, hg⟩ := hg; refine ok_x hg rfl ?_; simp [Go.binOp, Op.intDiv, h0 hq]; done)

theorem shiftI_sound {op : BinOp} {k k' : IntKind} {a b : Int} (t : TypeId) (hq : q = true) (hne : op = .shl ∨ op = .shr) (hg : (shiftI q op k a b).gives P (d', ups)) :
    ups = [] ∧ ∃ v, (Go.binOp op t (.int k a) (.int k' b)).run P w = .ok v w ∧ RepD w ow ρ d' v := by
  rcases hne with rfl | rfl
  all_goals
    obtain ⟨h0, hg⟩ := hg
    have hb : ¬ b < 0 := by have := h0 hq; omega
    refine ok_x hg rfl ?_
    simp [Go.binOp, Op.shift, hb]

theorem ba_toList (b : ByteArray) : b.toList = b.data.toList := ByteArray.toList_eq b

theorem binS_sound {op : BinOp} {a b : ByteArray} (t : TypeId) (hg : (binS op a b).gives P (d', ups)) :
    ups = [] ∧ ∃ v, (Go.binOp op t (.string a) (.string b)).run P w = .ok v w ∧ RepD w ow ρ d' v := by
  cases op <;> first
    | exact hg.elim
    | (refine ok_x hg rfl ?_; simp [Go.binOp, Op.stringOp, ba_toList]; done)
    | (obtain ⟨h0, hg⟩ := hg
       refine ok_x hg rfl ?_
       have h1 : ¬ (((a.size + b.size : Nat) : Int) > IntKind.i64.max) := by have : IntKind.i64.max = 9223372036854775807 := rfl; omega
       simp only [Go.binOp, Op.stringOp]
       rw [if_neg h1]; rfl)

theorem run_equal_bool {t : TypeId} {a b : Bool} (hu : P.underlying t = some .bool) : (Op.equal t (.bool a) (.bool b)).run P w = .ok (a == b) w := by
  have h : ∀ n, (Op.equalIn (n + 1) t (.bool a) (.bool b)).run P w = .ok (a == b) w := by
    intro n
    rw [Op.equalIn, Sem.run_bind, run_underlying hu]
    rfl
  exact h 9999

theorem binE_sound (hΓ : TysOk P Γ) {op : BinOp} {t : TypeId} {x y : D} {u v : Value} (hq : q = true) (hx : RepD w ow ρ x u) (hy : RepD w ow ρ y v) (X Y : Operand)
    (hg : (binE Γ q op t x y).gives P (d', ups)) :
    ups = [] ∧ ∃ r, (do eqGuard op t X Y u v; Go.binOp op t u v : Sem Value).run P w = .ok r w ∧ RepD w ow ρ d' r := by
  have guard : ∀ {u v : Value}, (∀ a, u ≠ .agg a) → u ≠ .nilIface → (eqGuard op t X Y u v).run P w = .ok () w := by
    intro u v h1 h2
    cases u <;> first
      | exact absurd rfl (h1 _)
      | exact absurd rfl h2
      | (cases op <;> rfl)
  have red : ∀ {u v : Value}, (∀ a, u ≠ .agg a) → u ≠ .nilIface → (do eqGuard op t X Y u v; Go.binOp op t u v : Sem Value).run P w = (Go.binOp op t u v).run P w := by
    intro u v h1 h2
    rw [Sem.run_bind, guard h1 h2]; rfl
  unfold binE at hg
  split at hg
  · rename_i k a k' b
    obtain ⟨rfl, _⟩ := rep_x hx
    obtain ⟨rfl, _⟩ := rep_x hy
    rw [red (by simp) (by simp)]
    split at hg
    · exact shiftI_sound t hq (.inl rfl) hg
    · exact shiftI_sound t hq (.inr rfl) hg
    · rename_i h1 h2
      split at hg
      · rename_i hk; subst hk
        exact binI_sound t hq ⟨h1, h2⟩ hg
      · exact hg.elim
  · obtain ⟨rfl, _⟩ := rep_x hx
    obtain ⟨rfl, _⟩ := rep_x hy
    rw [red (by simp) (by simp)]
    exact binS_sound t hg
  · obtain ⟨rfl, _⟩ := rep_x hx
    obtain ⟨rfl, _⟩ := rep_x hy
    rw [red (by simp) (by simp)]
    split at hg
    · rename_i ty hty
      have ht := hΓ _ _ hty
      split at hg
      · rename_i hd
        have hu := ht.under
        rw [hd] at hu
        split at hg
        · refine ok_x hg rfl ?_
          change (do pure (.bool (← Op.equal t _ _)) : Sem Value).run P w = _
          rw [Sem.run_bind, run_equal_bool hu]; rfl
        · refine ok_x hg rfl ?_
          change (do pure (.bool (!(← Op.equal t _ _))) : Sem Value).run P w = _
          rw [Sem.run_bind, run_equal_bool hu]; rfl
        · exact hg.elim
      · exact hg.elim
    · exact hg.elim
  · exact hg.elim

theorem unE_sound {op : UnOp} {x : D} {u : Value} (hx : RepD w ow ρ x u) (hg : (unE op x).gives P (d', ups)) :
    ups = [] ∧ ∃ r, (Op.unary op u).run P w = .ok r w ∧ RepD w ow ρ d' r := by
  unfold unE at hg
  split at hg
  · obtain ⟨rfl, _⟩ := rep_x hx; exact ok_x hg rfl (by simp [Op.unary])
  · obtain ⟨rfl, _⟩ := rep_x hx; exact ok_x hg rfl (by simp [Op.unary, Op.intArith])
  · obtain ⟨rfl, _⟩ := rep_x hx; exact ok_x hg rfl (by simp [Op.unary, Op.intBits])
  · exact hg.elim

theorem pickE_sound {c : D} {A B : Operand} {ea eb : D} {uc ua ub : Value} (hq : q = true) (hc : RepD w ow ρ c uc) (ha : RepD w ow ρ ea ua) (hb : RepD w ow ρ eb ub)
    (hA : ∀ v, A = .const v → ua = v) (hB : ∀ v, B = .const v → ub = v) (hg : (pickE q c A B ea eb).gives P (d', ups)) :
    ups = [] ∧ ∃ r, (do pure (if ← asBool uc then ua else ub) : Sem Value).run P w = .ok r w ∧ RepD w ow ρ d' r := by
  unfold pickE at hg
  split at hg
  · rename_i c
    obtain ⟨rfl, _⟩ := rep_x hc
    have key : ∀ {v : Bool} {x : Value}, (Tr.ret (D.x (.bool v), ([] : Ups))).gives P (d', ups) → x = .bool v → x = (if c then ua else ub) →
        ups = [] ∧ ∃ r, (do pure (if ← asBool (.bool c) then ua else ub) : Sem Value).run P w = .ok r w ∧ RepD w ow ρ d' r := by
      intro v x hg h1 h2
      refine ok_x hg rfl ?_
      rw [← h1, h2]
      simp [asBool]
    split at hg
    · have hub := hB _ rfl
      subst hub
      cases c with
      | false =>
        have : ∃ v : Bool, (Tr.ret (D.x (.bool (false && v)), ([] : Ups))).gives P (d', ups) := by
          unfold need at hg
          split at hg
          · obtain ⟨_, hg⟩ := hg
            dsimp only at hg
            split at hg
            · exact ⟨_, hg⟩
            · exact ⟨false, hg.2⟩
          · dsimp only at hg
            split at hg
            · exact ⟨_, hg⟩
            · exact ⟨false, hg.2⟩
        obtain ⟨v, hg⟩ := this
        exact key hg rfl (by simp)
      | true =>
        obtain ⟨d1, h1, hg⟩ := need_gives (by simpa using hq) hg
        have h1 := h1 _ ha
        split at hg
        · obtain ⟨rfl, _⟩ := rep_x h1; exact key hg rfl (by simp)
        · cases hg.1
    · split at hg
      · have hua := hA _ rfl
        subst hua
        cases c with
        | true =>
          have : ∃ v : Bool, (Tr.ret (D.x (.bool (true || v)), ([] : Ups))).gives P (d', ups) := by
            unfold need at hg
            split at hg
            · obtain ⟨_, hg⟩ := hg
              dsimp only at hg
              split at hg
              · exact ⟨_, hg⟩
              · exact ⟨true, hg.2⟩
            · dsimp only at hg
              split at hg
              · exact ⟨_, hg⟩
              · exact ⟨true, hg.2⟩
          obtain ⟨v, hg⟩ := this
          exact key hg rfl (by simp)
        | false =>
          obtain ⟨d1, h1, hg⟩ := need_gives (by simpa using hq) hg
          have h1 := h1 _ hb
          split at hg
          · obtain ⟨rfl, _⟩ := rep_x h1; exact key hg rfl (by simp)
          · cases hg.1
      · exact hg.elim
  · exact hg.elim

theorem shiftPtr_rep {off : Nat} {d d1 : D} {u : Value} (h : shiftPtr off d = some d1) (hd : RepD w ow ρ d u) : ∃ a, u = .pointer (some a) ∧ RepD w ow ρ d1 (.pointer (some (a.add off))) := by
  cases d <;> simp only [shiftPtr, Option.some.injEq, reduceCtorEq] at h
  · subst h; obtain ⟨bn, z, c, hp, rfl⟩ := hd
    exact ⟨_, rfl, bn, z, c, hp, by rw [addr_add_lit]; simp [Nat.add_assoc]⟩
  · subst h; rename_i cs
    obtain ⟨ad, rfl, h⟩ := hd
    refine ⟨ad, rfl, ad.add off, rfl, fun j v hj => ?_⟩
    rw [List.getElem?_drop] at hj
    obtain ⟨x, hx, hv, hn⟩ := h _ v hj
    refine ⟨x, ?_, hv, by rwa [addr_add_block]⟩
    by_cases hj0 : j = 0
    · subst hj0; simpa [Addr.add] using hx
    · rw [addr_add_add _ _ _ (.inl hj0)]; exact hx
  · subst h; obtain ⟨b, base, cap, hp, rfl⟩ := hd
    exact ⟨_, rfl, b, base, cap, hp, by rw [addr_add_lit]; simp [Nat.add_assoc]⟩

theorem fieldInfo_spec {t : TypeId} {ty : Ty} (ht : TyOk P t ty) {f off size : Nat} {agg : Bool} (h : fieldInfo Γ ty f = some (off, size, agg)) :
    ∃ fs fl tf, P.underlying t = some (.struct fs) ∧ fs[f]? = some fl ∧ Γ fl.type = some tf ∧ off = fl.offset ∧ size = tf.size ∧ agg = isAggD tf.desc := by
  unfold fieldInfo at h
  split at h
  · rename_i fs hdesc
    split at h
    · rename_i fl hfl
      split at h
      · rename_i tf htf
        cases h
        exact ⟨fs, fl, tf, by rw [← hdesc]; exact ht.under, hfl, htf, rfl, rfl, rfl⟩
      · cases h
    · cases h
  · cases h

theorem fieldAddr_sound (hΓ : TysOk P Γ) {t : TypeId} {ty : Ty} (ht : TyOk P t ty) {f : Nat} {d : D} {u : Value} (hd : RepD w ow ρ d u) (hg : (fieldAddrE Γ ty f d).gives P (d', ups)) :
    ups = [] ∧ ∃ r, (Instr.fieldAt t u f).run P w = .ok r w ∧ RepD w ow ρ d' r := by
  unfold fieldAddrE at hg
  split at hg
  · rename_i off size agg hfi
    obtain ⟨fs, fl, tf, hu, hfl, htf, rfl, rfl, rfl⟩ := fieldInfo_spec ht hfi
    obtain ⟨hsz, hg⟩ := hg
    split at hg
    · rename_i d1 hs
      have hg' : (d', ups) = (_, _) := hg
      cases hg'
      obtain ⟨a, rfl, hr⟩ := shiftPtr_rep hs hd
      refine ⟨rfl, _, ?_, hr⟩
      simp [Instr.fieldAt, run_underlying hu, hfl, Instr.sureAddr, fieldPlace, run_sizeOf (hΓ _ _ htf), hsz]
    · exact hg.elim
  · exact hg.elim

theorem part_sound {t : TypeId} {ty : Ty} (ht : TyOk P t ty) {cs : List C} {us : List Value} {off : Nat} (h : All2 (RepC w ow ρ) cs us) (hl : off + ty.size ≤ cs.length) (hsz : ty.size ≠ 0) :
    ∃ r, (part t us.toArray off).run P w = .ok r w ∧ RepD w ow ρ (pick1 (isAggD ty.desc) ty.size id (cs.drop off)) r := by
  have hlen := h.length
  refine ⟨_, ?_, rep_pick1 (xs := us.drop off) (fun _ _ h => h) (h.drop off) (by simp; omega) ht.one⟩
  unfold part
  rw [Sem.run_bind, run_isAgg ht]
  simp only [Result.andThen_ok]
  cases hd : isAggD ty.desc with
  | true =>
    simp [run_sizeOf ht]
  | false =>
    have h1 := ht.one hd
    have hlt : off < us.length := by omega
    simp [hlt, h1, List.head?_take, List.head?_drop]

theorem fieldE_sound (hΓ : TysOk P Γ) {t : TypeId} {ty : Ty} (ht : TyOk P t ty) {f : Nat} {d : D} {u : Value} (hq : q = true) (hd : RepD w ow ρ d u) (hg : (fieldE Γ ty f q d).gives P (d', ups)) :
    ups = [] ∧ ∃ r, (Instr.field t u f).run P w = .ok r w ∧ RepD w ow ρ d' r := by
  unfold fieldE at hg
  split at hg
  · rename_i off size agg hfi
    obtain ⟨fs, fl, tf, hu, hfl, htf, rfl, rfl, rfl⟩ := fieldInfo_spec ht hfi
    split at hg
    · rename_i cs
      obtain ⟨hl, hg⟩ := hg
      have hl := hl hq
      have hg' : (d', ups) = (_, _) := hg
      cases hg'
      obtain ⟨us, rfl, ha⟩ := hd
      obtain ⟨r, hr, hrep⟩ := part_sound (P := P) (hΓ _ _ htf) ha hl.1 hl.2
      refine ⟨rfl, r, ?_, hrep⟩
      simp [Instr.field, run_underlying hu, hfl, asAgg, hr]
    · exact hg.elim
  · exact hg.elim

theorem among_gives {α : Type} {i : Int} {f : Nat → Tr α} {x : α} (hq : q = true) : ∀ {n : Nat}, (among q i f n).gives P x → ∃ j, j < n ∧ i = (j : Int) ∧ (f j).gives P x
  | 0, h => h.elim
  | 1, h => ⟨0, by omega, h.1 hq, h.2⟩
  | n + 2, h => by
    change (if decide (i = ((n + 1 : Nat) : Int)) = true then (f (n + 1)).gives P x else (among q i f (n + 1)).gives P x) at h
    split at h
    · rename_i hd; exact ⟨n + 1, by omega, by simpa using hd, h⟩
    · obtain ⟨j, hj, hi, hf⟩ := among_gives hq h; exact ⟨j, by omega, hi, hf⟩

theorem extract_sound {i : Nat} {d : D} {u : Value} (hd : RepD w ow ρ d u) (hg : (extractE i d).gives P (d', ups)) :
    ups = [] ∧ ∃ r, (Instr.extract u i).run P w = .ok r w ∧ RepD w ow ρ d' r := by
  unfold extractE at hg
  split at hg
  · split at hg
    · rename_i e he
      have hg' : (d', ups) = (_, _) := hg
      cases hg'
      obtain ⟨us, rfl, h⟩ := hd
      obtain ⟨b, hb, hr⟩ := h.get he
      exact ⟨rfl, b, by simp [Instr.extract, hb], hr⟩
    · exact hg.elim
  · exact hg.elim

theorem convE_sound (hΓ : TysOk P Γ) {s t : TypeId} {d : D} {u : Value} (hd : RepD w ow ρ d u) (hg : (convE Γ s t d).gives P (d', ups)) :
    ups = [] ∧ ∃ r, (Go.convert s t u).run P w = .ok r w ∧ RepD w ow ρ d' r := by
  unfold convE at hg
  split at hg
  · rename_i sd td hs ht
    have hs' := (hΓ _ _ hs).under
    have ht' := (hΓ _ _ ht).under
    split at hg
    · rename_i hdesc
      rw [hdesc] at ht'
      obtain ⟨rfl, _⟩ := rep_x hd
      refine ok_x hg rfl ?_
      simp [Go.convert, run_underlying hs', run_underlying ht', Conv.intToInt]
    · rename_i hdesc
      rw [hdesc] at ht'
      obtain ⟨rfl, _⟩ := rep_x hd
      refine ok_x hg rfl ?_
      simp [Go.convert, run_underlying hs', run_underlying ht']
    · rename_i hdesc
      rw [hdesc] at ht'
      obtain ⟨rfl, _⟩ := rep_x hd
      refine ok_x hg rfl ?_
      simp [Go.convert, run_underlying hs', run_underlying ht', Conv.intToString]
    · exact hg.elim
  · exact hg.elim

end Eng
end Go.Proofs.YtllfgnhnooonfaaDoor
