/- Each operation does what the evaluator says: reads. -/
import Derived.Test.YtgpjbcgbjpmgaaaEngD
set_option autoImplicit false
set_option linter.unusedSimpArgs false
set_option linter.unusedVariables false
namespace Go.Proofs.Ytgpjbcgbjpmgaaa
namespace Eng

variable {P : Program} {Γ : Nat → Option Ty} {own0 mt : Nat → Prop} {w0 w : World} {ow : Nat → Prop} {ρ : Nat → Option Pl} {H : Nat → Option Blk} {q : Bool}

/-- What is at hand: the types are as the table says. -/
def TysOk (P : Program) (Γ : Nat → Option Ty) : Prop := ∀ t ty, Γ t = some ty → TyOk P t ty

theorem all2_cells {k : Nat} {rows : List (List V)} {vs : Array Value} {base i off : Nat} (hlen : ∀ r, r ∈ rows → r.length = k) (hi : i < rows.length) 
    (h3 : ∀ (i : Nat) (r : List V) (j : Nat) (v : V), rows[i]? = some r → r[j]? = some v → ∃ x, vs[base + i * k + j]? = some x ∧ RepV w ow v x) (hoff : off ≤ k) :
    ∃ xs : List Value, All2 (RepV w ow) ((rows.getD i []).drop off) xs ∧ xs.length = k - off ∧ ∀ j v, xs[j]? = some v → vs[base + i * k + off + j]? = some v := by
  have hri : rows[i]? = some (rows.getD i []) := by simp [List.getD, hi]
  have hl : (rows.getD i []).length = k := hlen _ (List.mem_of_getElem? hri)
  refine ⟨(List.range (k - off)).map fun j => (vs[base + i * k + off + j]?).getD undef, ?_, by simp, ?_⟩
  · refine All2.of_get (by rw [List.length_drop, hl]; simp) fun j a b ha hb => ?_
    rw [List.getElem?_drop] at ha
    obtain ⟨x, hx, hv⟩ := h3 i _ _ a hri ha
    have hj : j < k - off := by
      have := (List.getElem?_eq_some_iff.1 hb).1; simpa using this
    simp [hj] at hb
    rw [show base + i * k + (off + j) = base + i * k + off + j by omega] at hx
    rw [hx] at hb; simp at hb; subst hb; exact hv
  · intro j v hv
    have hj : j < k - off := by
      have := (List.getElem?_eq_some_iff.1 hv).1; simpa using this
    simp [hj] at hv
    have hr : ((rows.getD i []))[off + j]? = some ((rows.getD i [])[off + j]'(by omega)) := List.getElem?_eq_getElem (by omega)
    obtain ⟨x, hx, _⟩ := h3 i _ _ _ hri hr
    rw [show base + i * k + (off + j) = base + i * k + off + j by omega] at hx
    rw [hx] at hv ⊢; simpa using hv

theorem row_of_blk {r k : Nat} {rows : List (List V)} {blk : Blk} (hblk : blk = .row k rows ∨ blk = .ice k rows) (hb : RepB w ow ρ r blk) :
    (∀ r, r ∈ rows → r.length = k) ∧ ∃ m, ρ r = some m ∧ match m with
    | .nil => rows = []
    | .blk b base cap => rows.length ≤ cap ∧ ∃ vs T fr, w.heap[b]? = some (.cells vs T fr) ∧ NoFr vs fr ∧ base + cap * k ≤ vs.size ∧
        ∀ (i : Nat) (r : List V) (j : Nat) (v : V), rows[i]? = some r → r[j]? = some v → ∃ x, vs[base + i * k + j]? = some x ∧ RepV w ow v x := by
  rcases hblk with rfl | rfl <;> exact hb

theorem cell_lit {b o : Nat} {vs : Array Value} {T : TypeId} {fr : Nat × Nat} (h : w.heap[b]? = some (.cells vs T fr)) : w.cell? ⟨b, o, none⟩ = vs[o]? := by
  simp [World.cell?, h]

theorem load_sound (hm : Mem own0 mt w0 ρ H w) {t : TypeId} {ty : Ty} (ht : TyOk P t ty) (hq : q = true) {d d' : D} {ups : Ups} (hg : (loadE ty H q d).gives P (d', ups)) {u : Value}
    (hd : RepD w (Ow own0 ρ H) ρ d u) : ups = [] ∧ ∃ v, (Instr.loadAt t u).run P w = .ok v w ∧ RepD w (Ow own0 ρ H) ρ d' v := by
  cases d with
  | p b off =>
    simp only [loadE] at hg
    split at hg
    · rename_i cs hb
      obtain ⟨hlen, hg⟩ := hg
      have hlen := hlen hq
      simp only [Tr.gives, Prod.mk.injEq] at hg
      obtain ⟨rfl, rfl⟩ := hg
      obtain ⟨bn, z, c, hp, rfl⟩ := hd
      obtain ⟨b', c', hp', vs, T, fr, hh, hf, ha⟩ := hm.blks b _ hb
      rw [hp] at hp'; cases hp'
      refine ⟨rfl, _, ?_, rep_pick1 (xs := (vs.toList.drop off)) (fun _ _ h => h) (ha.drop off) (by simp; omega) ht.one⟩
      have hl := ha.length
      simp only [Instr.loadAt, Instr.sureAddr, Sem.run_bind, Sem.run_pure, Result.andThen_ok]
      exact run_loadVar ht w _ _ (by simp; simp at hl; omega) ht.one fun j v hj => by
        rw [List.getElem?_take] at hj
        split at hj
        · rw [addr_add_lit, cell_lit hh]
          simpa [Nat.add_assoc] using hj
        · cases hj
    · exact hg.elim
  | q cs =>
    obtain ⟨hlen, hg⟩ := hg
    have hlen := hlen hq
    simp only [Tr.gives, Prod.mk.injEq] at hg
    obtain ⟨rfl, rfl⟩ := hg
    obtain ⟨ad, rfl, h⟩ := hd
    have hex : ∃ xs : List Value, All2 (RepV w (Ow own0 ρ H)) cs xs ∧ ∀ (j : Nat) v, xs[j]? = some v → w.cell? (ad.add j) = some v := by
      refine ⟨(List.range cs.length).map fun j => (w.cell? (ad.add j)).getD undef, All2.of_get (by simp) fun i a b ha hb => ?_, fun j v hv => ?_⟩
      · obtain ⟨x, hx, hv, _⟩ := h i a ha
        have : i < cs.length := (List.getElem?_eq_some_iff.1 ha).1
        simp [this, hx] at hb; subst hb; exact hv
      · have hj : j < cs.length := by have := (List.getElem?_eq_some_iff.1 hv).1; simpa using this
        obtain ⟨x, hx, _⟩ := h j _ (List.getElem?_eq_getElem hj)
        simp [hj, hx] at hv; rw [hx, hv]
    obtain ⟨xs, ha, hx⟩ := hex
    refine ⟨rfl, _, ?_, rep_pick1 (mk1 := .v) (xs := xs) (fun _ _ h => h) ha hlen ht.one⟩
    simp only [Instr.loadAt, Instr.sureAddr, Sem.run_bind, Sem.run_pure, Result.andThen_ok]
    have hl := ha.length
    exact run_loadVar ht w _ _ (by simp; omega) ht.one fun j v hj => by
      rw [List.getElem?_take] at hj
      split at hj
      · exact hx j v hj
      · cases hj
  | w r k i off =>
    have key : ∀ (k' : Nat) (rows : List (List V)) (blk : Blk), (blk = .row k' rows ∨ blk = .ice k' rows) → H r = some blk →
        (Tr.ask (q = true → k' = k ∧ i < rows.length ∧ off + ty.size ≤ k) (.ret (pick1 (isAggD ty.desc) ty.size .v ((rows.getD i []).drop off), []))).gives P (d', ups) →
        ups = [] ∧ ∃ v, (Instr.loadAt t u).run P w = .ok v w ∧ RepD w (Ow own0 ρ H) ρ d' v := by
      intro k' rows blk hblk hb hk
      obtain ⟨hlen, hk⟩ := hk
      obtain ⟨rfl, hi, hoff⟩ := hlen hq
      have hg' : (d', ups) = (_, []) := hk
      cases hg'
      obtain ⟨b, base, cap, hp, hu⟩ := hd
      subst hu
      obtain ⟨hrl, m, hm', h⟩ := row_of_blk hblk (hm.blks r _ hb)
      rw [hp] at hm'; cases hm'
      obtain ⟨_, vs, T, fr, hh, _, _, h3⟩ := h
      obtain ⟨xs, ha, hxl, hx⟩ := all2_cells (off := off) hrl hi h3 (by omega)
      have hrl' : (rows.getD i []).length = k' := hrl _ (by rw [List.getD, List.getElem?_eq_getElem hi]; simp)
      refine ⟨rfl, _, ?_, rep_pick1 (mk1 := .v) (xs := xs) (fun _ _ h => h) ha (by rw [List.length_drop, hrl']; omega) ht.one⟩
      simp only [Instr.loadAt, Instr.sureAddr, Sem.run_bind, Sem.run_pure, Result.andThen_ok]
      exact run_loadVar ht w _ _ (by simp; omega) ht.one fun j v hj => by
        rw [List.getElem?_take] at hj
        split at hj
        · rw [addr_add_lit, cell_lit hh]; exact hx j v hj
        · cases hj
    unfold loadE at hg
    dsimp only at hg
    split at hg
    · rename_i k' rows hb; exact key k' rows _ (.inl rfl) hb hg
    · rename_i k' rows hb; exact key k' rows _ (.inr rfl) hb hg
    · exact hg.elim
  | e a => exact hg.elim
  | t es => exact hg.elim
  | g b d => exact hg.elim
  | top => exact hg.elim
  | u r k off n => exact hg.elim

end Eng
end Go.Proofs.Ytgpjbcgbjpmgaaa
