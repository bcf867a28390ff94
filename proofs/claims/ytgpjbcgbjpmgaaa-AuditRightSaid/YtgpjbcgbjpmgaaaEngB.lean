/- What memory does: a new block, a write into an own block, a row given up. -/
import Derived.Test.YtgpjbcgbjpmgaaaEngA
set_option autoImplicit false
set_option linter.unusedSimpArgs false
set_option linter.unusedVariables false
namespace Go.Proofs.Ytgpjbcgbjpmgaaa
namespace Eng

variable {own0 mt : Nat → Prop} {w0 w w' : World} {ρ ρ' : Nat → Option Pl} {H : Nat → Option Blk} {N : Nat} {En : Nat → D} {a : Act}

theorem KeepM.trans {a b c : World} (h : KeepM mt a b) (k : KeepM mt b c) : KeepM mt a c :=
  ⟨k.os.trans h.os, k.tape.trans h.tape, k.output.trans h.output, Nat.le_trans h.size k.size,
   fun i hi hm => (k.block i (Nat.lt_of_lt_of_le hi h.size) hm).trans (h.block i hi hm)⟩

theorem KeepM.alloc (h : KeepM mt w0 w) (o : Obj) : KeepM mt w0 (w.alloc o) :=
  h.trans ⟨rfl, rfl, rfl, by simp, fun b hb _ => Go.RowKit.Below.heap_alloc _ _ _ hb⟩

theorem KeepM.drew (h : KeepM mt w0 w) : KeepM mt w0 w.drew := h.trans ⟨rfl, rfl, rfl, by simp, fun b hb _ => rfl⟩

theorem Keep.alloc (w : World) (ow : Nat → Prop) (o : Obj) : Keep w ow (w.alloc o) := ⟨by simp, fun b hb _ => Go.RowKit.Below.heap_alloc _ _ _ hb⟩
theorem Keep.drew (w : World) (ow : Nat → Prop) : Keep w ow w.drew := ⟨by simp, fun b hb _ => rfl⟩

theorem Mem.drew (h : Mem own0 mt w0 ρ H w) : Mem own0 mt w0 ρ H w.drew where
  blks i b hb := (h.blks i b hb).mono (Keep.drew _ _) (fun _ _ h => h) (.refl _) fun _ _ _ _ _ => rfl
  defd := h.defd
  inj := h.inj
  fresh := h.fresh
  keep := h.keep.drew
  own0 := h.own0

theorem Mem.ltOw (h : Mem own0 mt w0 ρ H w) {b : Nat} (hb : Ow own0 ρ H b) : b < w.heap.size := by
  rcases hb with hb | ⟨i, base, cap, hi, _⟩
  · exact Nat.lt_of_lt_of_le (h.own0 _ hb) h.keep.size
  · exact (h.fresh i _ _ _ hi).2.1

theorem sub_upd {i : Nat} {m : Pl} (hi : ρ i = none) : Sub ρ (upd ρ i (some m)) := fun j m' hj => by
  by_cases e : j = i
  · subst e; rw [hi] at hj; cases hj
  · rw [upd_other _ _ e]; exact hj

/-- The own blocks behind a new one: the old ones and that. -/
theorem ow_alloc (hm : Mem own0 mt w0 ρ H w) {i c : Nat} (hi : H i = none) (blk : Blk) {b : Nat} (hb : b < w.heap.size)
    (h : Ow own0 (upd ρ i (some (.blk w.heap.size 0 c))) (upd H i (some blk)) b) : Ow own0 ρ H b := by
  rcases h with h | ⟨j, base, cap, hj, hl⟩
  · exact .inl h
  · by_cases e : j = i
    · subst e; simp only [upd_same] at hj; cases hj; omega
    · rw [upd_other _ _ e] at hj hl; exact .inr ⟨j, base, cap, hj, hl⟩

/-- A new block, with what it holds. -/
theorem Mem.new (hm : Mem own0 mt w0 ρ H w) {i c : Nat} (hi : H i = none) (blk : Blk) (vs : Array Value) (T : TypeId) (fr : Nat × Nat)
    (hb : RepB (w.alloc (.cells vs T fr)) (Ow own0 (upd ρ i (some (.blk w.heap.size 0 c))) (upd H i (some blk))) (upd ρ i (some (.blk w.heap.size 0 c))) i blk) :
    Mem own0 mt w0 (upd ρ i (some (.blk w.heap.size 0 c))) (upd H i (some blk)) (w.alloc (.cells vs T fr)) where
  blks j bl hj := by
    by_cases e : j = i
    · subst e; simp only [upd_same, Option.some.injEq] at hj; subst hj; exact hb
    · rw [upd_other _ _ e] at hj
      exact (hm.blks j bl hj).mono (Keep.alloc _ _ _) (fun b hlt h => ow_alloc hm hi blk hlt h) (sub_upd (hm.defd i hi))
        fun b base c' hp _ => Go.RowKit.Below.heap_alloc _ _ _ (hm.fresh j _ _ _ hp).2.1
  defd j hj := by
    by_cases e : j = i
    · subst e; simp at hj
    · rw [upd_other _ _ e] at hj ⊢; exact hm.defd j hj
  inj j j' b c1 k b' c' k' hl hl' hj hj' hne := by
    by_cases e : j = i
    · subst e
      have e' : j' ≠ j := fun e => hne e.symm
      rw [upd_other _ _ e'] at hj'
      simp only [upd_same] at hj
      cases hj
      have := (hm.fresh j' _ _ _ hj').2.1
      omega
    · rw [upd_other _ _ e] at hj hl
      by_cases e' : j' = i
      · subst e'
        simp only [upd_same] at hj'
        cases hj'
        have := (hm.fresh j _ _ _ hj).2.1
        omega
      · rw [upd_other _ _ e'] at hj' hl'
        exact hm.inj j j' _ _ _ _ _ _ hl hl' hj hj' hne
  fresh j b c' k hj := by
    by_cases e : j = i
    · subst e
      simp only [upd_same] at hj
      cases hj
      exact ⟨.inl hm.keep.size, by simp, fun h => by have := hm.own0 _ h; have := hm.keep.size; omega⟩
    · rw [upd_other _ _ e] at hj
      obtain ⟨h1, h2, h3⟩ := hm.fresh j _ _ _ hj
      exact ⟨h1, by simp; omega, h3⟩
  keep := hm.keep.alloc _
  own0 := hm.own0

/-- The temporaries behind a change of memory. -/
theorem RepD.step (hk : Keep w (Ow own0 ρ H) w') {ow' : Nat → Prop} (ho : ∀ b, b < w.heap.size → ow' b → Ow own0 ρ H b) (hs : Sub ρ ρ')
    {d : D} {u : Value} (h : RepD w (Ow own0 ρ H) ρ d u) : RepD w' ow' ρ' d u := h.mono hk ho hs

/-- The world with another row of cells in one block. -/
def setBlk (w : World) (b : Nat) (o : Obj) : World := { w with heap := w.heap.setIfInBounds b o }

theorem setBlk_heap_other {b b' : Nat} {o : Obj} (h : b' ≠ b) : (setBlk w b o).heap[b']? = w.heap[b']? := by
  simp only [setBlk]; rw [Array.getElem?_setIfInBounds_ne (by omega)]
theorem setBlk_heap_same {b : Nat} {o : Obj} (h : b < w.heap.size) : (setBlk w b o).heap[b]? = some o := by
  simp only [setBlk]; rw [Array.getElem?_setIfInBounds_self_of_lt h]
@[simp] theorem setBlk_size {b : Nat} {o : Obj} : (setBlk w b o).heap.size = w.heap.size := by simp [setBlk]

theorem Keep.setBlk {ow : Nat → Prop} {b : Nat} (hb : ow b) (o : Obj) : Keep w ow (setBlk w b o) :=
  ⟨by simp, fun b' _ hn => setBlk_heap_other fun e => hn (e ▸ hb)⟩

/-- A live block's cells are replaced; its id keeps its place and stays live. -/
theorem Mem.write (hm : Mem own0 mt w0 ρ H w) {i b base c : Nat} (hp : ρ i = some (.blk b base c)) (hl : live (H i) = true) {blk : Blk} (hl' : live (some blk) = true) (vs : Array Value) (T : TypeId) (fr : Nat × Nat)
    (hb : RepB (setBlk w b (.cells vs T fr)) (Ow own0 ρ H) ρ i blk) :
    Mem own0 mt w0 ρ (upd H i (some blk)) (setBlk w b (.cells vs T fr)) ∧ (∀ x, Ow own0 ρ (upd H i (some blk)) x ↔ Ow own0 ρ H x) := by
  have hso : solid (H i) = true := by cases h : H i with | none => simp [h, live] at hl | some x => cases x <;> simp_all [live, solid]
  have how : ∀ x, Ow own0 ρ (upd H i (some blk)) x ↔ Ow own0 ρ H x := by
    intro x
    constructor
    · rintro (h | ⟨j, bs, cp, hj, hjl⟩)
      · exact .inl h
      · refine .inr ⟨j, bs, cp, hj, ?_⟩
        by_cases e : j = i
        · subst e; exact hl
        · rwa [upd_other _ _ e] at hjl
    · rintro (h | ⟨j, bs, cp, hj, hjl⟩)
      · exact .inl h
      · refine .inr ⟨j, bs, cp, hj, ?_⟩
        by_cases e : j = i
        · subst e; simpa using hl'
        · rwa [upd_other _ _ e]
  have hown : Ow own0 ρ H b := .inr ⟨i, base, c, hp, hl⟩
  have hlt := (hm.fresh i _ _ _ hp).2.1
  refine ⟨?_, how⟩
  exact {
    blks := fun j bl hj => by
      by_cases e : j = i
      · subst e; simp only [upd_same, Option.some.injEq] at hj; subst hj
        exact hb.mono (Keep.refl _ _) (fun x _ hx => (how x).1 hx) (.refl _) fun _ _ _ _ _ => rfl
      · rw [upd_other _ _ e] at hj
        refine (hm.blks j bl hj).mono (Keep.setBlk hown _) (fun x _ hx => (how x).1 hx) (.refl _) fun b' base' c' hp' hs => ?_
        exact setBlk_heap_other (hm.inj j i _ _ _ _ _ _ (by rw [hj]; exact hs) hso hp' hp e)
    defd := fun j hj => by
      by_cases e : j = i
      · subst e; simp at hj
      · rw [upd_other _ _ e] at hj; exact hm.defd j hj
    inj := fun j j' b1 c1 k1 b2 c2 k2 h1 h2 h3 h4 hne => by
      have fix : ∀ {j : Nat}, solid (upd H i (some blk) j) = true → solid (H j) = true := fun {j} h => by
        by_cases e : j = i
        · subst e; exact hso
        · rwa [upd_other _ _ e] at h
      exact hm.inj j j' _ _ _ _ _ _ (fix h1) (fix h2) h3 h4 hne
    fresh := fun j b' c' k' hj => by obtain ⟨h1, h2, h3⟩ := hm.fresh j _ _ _ hj; exact ⟨h1, by simpa using h2, h3⟩
    keep := ⟨hm.keep.os, hm.keep.tape, hm.keep.output, by simpa using hm.keep.size, fun x hx hn => by
      rw [setBlk_heap_other fun e => ?_]
      · exact hm.keep.block x hx hn
      · subst e
        rcases (hm.fresh i _ _ _ hp).1 with h | h
        · omega
        · exact hn h⟩
    own0 := hm.own0 }

theorem ow_relax {i : Nat} {blk : Blk} (h : live (some blk) = true → live (H i) = true) {b : Nat} (hb : Ow own0 ρ (upd H i (some blk)) b) : Ow own0 ρ H b := by
  rcases hb with hb | ⟨j, bs, cp, hj, hl⟩
  · exact .inl hb
  · refine .inr ⟨j, bs, cp, hj, ?_⟩
    by_cases e : j = i
    · subst e; exact h (by simpa using hl)
    · rwa [upd_other _ _ e] at hl

/-- A block is seen as less: a row as one that nobody writes, anything as gone. -/
theorem Mem.relax (hm : Mem own0 mt w0 ρ H w) {i : Nat} {blk : Blk} (hl : live (some blk) = true → live (H i) = true) (hso : solid (some blk) = true → solid (H i) = true)
    (hb : RepB w (Ow own0 ρ (upd H i (some blk))) ρ i blk) : Mem own0 mt w0 ρ (upd H i (some blk)) w where
  blks j bl hj := by
    by_cases e : j = i
    · subst e; simp only [upd_same, Option.some.injEq] at hj; subst hj; exact hb
    · rw [upd_other _ _ e] at hj
      exact (hm.blks j bl hj).mono (Keep.refl _ _) (fun b _ h => ow_relax hl h) (.refl _) fun _ _ _ _ _ => rfl
  defd j hj := by
    by_cases e : j = i
    · subst e; simp at hj
    · rw [upd_other _ _ e] at hj; exact hm.defd j hj
  inj j j' b1 c1 k1 b2 c2 k2 h1 h2 h3 h4 hne := by
    have fix : ∀ {j : Nat}, solid (upd H i (some blk) j) = true → solid (H j) = true := fun {j} h => by
      by_cases e : j = i
      · subst e; exact hso (by simpa using h)
      · rwa [upd_other _ _ e] at h
    exact hm.inj j j' _ _ _ _ _ _ (fix h1) (fix h2) h3 h4 hne
  fresh := hm.fresh
  keep := hm.keep
  own0 := hm.own0

theorem Mem.freeze (hm : Mem own0 mt w0 ρ H w) {i k : Nat} {rows : List (List V)} (h : H i = some (.row k rows)) : Mem own0 mt w0 ρ (upd H i (some (.ice k rows))) w :=
  hm.relax (by simp [live]) (by simp [h, solid]) (by
    have := (hm.blks i _ h).mono (Keep.refl _ _) (fun b _ hb => ow_relax (by simp [live]) hb) (.refl _) (fun _ _ _ _ _ => rfl) (ow' := Ow own0 ρ (upd H i (some (.ice k rows))))
    exact this)

theorem Mem.kill (hm : Mem own0 mt w0 ρ H w) (i : Nat) : Mem own0 mt w0 ρ (upd H i (some .gone)) w :=
  hm.relax (by simp [live]) (by simp [solid]) trivial

/-- What is read of a row: as a pure slice, once nobody writes it. -/
theorem RepC.pure {ow ow' : Nat → Prop} {r n k : Nat} {rows : List (List V)} {u : Value} (hc : RepC w ow ρ (.o r n) u) {blk : Blk} (hblk : blk = .row k rows ∨ blk = .ice k rows) (hb : RepB w ow ρ r blk)
    (hn : n ≤ rows.length) (hs : ∀ b, ow' b → ow b) (ho : ∀ b base c, ρ r = some (.blk b base c) → ¬ ow' b) : RepV w ow' (.s k (rows.take n)) u := by
  have hb' : (∀ r, r ∈ rows → r.length = k) ∧ ∃ m, ρ r = some m ∧ match m with
    | .nil => rows = []
    | .blk b base cap => rows.length ≤ cap ∧ ∃ vs T fr, w.heap[b]? = some (.cells vs T fr) ∧ NoFr vs fr ∧ base + cap * k ≤ vs.size ∧
        ∀ (i : Nat) (r : List V) (j : Nat) (v : V), rows[i]? = some r → r[j]? = some v → ∃ x, vs[base + i * k + j]? = some x ∧ RepV w ow v x := by
    rcases hblk with rfl | rfl <;> exact hb
  obtain ⟨hlen, m, hm, hb'⟩ := hb'
  obtain ⟨m', hm', hc⟩ := hc
  rw [hm] at hm'; cases hm'
  cases m with
  | nil =>
    simp only at hb' hc
    obtain ⟨rfl, a, rfl⟩ := hc
    refine .s k _ a 0 0 (fun _ _ => undef) (by simp) (by simp) (by simp) (Nat.le_refl _) ?_ ?_ <;> simp
  | blk b base cap =>
    simp only at hb' hc
    obtain ⟨rfl, hle⟩ := hc
    obtain ⟨h1, vs, T, fr, hh, hf, h2, h3⟩ := hb'
    have get : ∀ (i : Nat) (r : List V) (j : Nat) (v : V), (rows.take n)[i]? = some r → r[j]? = some v → rows[i]? = some r := fun i r j v hi hj => by
      rw [List.getElem?_take] at hi; split at hi
      · exact hi
      · cases hi
    refine .s k _ (some ⟨b, base, none⟩) n cap (fun i j => (vs[base + i * k + j]?).getD undef) (by simp; omega) (fun i r hi => hlen r (List.mem_of_mem_take (List.mem_of_getElem? hi))) (by simp) hle ?_ ?_
    · intro ad had i r j v hi hj
      cases had
      obtain ⟨x, hx, _⟩ := h3 i r j v (get i r j v hi hj) hj
      refine ⟨?_, ?_⟩
      · have : (Addr.add ⟨b, base, none⟩ (i * k + j)) = ⟨b, base + i * k + j, none⟩ := by
          unfold Addr.add; split
          · rename_i h0; simp [Nat.add_assoc, h0]
          · simp [Nat.add_assoc]
        rw [this]
        simp [World.cell?, hh, hx]
      · exact ho _ _ _ hm
    · intro i r j v hi hj
      obtain ⟨x, hx, hv⟩ := h3 i r j v (get i r j v hi hj) hj
      simp only [hx, Option.getD_some]
      exact hv.mono (Keep.refl _ _) fun b _ h => hs b h

end Eng
end Go.Proofs.Ytgpjbcgbjpmgaaa
