/- Each operation does what the evaluator says: what makes or writes memory. -/
import Derived.Test.YtgpjbcgbjpmgaaaEngG
set_option autoImplicit false
set_option linter.unusedSimpArgs false
set_option linter.unusedVariables false
namespace Go.Proofs.Ytgpjbcgbjpmgaaa
namespace Eng

variable {P : Program} {Γ : Nat → Option Ty} {own0 mt : Nat → Prop} {w0 w : World} {ow : Nat → Prop} {ρ : Nat → Option Pl} {H : Nat → Option Blk} {q : Bool}
  {d' : D} {ups : Ups}

structure Step (own0 mt : Nat → Prop) (w0 : World) (ρ : Nat → Option Pl) (H : Nat → Option Blk) (w : World) (ρ' : Nat → Option Pl) (H' : Nat → Option Blk) (w' : World) : Prop where
  sub : Sub ρ ρ'
  keep : Keep w (Ow own0 ρ H) w'
  ow : ∀ b, b < w.heap.size → Ow own0 ρ' H' b → Ow own0 ρ H b
  mem : Mem own0 mt w0 ρ' H' w'

theorem Step.refl (hm : Mem own0 mt w0 ρ H w) : Step own0 mt w0 ρ H w ρ H w := ⟨.refl _, .refl _ _, fun _ _ h => h, hm⟩

theorem Step.trans {ρ1 ρ2 : Nat → Option Pl} {H1 H2 : Nat → Option Blk} {w1 w2 : World} (h : Step own0 mt w0 ρ H w ρ1 H1 w1) (k : Step own0 mt w0 ρ1 H1 w1 ρ2 H2 w2) : Step own0 mt w0 ρ H w ρ2 H2 w2 where
  sub := h.sub.trans k.sub
  keep := ⟨Nat.le_trans h.keep.size k.keep.size, fun b hb hn => by
    rw [k.keep.block b (Nat.lt_of_lt_of_le hb h.keep.size) (fun ho => hn (h.ow b hb ho)), h.keep.block b hb hn]⟩
  ow b hb ho := h.ow b hb (k.ow b (Nat.lt_of_lt_of_le hb h.keep.size) ho)
  mem := k.mem

theorem Step.rep {ρ' : Nat → Option Pl} {H' : Nat → Option Blk} {w' : World} (h : Step own0 mt w0 ρ H w ρ' H' w') {d : D} {u : Value} (hd : RepD w (Ow own0 ρ H) ρ d u) : RepD w' (Ow own0 ρ' H') ρ' d u :=
  hd.mono h.keep h.ow h.sub

theorem Step.new (hm : Mem own0 mt w0 ρ H w) {i c : Nat} (hi : H i = none) {blk : Blk} {vs : Array Value} {T : TypeId} {fr : Nat × Nat}
    (hb : RepB (w.alloc (.cells vs T fr)) (Ow own0 (upd ρ i (some (.blk w.heap.size 0 c))) (upd H i (some blk))) (upd ρ i (some (.blk w.heap.size 0 c))) i blk) :
    Step own0 mt w0 ρ H w (upd ρ i (some (.blk w.heap.size 0 c))) (upd H i (some blk)) (w.alloc (.cells vs T fr)) :=
  ⟨sub_upd (hm.defd i hi), Keep.alloc _ _ _, fun b hb' h => ow_alloc hm hi blk hb' h, hm.new hi blk vs T fr hb⟩

theorem Step.relax (hm : Mem own0 mt w0 ρ H w) {i : Nat} {blk : Blk} (hl : live (some blk) = true → live (H i) = true) (hso : solid (some blk) = true → solid (H i) = true)
    (hb : RepB w (Ow own0 ρ (upd H i (some blk))) ρ i blk) : Step own0 mt w0 ρ H w ρ (upd H i (some blk)) w :=
  ⟨.refl _, .refl _ _, fun _ _ h => ow_relax hl h, hm.relax hl hso hb⟩

theorem Step.kill (hm : Mem own0 mt w0 ρ H w) (i : Nat) : Step own0 mt w0 ρ H w ρ (upd H i (some .gone)) w :=
  .relax hm (by simp [live]) (by simp [solid]) trivial

theorem Step.freeze (hm : Mem own0 mt w0 ρ H w) {i k : Nat} {rows : List (List V)} (h : H i = some (.row k rows)) : Step own0 mt w0 ρ H w ρ (upd H i (some (.ice k rows))) w :=
  ⟨.refl _, .refl _ _, fun _ _ h => ow_relax (by simp [live]) h, hm.freeze h⟩

theorem Step.drew (hm : Mem own0 mt w0 ρ H w) : Step own0 mt w0 ρ H w ρ H w.drew := ⟨.refl _, .drew _ _, fun _ _ h => h, hm.drew⟩

theorem Step.write (hm : Mem own0 mt w0 ρ H w) {i b base c : Nat} (hp : ρ i = some (.blk b base c)) (hl : live (H i) = true) {blk : Blk} (hl' : live (some blk) = true) {vs : Array Value} {T : TypeId} {fr : Nat × Nat}
    (hb : RepB (setBlk w b (.cells vs T fr)) (Ow own0 ρ H) ρ i blk) :
    Step own0 mt w0 ρ H w ρ (upd H i (some blk)) (setBlk w b (.cells vs T fr)) :=
  have h := hm.write hp hl hl' vs T fr hb
  ⟨.refl _, Keep.setBlk (.inr ⟨i, base, c, hp, hl⟩) _, fun x _ hx => (h.2 x).1 hx, h.1⟩

/-- A run that makes or writes memory, and what it gives. -/
def MRun {α : Type} (P : Program) (own0 mt : Nat → Prop) (w0 : World) (ρ : Nat → Option Pl) (H : Nat → Option Blk) (w : World) (s : Sem α) (ups : Ups) (R : World → (Nat → Prop) → (Nat → Option Pl) → α → Prop) : Prop :=
  ∃ v w' ρ', s.run P w = .ok v w' ∧ Step own0 mt w0 ρ H w ρ' (updL H ups) w' ∧ R w' (Ow own0 ρ' (updL H ups)) ρ' v

/-- A new block of the cells of what is at hand. -/
theorem newVar_sound (hm : Mem own0 mt w0 ρ H w) {nx : Nat} (hi : H nx = none) {e : E} {u : Value} (he : RepE w (Ow own0 ρ H) ρ e u) (T : TypeId) :
    MRun P own0 mt w0 ρ H w (do pure (.pointer (some (← newVar T u))) : Sem Value) [(nx, .loc e.cells)] fun w' ow' ρ' v => RepD w' ow' ρ' (.p nx 0) v := by
  have hc := rep_cells he
  refine ⟨_, w.alloc (.cells u.cells T (0, 0)), upd ρ nx (some (.blk w.heap.size 0 0)), rfl, ?_, w.heap.size, 0, 0, by simp, by simp⟩
  refine Step.new hm hi ⟨w.heap.size, 0, by simp, u.cells, T, (0, 0), heap_alloc_new _ _, .inl rfl, ?_⟩
  exact hc.1.mono fun _ _ h => h.mono (Keep.alloc _ _ _) (fun b hb' h => ow_alloc hm hi _ hb' h) (sub_upd (hm.defd _ hi))

theorem rep_ofVal (v : Value) (h : okVal v = true) : ∃ e, ofVal v = .e e ∧ RepE w ow ρ e v ∧ e.cells = v.cells.toList.map fun c => .v (.x c) := by
  cases v <;> first
    | exact ⟨_, rfl, RepV.x _ rfl, by simp [Value.cells, E.cells]⟩
    | (rename_i cs; exact ⟨_, rfl, ⟨cs.toList, by simp, all2_ofVal _ h⟩, rfl⟩)
    | simp [okVal] at h

theorem alloc_sound (hm : Mem own0 mt w0 ρ H w) {nx : Nat} (hi : H nx = none) {t : TypeId} {ty : Ty} (ht : TyOk P t ty) :
    MRun P own0 mt w0 ρ H w (Instr.alloc t true (.tuple #[])) [(nx, .loc (ty.zero.cells.toList.map fun c => .v (.x c)))] fun w' ow' ρ' v => RepD w' ow' ρ' (.p nx 0) v := by
  obtain ⟨e, _, he, hc⟩ := rep_ofVal (w := w) (ow := Ow own0 ρ H) (ρ := ρ) ty.zero ht.zok
  obtain ⟨v, w', ρ', hr, hs, hd⟩ := newVar_sound (P := P) hm hi he t
  rw [hc] at hs hd
  refine ⟨v, w', ρ', ?_, hs, hd⟩
  rw [← hr]
  simp [Instr.alloc, run_zero ht]

theorem splice_len {α : Type} {cs xs : List α} {off : Nat} (h : off + xs.length ≤ cs.length) : (splice cs off xs).length = cs.length := by
  simp [splice]; omega

theorem splice_nil {α : Type} {cs : List α} {off : Nat} : splice cs off [] = cs := by simp [splice]

theorem splice_cons {α : Type} {cs xs : List α} {off : Nat} {x : α} (h : off + 1 + xs.length ≤ cs.length) : splice (cs.set off x) (off + 1) xs = splice cs off (x :: xs) := by
  unfold splice
  have h1 : (cs.set off x).take (off + 1) = cs.take off ++ [x] := by
    rw [List.take_succ_eq_append_getElem (by simp; omega)]
    rw [List.take_set, List.set_eq_of_length_le (by simp; omega)]
    simp
  rw [h1, List.drop_set_of_lt (by omega)]
  simp [Nat.add_assoc, Nat.add_comm 1]

theorem all2_splice {α β : Type} {R : α → β → Prop} {as xs : List α} {bs ys : List β} {off : Nat} (h : All2 R as bs) (h' : All2 R xs ys) : All2 R (splice as off xs) (splice bs off ys) := by
  unfold splice
  rw [h'.length]
  exact ((h.take off).append h').append (h.drop _)

theorem setCell_eq {b o : Nat} {vs : Array Value} {T : TypeId} {fr : Nat × Nat} {v : Value} (h : w.heap[b]? = some (.cells vs T fr)) :
    w.setCell ⟨b, o, none⟩ v = setBlk w b (.cells (vs.setIfInBounds o v) T fr) := by
  have hlt : b < w.heap.size := (Array.getElem?_eq_some_iff.1 h).1
  have e : (w.setCell ⟨b, o, none⟩ v).heap = (setBlk w b (.cells (vs.setIfInBounds o v) T fr)).heap := by
    apply Array.ext_getElem?
    intro i
    by_cases e : i = b
    · subst e
      rw [setBlk_heap_same hlt]
      simp only [World.setCell, Array.getElem?_modify, if_true, h]
      simp
    · rw [setBlk_heap_other e, heap_setCell_other _ _ _ _ e]
  have e2 : ∀ a b : World, a.heap = b.heap → a.tape = b.tape → a.drawn = b.drawn → a.os = b.os → a.output = b.output → a = b := by
    rintro ⟨⟩ ⟨⟩ rfl rfl rfl rfl rfl; rfl
  exact e2 _ _ e rfl rfl rfl rfl

theorem setBlk_setBlk {b : Nat} {o o' : Obj} : setBlk (setBlk w b o) b o' = setBlk w b o' := by simp [setBlk]

theorem run_storeCells_blk {b o : Nat} {T : TypeId} {fr : Nat × Nat} : ∀ (xs : List Value) (i : Nat) (vs : Array Value) (w : World), w.heap[b]? = some (.cells vs T fr) → NoFr vs fr →
    o + i + xs.length ≤ vs.size → (∀ x, x ∈ xs → x.oneCell = true) →
    (storeCells ⟨b, o, none⟩ xs i).run P w = .ok () (setBlk w b (.cells (splice vs.toList (o + i) xs).toArray T fr))
  | [], i, vs, w, h, _, _, _ => by
    simp only [storeCells, splice_nil, Array.toArray_toList]
    have hlt : b < w.heap.size := (Array.getElem?_eq_some_iff.1 h).1
    have : setBlk w b (.cells vs T fr) = w := by
      have e : w.heap.setIfInBounds b (.cells vs T fr) = w.heap := by
        apply Array.ext_getElem?
        intro i
        by_cases e : b = i
        · subst e; rw [Array.getElem?_setIfInBounds_self_of_lt hlt, h]
        · rw [Array.getElem?_setIfInBounds_ne e]
      simp [setBlk, e]
    rw [this]; rfl
  | x :: xs, i, vs, w, h, hf, hl, h1 => by
    simp at hl
    have hlt : b < w.heap.size := (Array.getElem?_eq_some_iff.1 h).1
    have hcell : w.cell? ⟨b, o + i, none⟩ = some (vs[o + i]'(by omega)) := by rw [cell_lit h]; exact Array.getElem?_eq_getElem (by omega)
    have hfz : w.frozen? ⟨b, o + i, none⟩ = false := by
      simp only [World.frozen?, h]
      have := hf.off (o + i) (by omega)
      simp; omega
    have hst : (store ((⟨b, o, none⟩ : Addr).add i) x).run P w = .ok () (setBlk w b (.cells (vs.setIfInBounds (o + i) x) T fr)) := by
      rw [addr_add_lit, run_store _ _ _ _ _ (by rw [oneCell_eq]; exact h1 x (by simp))]
      simp only [hcell, hfz, Bool.false_eq_true, if_false]
      rw [setCell_eq h]
    have ih := run_storeCells_blk (o := o) xs (i + 1) (vs.setIfInBounds (o + i) x) (setBlk w b (.cells (vs.setIfInBounds (o + i) x) T fr)) (setBlk_heap_same hlt)
      (hf.size (by simp)) (by simp; omega) (fun y hy => h1 y (by simp [hy]))
    simp only [storeCells, Sem.run_bind, hst, Result.andThen_ok, ih, setBlk_setBlk]
    rw [show o + (i + 1) = o + i + 1 from rfl, Array.toList_setIfInBounds, splice_cons (by simp; omega)]

end Eng
end Go.Proofs.Ytgpjbcgbjpmgaaa
