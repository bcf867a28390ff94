/- Each operation does what the evaluator says: what makes or writes memory. -/
import Derived.Test.YtllfgnhnooonfaaDoorEngG
set_option autoImplicit false
set_option linter.unusedSimpArgs false
set_option linter.unusedVariables false
namespace Go.Proofs.YtllfgnhnooonfaaDoor
namespace Eng

variable {P : Program} {Γ : Nat → Option Ty} {own0 mt : Nat → Prop} {w0 w : World} {ow : Nat → Prop} {ρ : Nat → Option Pl} {H : Nat → Option Blk} {q : Bool}
  {d' : D} {ups : Ups}

structure Step (own0 mt : Nat → Prop) (w0 : World) (ρ : Nat → Option Pl) (H : Nat → Option Blk) (w : World) (ρ' : Nat → Option Pl) (H' : Nat → Option Blk) (w' : World) : Prop where
  sub : Sub ρ ρ'
  keep : Keep w (Ow own0 ρ H) w'
  ow : ∀ b, b < w.heap.size → Ow own0 ρ' H' b → Ow own0 ρ H b
  mem : Mem own0 mt w0 ρ' H' w'

theorem Step.refl (hm : Mem own0 mt w0 ρ H w) : Step own0 mt w0 ρ H w ρ H w := ⟨.refl _, .refl _ _, fun _ _ h => h, hm⟩

theorem Step.trans {ρ1 ρ2 : Nat → Option Pl} {H1 H2 : Nat → Option Blk} {w1 w2 : World} (h : Step own0 mt w0 ρ H w ρ1 H1 w1) (k : Step own0 mt w0 ρ1 H1 w1 ρ2 H2 w2) : Step own0 mt w0 ρ H w ρ2 H2 w2 where
  sub := h.sub.trans k.sub
  keep := ⟨Nat.le_trans h.keep.size k.keep.size, fun b hb hn => by
    rw [k.keep.block b (Nat.lt_of_lt_of_le hb h.keep.size) (fun ho => hn (h.ow b hb ho)), h.keep.block b hb hn]⟩
  ow b hb ho := h.ow b hb (k.ow b (Nat.lt_of_lt_of_le hb h.keep.size) ho)
  mem := k.mem

theorem Step.rep {ρ' : Nat → Option Pl} {H' : Nat → Option Blk} {w' : World} (h : Step own0 mt w0 ρ H w ρ' H' w') {d : D} {u : Value} (hd : RepD w (Ow own0 ρ H) ρ d u) : RepD w' (Ow own0 ρ' H') ρ' d u :=
  hd.mono h.keep h.ow h.sub

theorem Step.new (hm : Mem own0 mt w0 ρ H w) {i c : Nat} (hi : H i = none) {blk : Blk} {vs : Array Value} {T : TypeId} {fr : Nat × Nat}
    (hb : RepB (w.alloc (.cells vs T fr)) (Ow own0 (upd ρ i (some (.blk w.heap.size 0 c))) (upd H i (some blk))) (upd ρ i (some (.blk w.heap.size 0 c))) i blk) :
    Step own0 mt w0 ρ H w (upd ρ i (some (.blk w.heap.size 0 c))) (upd H i (some blk)) (w.alloc (.cells vs T fr)) :=
  ⟨sub_upd (hm.defd i hi), Keep.alloc _ _ _, fun b hb' h => ow_alloc hm hi blk hb' h, hm.new hi blk vs T fr hb⟩

theorem Step.relax (hm : Mem own0 mt w0 ρ H w) {i : Nat} {blk : Blk} (hl : live (some blk) = true → live (H i) = true) (hso : solid (some blk) = true → solid (H i) = true)
    (hb : RepB w (Ow own0 ρ (upd H i (some blk))) ρ i blk) : Step own0 mt w0 ρ H w ρ (upd H i (some blk)) w :=
  ⟨.refl _, .refl _ _, fun _ _ h => ow_relax hl h, hm.relax hl hso hb⟩

theorem Step.kill (hm : Mem own0 mt w0 ρ H w) (i : Nat) : Step own0 mt w0 ρ H w ρ (upd H i (some .gone)) w :=
  .relax hm (by simp [live]) (by simp [solid]) trivial

theorem Step.freeze (hm : Mem own0 mt w0 ρ H w) {i k : Nat} {rows : List (List V)} (h : H i = some (.row k rows)) : Step own0 mt w0 ρ H w ρ (upd H i (some (.ice k rows))) w :=
  ⟨.refl _, .refl _ _, fun _ _ h => ow_relax (by simp [live]) h, hm.freeze h⟩

theorem Step.drew (hm : Mem own0 mt w0 ρ H w) : Step own0 mt w0 ρ H w ρ H w.drew := ⟨.refl _, .drew _ _, fun _ _ h => h, hm.drew⟩

theorem Step.write (hm : Mem own0 mt w0 ρ H w) {i b base c : Nat} (hp : ρ i = some (.blk b base c)) (hl : live (H i) = true) {blk : Blk} (hl' : live (some blk) = true) {vs : Array Value} {T : TypeId} {fr : Nat × Nat}
    (hb : RepB (setBlk w b (.cells vs T fr)) (Ow own0 ρ H) ρ i blk) :
    Step own0 mt w0 ρ H w ρ (upd H i (some blk)) (setBlk w b (.cells vs T fr)) :=
  have h := hm.write hp hl hl' vs T fr hb
  ⟨.refl _, Keep.setBlk (.inr ⟨i, base, c, hp, hl⟩) _, fun x _ hx => (h.2 x).1 hx, h.1⟩

/-- A run that makes or writes memory, and what it gives. -/
def MRun {α : Type} (P : Program) (own0 mt : Nat → Prop) (w0 : World) (ρ : Nat → Option Pl) (H : Nat → Option Blk) (w : World) (s : Sem α) (ups : Ups) (R : World → (Nat → Prop) → (Nat → Option Pl) → α → Prop) : Prop :=
  ∃ v w' ρ', s.run P w = .ok v w' ∧ Step own0 mt w0 ρ H w ρ' (updL H ups) w' ∧ R w' (Ow own0 ρ' (updL H ups)) ρ' v

/-- A new block of the cells of what is at hand. -/
theorem newVar_sound (hm : Mem own0 mt w0 ρ H w) {nx : Nat} (hi : H nx = none) {e : E} {u : Value} (he : RepE w (Ow own0 ρ H) ρ e u) (T : TypeId) :
    MRun P own0 mt w0 ρ H w (do pure (.pointer (some (← newVar T u))) : Sem Value) [(nx, .loc e.cells)] fun w' ow' ρ' v => RepD w' ow' ρ' (.p nx 0) v := by
  have hc := rep_cells he
  refine ⟨_, w.alloc (.cells u.cells T (0, 0)), upd ρ nx (some (.blk w.heap.size 0 0)), rfl, ?_, w.heap.size, 0, 0, by simp, by simp⟩
  refine Step.new hm hi ⟨w.heap.size, 0, by simp, u.cells, T, (0, 0), heap_alloc_new _ _, .inl rfl, ?_⟩
  exact hc.1.mono fun _ _ h => h.mono (Keep.alloc _ _ _) (fun b hb' h => ow_alloc hm hi _ hb' h) (sub_upd (hm.defd _ hi))

theorem rep_ofVal (v : Value) (h : okVal v = true) : ∃ e, ofVal v = .e e ∧ RepE w ow ρ e v ∧ e.cells = v.cells.toList.map fun c => .v (.x c) := by
  cases v <;> first
    | exact ⟨_, rfl, RepV.x _ rfl, by simp [Value.cells, E.cells]⟩
    | (rename_i cs; exact ⟨_, rfl, ⟨cs.toList, by simp, all2_ofVal _ h⟩, rfl⟩)
    | simp [okVal] at h

theorem alloc_sound (hm : Mem own0 mt w0 ρ H w) {nx : Nat} (hi : H nx = none) {t : TypeId} {ty : Ty} (ht : TyOk P t ty) :
    MRun P own0 mt w0 ρ H w (Instr.alloc t true (.tuple #[])) [(nx, .loc (ty.zero.cells.toList.map fun c => .v (.x c)))] fun w' ow' ρ' v => RepD w' ow' ρ' (.p nx 0) v := by
  obtain ⟨e, _, he, hc⟩ := rep_ofVal (w := w) (ow := Ow own0 ρ H) (ρ := ρ) ty.zero ht.zok
  obtain ⟨v, w', ρ', hr, hs, hd⟩ := newVar_sound (P := P) hm hi he t
  rw [hc] at hs hd
  refine ⟨v, w', ρ', ?_, hs, hd⟩
  rw [← hr]
  simp [Instr.alloc, run_zero ht]

theorem splice_len {α : Type} {cs xs : List α} {off : Nat} (h : off + xs.length ≤ cs.length) : (splice cs off xs).length = cs.length := by
  simp [splice]; omega

theorem splice_nil {α : Type} {cs : List α} {off : Nat} : splice cs off [] = cs := by simp [splice]

theorem splice_cons {α : Type} {cs xs : List α} {off : Nat} {x : α} (h : off + 1 + xs.length ≤ cs.length) : splice (cs.set off x) (off + 1) xs = splice cs off (x :: xs) := by
  unfold splice
  have h1 : (cs.set off x).take (off + 1) = cs.take off ++ [x] := by
    rw [List.take_succ_eq_append_getElem (by simp; omega)]
    rw [List.take_set, List.set_eq_of_length_le (by simp; omega)]
    simp
  rw [h1, List.drop_set_of_lt (by omega)]
  simp [Nat.add_assoc, Nat.add_comm 1]

theorem all2_splice {α β : Type} {R : α → β → Prop} {as xs : List α} {bs ys : List β} {off : Nat} (h : All2 R as bs) (h' : All2 R xs ys) : All2 R (splice as off xs) (splice bs off ys) := by
  unfold splice
  rw [h'.length]
  exact ((h.take off).append h').append (h.drop _)

theorem setCell_eq {b o : Nat} {vs : Array Value} {T : TypeId} {fr : Nat × Nat} {v : Value} (h : w.heap[b]? = some (.cells vs T fr)) :
    w.setCell ⟨b, o, none⟩ v = setBlk w b (.cells (vs.setIfInBounds o v) T fr) := by
  have hlt : b < w.heap.size := (Array.getElem?_eq_some_iff.1 h).1
  have e : (w.setCell ⟨b, o, none⟩ v).heap = (setBlk w b (.cells (vs.setIfInBounds o v) T fr)).heap := by
    apply Array.ext_getElem?
    intro i
    by_cases e : i = b
    · subst e
      rw [setBlk_heap_same hlt]
      simp only [World.setCell, Array.getElem?_modify, if_true, h]
      simp
    · rw [setBlk_heap_other e, heap_setCell_other _ _ _ _ e]
  have e2 : ∀ a b : World, a.heap = b.heap → a.tape = b.tape → a.drawn = b.drawn → a.os = b.os → a.output = b.output → a = b := by
    rintro ⟨⟩ ⟨⟩ rfl rfl rfl rfl rfl; rfl
  exact e2 _ _ e rfl rfl rfl rfl

theorem setBlk_setBlk {b : Nat} {o o' : Obj} : setBlk (setBlk w b o) b o' = setBlk w b o' := by simp [setBlk]

theorem run_storeCells_blk {b o : Nat} {T : TypeId} {fr : Nat × Nat} : ∀ (xs : List Value) (i : Nat) (vs : Array Value) (w : World), w.heap[b]? = some (.cells vs T fr) → NoFr vs fr →
    o + i + xs.length ≤ vs.size → (∀ x, x ∈ xs → x.oneCell = true) →
    (storeCells ⟨b, o, none⟩ xs i).run P w = .ok () (setBlk w b (.cells (splice vs.toList (o + i) xs).toArray T fr))
  | [], i, vs, w, h, _, _, _ => by
    simp only [storeCells, splice_nil, Array.toArray_toList]
    have hlt : b < w.heap.size := (Array.getElem?_eq_some_iff.1 h).1
    have : setBlk w b (.cells vs T fr) = w := by
      have e : w.heap.setIfInBounds b (.cells vs T fr) = w.heap := by
        apply Array.ext_getElem?
        intro i
        by_cases e : b = i
        · subst e; rw [Array.getElem?_setIfInBounds_self_of_lt hlt, h]
        · rw [Array.getElem?_setIfInBounds_ne e]
      simp [setBlk, e]
    rw [this]; rfl
  | x :: xs, i, vs, w, h, hf, hl, h1 => by
    simp at hl
    have hlt : b < w.heap.size := (Array.getElem?_eq_some_iff.1 h).1
    have hcell : w.cell? ⟨b, o + i, none⟩ = some (vs[o + i]'(by omega)) := by rw [cell_lit h]; exact Array.getElem?_eq_getElem (by omega)
    have hfz : w.frozen? ⟨b, o + i, none⟩ = false := by
      simp only [World.frozen?, h]
      have := hf.off (o + i) (by omega)
      simp; omega
    have hst : (store ((⟨b, o, none⟩ : Addr).add i) x).run P w = .ok () (setBlk w b (.cells (vs.setIfInBounds (o + i) x) T fr)) := by
      rw [addr_add_lit, run_store _ _ _ _ _ (by rw [oneCell_eq]; exact h1 x (by simp))]
      simp only [hcell, hfz, Bool.false_eq_true, if_false]
      rw [setCell_eq h]
    have ih := run_storeCells_blk (o := o) xs (i + 1) (vs.setIfInBounds (o + i) x) (setBlk w b (.cells (vs.setIfInBounds (o + i) x) T fr)) (setBlk_heap_same hlt)
      (hf.size (by simp)) (by simp; omega) (fun y hy => h1 y (by simp [hy]))
    simp only [storeCells, Sem.run_bind, hst, Result.andThen_ok, ih, setBlk_setBlk]
    rw [show o + (i + 1) = o + i + 1 from rfl, Array.toList_setIfInBounds, splice_cons (by simp; omega)]

end Eng
end Go.Proofs.YtllfgnhnooonfaaDoor

/-! Each operation does what the evaluator says: stores, slices. -/
namespace Go.Proofs.YtllfgnhnooonfaaDoor
namespace Eng

variable {P : Program} {Γ : Nat → Option Ty} {own0 mt : Nat → Prop} {w0 w : World} {ow : Nat → Prop} {ρ : Nat → Option Pl} {H : Nat → Option Blk} {q : Bool}
  {d' : D} {ups : Ups}

theorem updL_append (H : Nat → Option Blk) (a b : Ups) : updL H (a ++ b) = updL (updL H a) b := by
  induction a generalizing H with
  | nil => rfl
  | cons x r ih => exact ih _

/-- A frozen row's slice is a pure value. -/
theorem pure_ice (hm : Mem own0 mt w0 ρ H w) {r n k : Nat} {rows : List (List V)} {u : Value} (hr : H r = some (.ice k rows)) (hc : RepC w (Ow own0 ρ H) ρ (.o r n) u) (hn : n ≤ rows.length) :
    RepV w (Ow own0 ρ H) (.s k (rows.take n)) u := by
  refine RepC.pure hc (.inr rfl) (hm.blks r _ hr) hn (fun _ h => h) fun b base c hp ho => ?_
  rcases ho with ho | ⟨j, bs, cp, hj, hl⟩
  · exact (hm.fresh r _ _ _ hp).2.2 ho
  · have hne : j ≠ r := fun e => by subst e; rw [hr] at hl; cases hl
    refine hm.inj j r _ _ _ _ _ _ ?_ (by rw [hr]; rfl) hj hp hne rfl
    cases h : H j with
    | none => rw [h] at hl; cases hl
    | some x => cases x <;> simp_all [live, solid]

theorem frzC_sound (hm : Mem own0 mt w0 ρ H w) {c : C} {u : Value} {v : V} {ups : Ups} {p : Prop} (h : frzC H c = some (v, ups, p)) (hp : p) (hc : RepC w (Ow own0 ρ H) ρ c u) :
    Step own0 mt w0 ρ H w ρ (updL H ups) w ∧ RepV w (Ow own0 ρ (updL H ups)) v u := by
  cases c with
  | v a => cases h; exact ⟨Step.refl hm, hc⟩
  | o r n =>
    simp only [frzC] at h
    split at h
    · rename_i k rows hr
      cases h
      have hs := Step.freeze hm hr
      exact ⟨hs, pure_ice hs.mem (by simp) (hc.mono (Keep.refl _ _) hs.ow (.refl _)) hp⟩
    · rename_i k rows hr
      cases h
      exact ⟨Step.refl hm, pure_ice hm hr hc hp⟩
    · cases h

theorem frzCs_sound : ∀ {cs : List C} {us : List Value} {H : Nat → Option Blk} {vs : List V} {ups : Ups} {p : Prop}, Mem own0 mt w0 ρ H w → frzCs H cs = some (vs, ups, p) → p → All2 (RepC w (Ow own0 ρ H) ρ) cs us →
    Step own0 mt w0 ρ H w ρ (updL H ups) w ∧ All2 (RepV w (Ow own0 ρ (updL H ups))) vs us
  | [], [], _, _, _, _, hm, h, _, _ => by cases h; exact ⟨Step.refl hm, trivial⟩
  | .v a :: r, u :: us, H, vs, ups, p, hm, h, hp, ⟨h0, h1⟩ => by
    simp only [frzCs] at h
    split at h
    · rename_i vs' u' p' hr
      cases h
      obtain ⟨hs, ha⟩ := frzCs_sound hm hr hp h1
      exact ⟨hs, RepV.mono h0 hs.keep hs.ow, ha⟩
    · cases h
  | .o r n :: cs, u :: us, H, vs, ups, p, hm, h, hp, ⟨h0, h1⟩ => by
    simp only [frzCs] at h
    split at h
    · rename_i v u1 p1 hc
      split at h
      · rename_i vs' u2 p2 hr
        cases h
        obtain ⟨s1, hv⟩ := frzC_sound hm hc hp.1 h0
        obtain ⟨s2, ha⟩ := frzCs_sound s1.mem hr hp.2 (h1.mono fun _ _ h => h.mono s1.keep s1.ow s1.sub)
        rw [updL_append]
        exact ⟨s1.trans s2, hv.mono s2.keep s2.ow, ha⟩
      · cases h
    · cases h
  | [], _ :: _, _, _, _, _, _, _, _, h => h.elim
  | .v _ :: _, [], _, _, _, _, _, _, _, h => h.elim
  | .o _ _ :: _, [], _, _, _, _, _, _, _, h => h.elim

theorem all2_oneCell : ∀ {cs : List C} {us : List Value}, All2 (RepC w ow ρ) cs us → ∀ u, u ∈ us → u.oneCell = true
  | [], [], _, u, h => by cases h
  | _ :: _, x :: us, ⟨h0, h1⟩, u, h => by
    cases h with
    | head => exact RepC.oneCell h0
    | tail _ h => exact all2_oneCell h1 u h
  | [], _ :: _, h, _, _ => h.elim
  | _ :: _, [], h, _, _ => h.elim

theorem run_storeVar_blk {t : TypeId} {ty : Ty} (ht : TyOk P t ty) {b o : Nat} {T : TypeId} {fr : Nat × Nat} {vs : Array Value} {u : Value} (h : w.heap[b]? = some (.cells vs T fr)) (hf : NoFr vs fr)
    (hs : u.cells.size = ty.size) (hl : o + ty.size ≤ vs.size) (h1 : ∀ x, x ∈ u.cells.toList → x.oneCell = true) :
    (storeVar t ⟨b, o, none⟩ u).run P w = .ok () (setBlk w b (.cells (splice vs.toList o u.cells.toList).toArray T fr)) := by
  unfold storeVar
  have := run_storeCells_blk (P := P) (o := o) u.cells.toList 0 vs w h hf (by simp; omega) h1
  simp only [Nat.add_zero] at this
  simp [run_sizeOf ht, hs, this]

theorem rFr_splice {k : Nat} {vs : Array Value} {fr : Nat × Nat} {xs : List Value} {o : Nat} (hf : RFr k vs fr) (hl : o + xs.length ≤ vs.size) : RFr k (splice vs.toList o xs).toArray fr :=
  hf.size (by simp [splice_len (cs := vs.toList) (xs := xs) (off := o) (by simpa using hl)])
theorem noFr_splice {vs : Array Value} {fr : Nat × Nat} {xs : List Value} {o : Nat} (hf : NoFr vs fr) (hl : o + xs.length ≤ vs.size) : NoFr (splice vs.toList o xs).toArray fr :=
  hf.size (by simp [splice_len (cs := vs.toList) (xs := xs) (off := o) (by simpa using hl)])

theorem row_set {α : Type} {k base : Nat} {rows : List (List α)} {vs : Array Value} {R : α → Value → Prop} {i off : Nat} {xs : List α} {us : List Value} (hlen : ∀ r, r ∈ rows → r.length = k)
    (h3 : ∀ (i : Nat) (r : List α) (j : Nat) (v : α), rows[i]? = some r → r[j]? = some v → ∃ x, vs[base + i * k + j]? = some x ∧ R v x) (hi : i < rows.length) (hoff : off + xs.length ≤ k)
    (hx : All2 R xs us) (hb : base + rows.length * k ≤ vs.size) :
    (∀ r, r ∈ rows.set i (splice (rows.getD i []) off xs) → r.length = k) ∧
    ∀ (i' : Nat) (r : List α) (j : Nat) (v : α), (rows.set i (splice (rows.getD i []) off xs))[i']? = some r → r[j]? = some v → ∃ x, ((splice vs.toList (base + i * k + off) us).toArray)[base + i' * k + j]? = some x ∧ R v x := by
  have hri : rows[i]? = some (rows.getD i []) := by simp [List.getD, hi]
  have hrl : (rows.getD i []).length = k := hlen _ (List.mem_of_getElem? hri)
  have hxl := hx.length
  have hsl : (splice (rows.getD i []) off xs).length = k := by rw [splice_len (by omega), hrl]
  have hik : i * k + k ≤ rows.length * k := by
    have := Nat.mul_le_mul_right k (show i + 1 ≤ rows.length by omega)
    rw [Nat.add_mul] at this; omega
  constructor
  · intro r hr
    rcases List.mem_or_eq_of_mem_set hr with h | rfl
    · exact hlen r h
    · exact hsl
  · intro i' r j v hi' hj
    have get : ∀ n : Nat, (splice vs.toList (base + i * k + off) us)[n]? = if n < base + i * k + off then vs[n]? else if n < base + i * k + off + us.length then us[n - (base + i * k + off)]? else vs[n]? := by
      intro n
      unfold splice
      rw [List.getElem?_append, List.getElem?_append]
      simp only [List.length_append, List.length_take, Array.length_toList]
      have hmin : min (base + i * k + off) vs.size = base + i * k + off := by omega
      rw [hmin]
      by_cases h1 : n < base + i * k + off
      · rw [if_pos (by omega), if_pos h1, if_pos h1, List.getElem?_take, if_pos h1]; simp
      · by_cases h2 : n < base + i * k + off + us.length
        · rw [if_pos h2, if_neg h1, if_neg h1, if_pos h2]
        · rw [if_neg h2, if_neg h1, if_neg h2, List.getElem?_drop]
          rw [show base + i * k + off + us.length + (n - (base + i * k + off + us.length)) = n by omega]
          simp
    by_cases e : i' = i
    · subst e
      rw [List.getElem?_set_self hi] at hi'
      cases hi'
      have hjk : j < k := by rw [← hsl]; exact (List.getElem?_eq_some_iff.1 hj).1
      simp only [List.getElem?_toArray, get]
      unfold splice at hj
      rw [List.getElem?_append, List.getElem?_append] at hj
      simp only [List.length_append, List.length_take, hrl] at hj
      have hmin : min off k = off := by omega
      rw [hmin] at hj
      by_cases h1 : j < off
      · rw [if_pos (by omega), if_pos h1, List.getElem?_take, if_pos h1] at hj
        rw [if_pos (by omega)]
        exact h3 _ _ _ _ hri hj
      · by_cases h2 : j < off + xs.length
        · rw [if_pos h2, if_neg h1] at hj
          rw [if_neg (by omega), if_pos (by omega), show base + i' * k + j - (base + i' * k + off) = j - off by omega]
          obtain ⟨b, hb', hr⟩ := hx.get hj
          exact ⟨b, hb', hr⟩
        · rw [if_neg h2, List.getElem?_drop, show off + xs.length + (j - (off + xs.length)) = j by omega] at hj
          rw [if_neg (by omega), if_neg (by omega)]
          exact h3 _ _ _ _ hri hj
    · rw [List.getElem?_set_ne (by omega)] at hi'
      have hr' := hlen r (List.mem_of_getElem? hi')
      have hjk : j < k := by rw [← hr']; exact (List.getElem?_eq_some_iff.1 hj).1
      simp only [List.getElem?_toArray, get]
      have far : base + i' * k + j < base + i * k + off ∨ base + i * k + off + us.length ≤ base + i' * k + j := by
        rcases Nat.lt_or_ge i' i with h | h
        · left
          have := Nat.mul_le_mul_right k (show i' + 1 ≤ i by omega)
          rw [Nat.add_mul] at this; omega
        · right
          have := Nat.mul_le_mul_right k (show i + 1 ≤ i' by omega)
          rw [Nat.add_mul] at this; omega
      rcases far with h | h
      · rw [if_pos h]; exact h3 _ _ _ _ hi' hj
      · rw [if_neg (by omega), if_neg (by omega)]; exact h3 _ _ _ _ hi' hj

theorem store_sound (hm : Mem own0 mt w0 ρ H w) {t : TypeId} {ty : Ty} (ht : TyOk P t ty) {d e : D} {u v : Value} (hd : RepD w (Ow own0 ρ H) ρ d u) (he : RepD w (Ow own0 ρ H) ρ e v)
    (hg : (storeE ty H d e).gives P (d', ups)) : d' = .top ∧ MRun P own0 mt w0 ρ H w (Instr.storeAt t u v) ups fun _ _ _ _ => True := by
  unfold storeE at hg
  split at hg
  · rename_i b off e
    split at hg
    · rename_i cs hb
      obtain ⟨⟨hl, hlt⟩, hg⟩ := hg
      have hg' : (d', ups) = (_, _) := hg
      cases hg'
      refine ⟨rfl, ?_⟩
      obtain ⟨bn, z, c, hp, rfl⟩ := hd
      obtain ⟨b', c', hp', vs, T, fr, hh, hf, ha⟩ := hm.blks b _ hb
      rw [hp] at hp'; cases hp'
      have hc := rep_cells he
      have hal := ha.length
      have hrun := run_storeVar_blk (o := off) ht hh hf (by rw [← hc.2]; exact hl) (by simp at hal; omega) (all2_oneCell hc.1)
      refine ⟨(), setBlk w bn (.cells (splice vs.toList off v.cells.toList).toArray T fr), ρ, ?_, Step.write (i := b) hm hp (by rw [hb]; rfl) (blk := .loc (splice cs off e.cells)) rfl ⟨_, _, hp, _, T, fr, setBlk_heap_same (Array.getElem?_eq_some_iff.1 hh).1, noFr_splice hf ?_, ?_⟩, trivial⟩
      · simpa [Instr.storeAt, Instr.sureAddr] using hrun
      · have := hc.2; simp at hal ⊢; omega
      · simp only []
        refine (all2_splice ha hc.1).mono fun _ _ h => h.mono (Keep.setBlk (.inr ⟨b, _, _, hp, by rw [hb]; rfl⟩) _) (fun _ _ h => h) (.refl _)
    · exact hg.elim
  · rename_i r k i off e
    split at hg
    · rename_i vs' u1 p1 hv
      split at hg
      · rename_i k' rows hb
        obtain ⟨⟨hp1, hl, rfl, hi, hoff⟩, hg⟩ := hg
        have hg' : (d', ups) = (_, _) := hg
        cases hg'
        refine ⟨rfl, ?_⟩
        have hc0 := rep_cells he
        obtain ⟨s1, hvr⟩ := frzCs_sound hm hv hp1 hc0.1
        have hc2 := hc0.2
        have hc1 := hc0.1
        obtain ⟨b, base, cap, hp, rfl⟩ := hd
        have hm1 := s1.mem
        obtain ⟨hrl, m, hm', h⟩ := hm1.blks r _ hb
        rw [hp] at hm'; cases hm'
        obtain ⟨hcap, vs, T, fr, hh, hf, h2, h3⟩ := h
        have hvl := hvr.length
        have hmul := Nat.mul_le_mul_right k' hcap
        have hik : i * k' + k' ≤ rows.length * k' := by
          have := Nat.mul_le_mul_right k' (show i + 1 ≤ rows.length by omega)
          rw [Nat.add_mul] at this; omega
        have hbound : base + i * k' + off + v.cells.size ≤ vs.size := by simp at hvl; omega
        obtain ⟨hr1, hr2⟩ := row_set (xs := vs') (off := off) (us := v.cells.toList) hrl h3 hi (by omega) hvr (by omega)
        have hrun := run_storeVar_blk (o := base + i * k' + off) (u := v) ht hh hf.1 (by simp at hvl; omega) (by simp at hvl; omega) (all2_oneCell hc1)
        have s2 := Step.write (i := r) hm1 hp (by rw [hb]; rfl) (blk := .row k' (rows.set i (splice (rows.getD i []) off vs'))) rfl (vs := (splice vs.toList (base + i * k' + off) v.cells.toList).toArray) (T := T) (fr := fr)
          ⟨hr1, _, hp, by simpa using hcap, _, T, fr, setBlk_heap_same (Array.getElem?_eq_some_iff.1 hh).1, rFr_splice hf (by simp at hvl ⊢; omega), (by simp; rw [splice_len (by simp at hvl ⊢; omega)]; simpa using h2), (by
            intro i' r' j v' hi' hj
            obtain ⟨x, hx, hv'⟩ := hr2 i' r' j v' hi' hj
            exact ⟨x, hx, hv'.mono (Keep.setBlk (.inr ⟨r, _, _, hp, by rw [hb]; rfl⟩) _) fun _ _ h => h⟩)⟩
        refine ⟨(), setBlk w b (.cells (splice vs.toList (base + i * k' + off) v.cells.toList).toArray T fr), ρ, ?_, ?_, trivial⟩
        · simpa [Instr.storeAt, Instr.sureAddr] using hrun
        · rw [updL_append]; exact s1.trans s2
      · exact hg.elim
    · exact hg.elim
  · exact hg.elim

end Eng
end Go.Proofs.YtllfgnhnooonfaaDoor
