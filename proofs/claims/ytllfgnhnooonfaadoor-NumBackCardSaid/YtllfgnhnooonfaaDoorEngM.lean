/- Each operation does what the evaluator says: append. -/
import Derived.Test.YtllfgnhnooonfaaDoorEngL
set_option autoImplicit false
set_option linter.unusedSimpArgs false
set_option linter.unusedVariables false
namespace Go.Proofs.YtllfgnhnooonfaaDoor
namespace Eng

variable {P : Program} {Γ : Nat → Option Ty} {own0 mt : Nat → Prop} {w0 w : World} {ow : Nat → Prop} {ρ : Nat → Option Pl} {H : Nat → Option Blk} {q : Bool}
  {d' : D} {ups : Ups}

/-- append's run. -/
theorem run_append_room (ts : Array TypeId) (T t0 t1 e : TypeId) (d1 : TypeDesc) (te : Ty) (h0 : ts[0]? = some t0) (h1 : ts[1]? = some t1) (ht0 : P.underlying t0 = some (.slice e)) (ht1 : P.underlying t1 = some d1)
    (hd1 : ∀ k, d1 ≠ .int k) (hte : TyOk P e te) (w : World) (base : Option Addr) (sLen sCap : Nat) (x : Value) (n : Nat) (news : List Value)
    (hl : (Builtin.lenOf x).run P w = .ok n w) (hf : (Builtin.firstCells te.size n x).run P w = .ok news.toArray w) (hroom : sLen + n ≤ sCap) :
    (Builtin.append_ ts T #[.slice base sLen sCap, x]).run P w =
      match base with
      | some a => ((storeCells (a.add (sLen * te.size)) news).run P w).andThen fun _ w => .ok (.slice base (sLen + n) sCap) w
      | none => .ok (.slice base (sLen + n) sCap) w := by
  have hz : (match d1 with | .int _ => true | _ => false) = false := by cases d1 <;> first | rfl | exact absurd rfl (hd1 _)
  cases base <;> simp [Builtin.append_, h0, h1, run_underlying ht0, run_underlying ht1, run_sizeOf hte, hz, hl, hf, hroom]

theorem run_append_grow' (ts : Array TypeId) (T t0 t1 e : TypeId) (d1 : TypeDesc) (te : Ty) (h0 : ts[0]? = some t0) (h1 : ts[1]? = some t1) (ht0 : P.underlying t0 = some (.slice e)) (ht1 : P.underlying t1 = some d1)
    (hd1 : ∀ k, d1 ≠ .int k) (hte : TyOk P e te) (w : World) (base : Option Addr) (sLen sCap : Nat) (x : Value) (n : Nat) (olds news : List Value)
    (hl : (Builtin.lenOf x).run P w = .ok n w) (hf' : (Builtin.firstCells te.size n x).run P w.drew = .ok news.toArray w.drew)
    (ho : (Builtin.firstCells te.size sLen (.slice base sLen sCap)).run P w.drew = .ok olds.toArray w.drew)
    (hroom : sCap < sLen + n) (h63 : sLen + n ≤ 70368744177664) (h48 : (sLen + n) * te.bytes ≤ 70368744177664) :
    (Builtin.append_ ts T #[.slice base sLen sCap, x]).run P w =
      .ok (.slice (some ⟨w.heap.size, 0, none⟩) (sLen + n) (grownCap w (sLen + n) sCap e)) (w.drew.alloc (.cells (olds ++ news ++ (Builtin.zeroCells te.zero.cells (grownCap w (sLen + n) sCap e - (sLen + n))).toList).toArray e)) := by
  have hz : (match d1 with | .int _ => true | _ => false) = false := by cases d1 <;> first | rfl | exact absurd rfl (hd1 _)
  obtain ⟨i, hi, hiz, his, hib⟩ := hte.info
  have hn : ¬ (sLen + n ≤ sCap) := by omega
  have h63' : ¬ (9223372036854775807 < ((sLen : Int) + (n : Int))) := by omega
  have h48' : ¬ (281474976710656 < Builtin.nextslicecap (sLen + n) sCap * i.bytes) := by
    have := nextslicecap_le (need := sLen + n) (old := sCap) (by omega)
    have h2 : Builtin.nextslicecap (sLen + n) sCap * i.bytes ≤ (2 * (sLen + n)) * i.bytes := Nat.mul_le_mul_right _ this
    rw [hib] at h2 ⊢
    rw [Nat.mul_assoc] at h2
    omega
  simp [Builtin.append_, h0, h1, run_underlying ht0, run_underlying ht1, run_sizeOf hte, hz, hl, hn, typeInfo, hi, h63', h48', Question.forced, ho, hf', run_zero hte, newRow, grownCap]
  congr 2
  apply Array.ext'
  simp

/-- What an append, a copy, reads: n elements' cells. -/
def Source (P : Program) (w : World) (ow : Nat → Prop) (size : Nat) (rs : List (List V)) (u : Value) : Prop :=
  (∀ w' : World, (Builtin.lenOf u).run P w' = .ok rs.length w') ∧ ∃ news : List Value, All2 (RepV w ow) rs.flatten news ∧
    ∀ w' : World, (∀ a : Addr, w'.cell? a = w.cell? a) → (Builtin.firstCells size rs.length u).run P w' = .ok news.toArray w'

theorem source_cells {size : Nat} {rs : List (List V)} (hk : ∀ r, r ∈ rs → r.length = size) {a : Option Addr} {c : Nat} (hz : a = none → rs = [])
    (h : ∀ ad, a = some ad → ∀ (i : Nat) (r : List V) (j : Nat) (v : V), rs[i]? = some r → r[j]? = some v → ∃ x, w.cell? (ad.add (i * size + j)) = some x ∧ RepV w ow v x) :
    Source P w ow size rs (.slice a rs.length c) := by
  refine ⟨fun w' => rfl, ?_⟩
  cases a with
  | none => have := hz rfl; subst this; exact ⟨[], trivial, fun w' _ => rfl⟩
  | some ad =>
    obtain ⟨xs, h1, h2⟩ := flat_of_get (f := fun n => w.cell? (ad.add n)) hk (h ad rfl)
    refine ⟨xs, h1, fun w' hw' => ?_⟩
    exact run_firstCells_some (P := P) w' size rs.length ad rs.length c xs (by rw [← h1.length, flatten_len hk]) fun j v hj => by rw [hw']; exact h2 j v hj

theorem source_rows (hm : Mem own0 mt w0 ρ H w) {size : Nat} {x : D} {rs : List (List V)} {u : Value} (hx : RepD w (Ow own0 ρ H) ρ x u) (h : rowsOf H x = some rs) (hk : ∀ r, r ∈ rs → r.length = size)
    (hlen : ∀ r n, x = .e (.c (.o r n)) → n = rs.length) : Source P w (Ow own0 ρ H) size rs u := by
  unfold rowsOf at h
  split at h
  · cases h
    obtain ⟨a, c, rfl, _, hz, hkk, hc⟩ := rep_s (show RepV w _ _ u from hx)
    rename_i k rows
    refine source_cells hk hz fun ad ha i r j v hi hj => ?_
    obtain ⟨x, h1, h2, _⟩ := hc ad ha i r j v hi hj
    have : r.length = k := hkk i r hi
    have h3 : r.length = size := hk r (List.mem_of_getElem? hi)
    exact ⟨x, by rw [← h3, this]; exact h1, h2⟩
  · cases h
    have := rep_nil hx; subst this
    exact source_cells (by simp) (by simp) (by simp)
  · rename_i r n
    have key : ∀ (k : Nat) (rows : List (List V)) (blk : Blk), (blk = .row k rows ∨ blk = .ice k rows) → H r = some blk → rs = rows.take n → Source P w (Ow own0 ρ H) size rs u := by
      intro k rows blk hblk hb hrs
      have hn := hlen r n rfl
      obtain ⟨hrl, m, hm', h⟩ := row_of_blk hblk (hm.blks r _ hb)
      obtain ⟨m', hm'', hc⟩ := hx
      rw [hm'] at hm''; cases hm''
      cases m with
      | nil =>
        obtain ⟨rfl, a, rfl⟩ := hc
        have h0 : rs = [] := by rw [hrs]; try rfl
        subst h0
        exact source_cells (by simp) (by simp) (by simp)
      | blk b base cap =>
        obtain ⟨rfl, hle⟩ := hc
        obtain ⟨hcap, vs, T, fr, hh, hf, h2, h3⟩ := h
        subst hn
        refine source_cells hk (by simp) fun ad ha i r' j v hi hj => ?_
        cases ha
        have hi' : rows[i]? = some r' := by
          rw [hrs, List.getElem?_take] at hi
          split at hi
          · exact hi
          · cases hi
        obtain ⟨x, hx1, hx2⟩ := h3 i r' j v hi' hj
        have e1 : r'.length = k := hrl r' (List.mem_of_getElem? hi')
        have e2 : r'.length = size := hk r' (List.mem_of_getElem? hi)
        refine ⟨x, ?_, hx2⟩
        rw [addr_add_lit, cell_lit hh, ← e2, e1, ← Nat.add_assoc]
        exact hx1
    split at h
    · rename_i hb; cases h; exact key _ _ _ (.inl rfl) hb rfl
    · rename_i hb; cases h; exact key _ _ _ (.inr rfl) hb rfl
    · cases h
  · cases h

theorem source_string {s : ByteArray} {size : Nat} (hk : ∀ r, r ∈ bytesRows s → r.length = size) : Source P w ow size (bytesRows s) (.string s) := by
  have hl : (bytesRows s).length = s.size := by simp [bytesRows]
  refine ⟨fun w' => by simp [Builtin.lenOf, hl], s.data.toList.map fun b => .int .u8 b.toNat, ?_, fun w' _ => ?_⟩
  · have : (bytesRows s).flatten = s.data.toList.map fun b => .x (.int .u8 b.toNat) := by
      unfold bytesRows
      induction s.data.toList with
      | nil => rfl
      | cons b r ih => simp [ih]
    rw [this]
    induction s.data.toList with
    | nil => trivial
    | cons b r ih => exact ⟨RepV.x _ rfl, ih⟩
  · simp only [Builtin.firstCells, hl, Sem.run_pure]
    have : s.extract 0 s.size = s := by simp
    rw [this]
    congr 1
    apply Array.ext'
    simp

theorem zeroCells_len {te : Ty} {e : TypeId} (hte : TyOk P e te) (n : Nat) : (Builtin.zeroCells te.zero.cells n).size = n * te.size := by
  rw [size_zeroCells, hte.zsize]

/-- A new row: what was there, and what came. -/
theorem newRow_step (hm : Mem own0 mt w0 ρ H w) {nx : Nat} (hnx : H nx = none) {te : Ty} {e : TypeId} (hte : TyOk P e te) {rows : List (List V)} {xs : List Value} (hk : ∀ r, r ∈ rows → r.length = te.size)
    (h : All2 (RepV w (Ow own0 ρ H)) rows.flatten xs) {cap : Nat} (hcap : rows.length ≤ cap) (zs : List Value) (hz : zs.length = (cap - rows.length) * te.size) (T : TypeId) :
    Step own0 mt w0 ρ H w (upd ρ nx (some (.blk w.heap.size 0 cap))) (upd H nx (some (.row te.size rows))) (w.alloc (.cells (xs ++ zs).toArray T (0, 0))) := by
  have hxl : xs.length = rows.length * te.size := by rw [← h.length, flatten_len hk]
  have hsum : rows.length * te.size + (cap - rows.length) * te.size = cap * te.size := by rw [← Nat.add_mul]; congr 1; omega
  refine Step.new hm hnx ⟨hk, .blk w.heap.size 0 cap, by rw [upd_same], hcap, _, T, (0, 0), heap_alloc_new _ _, ⟨.inl rfl, .inr rfl⟩, ?_, ?_⟩
  · simp [hxl, hz]; omega
  · refine rows_of_flat hk (h.mono fun _ _ h => h.mono (Keep.alloc _ _ _) fun b hb' h => ow_alloc hm hnx _ hb' h) fun j v hj => ?_
    have := (List.getElem?_eq_some_iff.1 hj).1
    simp only [Nat.zero_add, List.getElem?_toArray]
    rw [List.getElem?_append_left this]; exact hj

theorem append_core (hm : Mem own0 mt w0 ρ H w) {nx : Nat} (hnx : H nx = none) {te : Ty} {t0 t1 e : TypeId} {d1 : TypeDesc} (ht0 : P.underlying t0 = some (.slice e)) (ht1 : P.underlying t1 = some d1)
    (hd1 : ∀ k, d1 ≠ .int k) (hte : TyOk P e te) {ts : Array TypeId} (h0 : ts[0]? = some t0) (h1 : ts[1]? = some t1) (T : TypeId) {olds rs : List (List V)} {us ux : Value}
    {base : Option Addr} {sCap : Nat} (hus : us = .slice base olds.length sCap) (ho : Source P w (Ow own0 ρ H) te.size olds us) (hx : Source P w (Ow own0 ρ H) te.size rs ux) (hko : ∀ r, r ∈ olds → r.length = te.size) (hkr : ∀ r, r ∈ rs → r.length = te.size)
    (hroom : sCap < olds.length + rs.length) (h48 : (olds.length + rs.length) * te.bytes ≤ 70368744177664) (h63 : olds.length + rs.length ≤ 70368744177664) :
    MRun P own0 mt w0 ρ H w (Builtin.append_ ts T #[us, ux]) [(nx, .row te.size (olds ++ rs))] fun w' ow' ρ' v => RepD w' ow' ρ' (.e (.c (.o nx (olds.length + rs.length)))) v := by
  subst hus
  obtain ⟨hxl, news, hxn, hxf⟩ := hx
  obtain ⟨_, old, hon, hof⟩ := ho
  have hcell : ∀ a : Addr, w.drew.cell? a = w.cell? a := fun a => rfl
  have hrun := run_append_grow' (P := P) ts T t0 t1 e d1 te h0 h1 ht0 ht1 hd1 hte w base olds.length sCap ux rs.length old news (hxl w) (hxf w.drew hcell) (hof w.drew hcell) hroom h63 h48
  have hge := grownCap_ge w (olds.length + rs.length) sCap e
  have hkk : ∀ r, r ∈ olds ++ rs → r.length = te.size := fun r hr => by
    rcases List.mem_append.1 hr with h | h
    · exact hko r h
    · exact hkr r h
  have hfl : All2 (RepV w (Ow own0 ρ H)) (olds ++ rs).flatten (old ++ news) := by rw [List.flatten_append]; exact hon.append hxn
  have hst := newRow_step (Step.drew hm).mem hnx hte (rows := olds ++ rs) (cap := grownCap w (olds.length + rs.length) sCap e) hkk (hfl.mono fun _ _ h => h.mono (Keep.drew _ _) fun _ _ h => h) (by simpa using hge)
    (Builtin.zeroCells te.zero.cells (grownCap w (olds.length + rs.length) sCap e - (olds.length + rs.length))).toList (by simp [zeroCells_len hte]) e
  exact ⟨_, _, _, hrun, (Step.drew hm).trans hst, .blk w.drew.heap.size 0 (grownCap w (olds.length + rs.length) sCap e), by rw [upd_same], rfl, hge⟩

theorem append_room_core (hm : Mem own0 mt w0 ρ H w) {nx r : Nat} (hnx : H nx = none) {te : Ty} {t0 t1 e : TypeId} {d1 : TypeDesc} (ht0 : P.underlying t0 = some (.slice e)) (ht1 : P.underlying t1 = some d1)
    (hd1 : ∀ k, d1 ≠ .int k) (hte : TyOk P e te) {ts : Array TypeId} (h0 : ts[0]? = some t0) (h1 : ts[1]? = some t1) (T : TypeId) {rows rs : List (List V)} {n : Nat} {ux : Value}
    {b base cap : Nat} (hr : H r = some (.row te.size rows)) (hp : ρ r = some (.blk b base cap)) (hn : n ≤ rows.length) (hx : Source P w (Ow own0 ρ H) te.size rs ux) (hkr : ∀ r, r ∈ rs → r.length = te.size)
    (hroom : n + rs.length ≤ cap) :
    MRun P own0 mt w0 ρ H w (Builtin.append_ ts T #[.slice (some ⟨b, base, none⟩) n cap, ux]) [(r, .gone), (nx, .row te.size (rows.take n ++ rs))] fun w' ow' ρ' v => RepD w' ow' ρ' (.e (.c (.o nx (n + rs.length)))) v := by
  obtain ⟨hxl, news, hxn, hxf⟩ := hx
  have hrun := run_append_room (P := P) ts T t0 t1 e d1 te h0 h1 ht0 ht1 hd1 hte w (some ⟨b, base, none⟩) n cap ux rs.length news (hxl w) (hxf w fun _ => rfl) hroom
  obtain ⟨hrl, m, hm', h⟩ := hm.blks r _ hr
  rw [hp] at hm'; cases hm'
  obtain ⟨hcap, vs, T', fr, hh, hf, h2, h3⟩ := h
  have hnl : news.length = rs.length * te.size := by rw [← hxn.length, flatten_len hkr]
  have hmul : (n + rs.length) * te.size ≤ cap * te.size := Nat.mul_le_mul_right _ hroom
  rw [Nat.add_mul] at hmul
  have hone : ∀ x, x ∈ news → x.oneCell = true := fun x hx => by
    obtain ⟨j, hj⟩ := List.getElem?_of_mem hx
    have hjl := (List.getElem?_eq_some_iff.1 hj).1
    have h' := hxn.length
    obtain ⟨y, hy, hr⟩ := hxn.get (i := j) (List.getElem?_eq_getElem (by omega))
    rw [hj] at hy; cases hy; exact hr.oneCell
  have hst := run_storeCells_blk (P := P) (b := b) (o := base + n * te.size) news 0 vs w hh hf.1 (by omega) hone
  simp only [Nat.add_zero] at hst
  simp only [addr_add_lit, hst, Result.andThen_ok] at hrun
  have hlive : live (H r) = true := by rw [hr]; rfl
  have hkk : ∀ r', r' ∈ rows.take n ++ rs → r'.length = te.size := fun r' hr' => by
    rcases List.mem_append.1 hr' with h | h
    · exact hrl r' (List.mem_of_mem_take h)
    · exact hkr r' h
  -- the cells of the row that stays
  obtain ⟨olds, ho1, ho2⟩ := flat_of_get (rows := rows.take n) (f := fun j => vs[base + j]?) (fun r' h => hrl r' (List.mem_of_mem_take h)) (R := RepV w (Ow own0 ρ H)) fun i r' j v hi hj => by
    rw [List.getElem?_take] at hi
    split at hi
    · obtain ⟨x, hx1, hx2⟩ := h3 i r' j v hi hj
      exact ⟨x, by rw [← Nat.add_assoc]; exact hx1, hx2⟩
    · cases hi
  have hol : olds.length = n * te.size := by
    rw [← ho1.length, flatten_len fun r' h => hrl r' (List.mem_of_mem_take h)]
    simp [Nat.min_eq_left hn]
  have hstep1 : Step own0 mt w0 ρ H w ρ (upd H r (some (.row te.size (rows.take n ++ rs)))) (setBlk w b (.cells (splice vs.toList (base + n * te.size) news).toArray T' fr)) := by
    refine Step.write hm hp hlive rfl ⟨hkk, _, hp, by simp; omega, _, T', fr, setBlk_heap_same (Array.getElem?_eq_some_iff.1 hh).1, rFr_splice hf (by omega), ?_, ?_⟩
    · simp; rw [splice_len (by simp; omega)]; simpa using h2
    · have hfl : All2 (RepV w (Ow own0 ρ H)) (rows.take n ++ rs).flatten (olds ++ news) := by rw [List.flatten_append]; exact ho1.append hxn
      refine rows_of_flat hkk (hfl.mono fun _ _ h => h.mono (Keep.setBlk (.inr ⟨r, _, _, hp, hlive⟩) _) fun _ _ h => h) fun j v hj => ?_
      simp only [List.getElem?_toArray, splice]
      have hbn : (List.take (base + n * te.size) vs.toList).length = base + n * te.size := by simp; omega
      by_cases hjn : j < n * te.size
      · rw [List.getElem?_append_left (by omega)] at hj
        have h4 := ho2 j v hj
        rw [List.getElem?_append_left (by rw [List.length_append, hbn]; omega), List.getElem?_append_left (by rw [hbn]; omega), List.getElem?_take, if_pos (by omega)]
        simpa using h4
      · rw [List.getElem?_append_right (by omega), hol] at hj
        have hjl := (List.getElem?_eq_some_iff.1 hj).1
        rw [List.getElem?_append_left (by rw [List.length_append, hbn]; omega), List.getElem?_append_right (by rw [hbn]; omega), hbn]
        rw [show base + j - (base + n * te.size) = j - n * te.size by omega]; exact hj
  have hne : nx ≠ r := fun e => by subst e; rw [hnx] at hr; cases hr
  have hstep2 := Step.rename hstep1.mem (r := r) (i := nx) (blk := .row te.size (rows.take n ++ rs)) (by simp) hp (by rw [upd_other _ _ hne]; exact hnx) (fun {w ow ρ ρ'} hB e _ => by
    obtain ⟨hk, m, hm, h⟩ := hB
    exact ⟨hk, m, by rw [← e]; exact hm, h⟩)
  have hH : upd (upd (upd H r (some (.row te.size (rows.take n ++ rs)))) r (some .gone)) nx (some (.row te.size (rows.take n ++ rs))) = upd (upd H r (some .gone)) nx (some (.row te.size (rows.take n ++ rs))) := by
    funext j; unfold upd; split <;> (try rfl) <;> split <;> rfl
  rw [hH] at hstep2
  exact ⟨_, _, _, hrun, hstep1.trans hstep2, .blk b base cap, by rw [upd_same], rfl, hroom⟩

end Eng
end Go.Proofs.YtllfgnhnooonfaaDoor
