/- Views of an own row: cuts that are written in place. -/
import Derived.Test.YtllfgnhnooonfaaDoorEngR
set_option autoImplicit false
set_option linter.unusedSimpArgs false
set_option linter.unusedVariables false
namespace Go.Proofs.YtllfgnhnooonfaaDoor
namespace Eng

/-- A cut of an own slice, as a view: the row stays what it is. -/
def viewE (Γ : Nat → Option Ty) (ty : Ty) (q : Bool) (H : Nat → Option Blk) (nx : Nat) (x : D) (lo hi mx : Option D) : Tr (D × Ups) :=
  match x with
  | .e (.c (.o r n)) => match ty.desc with
    | .slice e => match Γ e with
      | some te => match mx with
        | some (.x (.int _ m)) => match lo, hi with
          | some (.x (.int _ l)), some (.x (.int _ h)) => .ask (q = true → 0 ≤ l ∧ l ≤ h ∧ h ≤ m ∧ m ≤ n) (.ret (.top, []))
          | _, _ => .fail
        | some _ => .fail
        | none => match H r with
          | some (.row k rows) => match boundE 0 lo, boundE n hi with
            | some l, some h => .ask (q = true → k = te.size ∧ 0 ≤ l ∧ l ≤ h ∧ h ≤ rows.length)
                (.ret (match lo with
                  | none => .e (.c (.o r h.toNat))
                  | some _ => .u r te.size l.toNat (h.toNat - l.toNat), []))
            | _, _ => .fail
          | _ => .fail
      | none => .fail
    | _ => .fail
  | _ => sliceE Γ ty q H nx x lo hi mx

/-- Rows written over others. -/
def putRows (rows : List (List V)) (off : Nat) (new : List (List V)) : List (List V) := splice rows off new

/-- What is appended in place lies in the same row. -/
def appendUE (Γ : Nat → Option Ty) (ts : Array TypeId) (H : Nat → Option Blk) (r n r' k off m : Nat) : Tr (D × Ups) :=
  match ts[0]?, ts[1]? with
  | some t0, some t1 => match Γ t0, Γ t1 with
    | some ty0, some ty1 => match ty0.desc, ty1.desc with
      | .slice e, .slice _ => match Γ e with
        | some te => match H r with
          | some (.row k' rows) => .ask (r' = r ∧ k = te.size ∧ k' = te.size ∧ off + m ≤ rows.length ∧ n + m ≤ rows.length)
              (.ret (.e (.c (.o r (n + m))), [(r, .row te.size (putRows rows n ((rows.drop off).take m)))]))
          | _ => .fail
        | none => .fail
      | _, _ => .fail
    | _, _ => .fail
  | _, _ => .fail

def clearE (Γ : Nat → Option Ty) (ts : Array TypeId) (H : Nat → Option Blk) (r k off m : Nat) : Tr (D × Ups) :=
  match ts[0]? with
  | some t0 => match Γ t0 with
    | some ty0 => match ty0.desc with
      | .slice e => match Γ e with
        | some te => match H r with
          | some (.row k' rows) => .ask (k = te.size ∧ k' = te.size ∧ off + m ≤ rows.length)
              (.ret (.top, [(r, .row te.size (putRows rows off (List.replicate m (zeroV te))))]))
          | _ => .fail
        | none => .fail
      | _ => .fail
    | none => .fail
  | none => .fail

variable {P : Program} {Γ : Nat → Option Ty} {own0 mt : Nat → Prop} {w0 w : World} {ow : Nat → Prop} {ρ : Nat → Option Pl} {H : Nat → Option Blk} {q : Bool}
  {d' : D} {ups : Ups}

theorem flatten_take {α : Type} {k : Nat} : ∀ {rows : List (List α)} (n : Nat), (∀ r, r ∈ rows → r.length = k) → (rows.take n).flatten = rows.flatten.take (n * k)
  | [], n, _ => by simp
  | r :: rows, 0, _ => by simp
  | r :: rows, n + 1, h => by
    have hr : r.length = k := h r (by simp)
    simp only [List.take_succ_cons, List.flatten_cons]
    rw [flatten_take n fun x hx => h x (by simp [hx]), List.take_append, hr, Nat.add_mul, Nat.one_mul, Nat.add_sub_cancel, List.take_of_length_le (l := r) (by omega)]

theorem flatten_drop {α : Type} {k : Nat} : ∀ {rows : List (List α)} (n : Nat), (∀ r, r ∈ rows → r.length = k) → (rows.drop n).flatten = rows.flatten.drop (n * k)
  | [], n, _ => by simp
  | r :: rows, 0, _ => by simp
  | r :: rows, n + 1, h => by
    have hr : r.length = k := h r (by simp)
    simp only [List.drop_succ_cons, List.flatten_cons]
    rw [flatten_drop n fun x hx => h x (by simp [hx]), List.drop_append, hr, Nat.add_mul, Nat.one_mul, Nat.add_sub_cancel, List.drop_of_length_le (l := r) (by omega), List.nil_append]

theorem flatten_splice {α : Type} {k : Nat} {rows new : List (List α)} {off : Nat} (hr : ∀ r, r ∈ rows → r.length = k) (hn : ∀ r, r ∈ new → r.length = k) :
    (splice rows off new).flatten = splice rows.flatten (off * k) new.flatten := by
  unfold splice
  rw [List.flatten_append, List.flatten_append, flatten_take _ hr, flatten_drop _ hr, flatten_len hn, Nat.add_mul]

theorem splice_get {α : Type} {as bs xs : List α} {base off : Nat} (h : ∀ (j : Nat) v, as[j]? = some v → bs[base + j]? = some v) (ho : off ≤ as.length) (hl : base + off + xs.length ≤ bs.length) {j : Nat} {v : α}
    (hj : (splice as off xs)[j]? = some v) : (splice bs (base + off) xs)[base + j]? = some v := by
  unfold splice at hj ⊢
  have l1 : (as.take off).length = off := by simp; omega
  have l2 : (bs.take (base + off)).length = base + off := by simp; omega
  by_cases c1 : j < off
  · rw [List.append_assoc, List.getElem?_append_left (by omega), List.getElem?_take, if_pos c1] at hj
    rw [List.append_assoc, List.getElem?_append_left (by omega), List.getElem?_take, if_pos (by omega)]
    exact h j v hj
  · by_cases c2 : j < off + xs.length
    · rw [List.append_assoc, List.getElem?_append_right (by omega), l1, List.getElem?_append_left (by omega)] at hj
      rw [List.append_assoc, List.getElem?_append_right (by omega), l2, List.getElem?_append_left (by omega), show base + j - (base + off) = j - off by omega]
      exact hj
    · rw [List.append_assoc, List.getElem?_append_right (by omega), l1, List.getElem?_append_right (by omega), List.getElem?_drop] at hj
      rw [List.append_assoc, List.getElem?_append_right (by omega), l2, List.getElem?_append_right (by omega), List.getElem?_drop]
      have := h _ v hj
      rw [← this]; congr 1; omega

theorem all2_one {α : Type} {w : World} {ow : Nat → Prop} : ∀ {vs : List V} {us : List Value}, All2 (RepV w ow) vs us → ∀ u, u ∈ us → u.oneCell = true
  | [], [], _, _, h => by simp at h
  | _ :: _, _ :: _, ⟨h0, h1⟩, u, h => by
    rcases List.mem_cons.1 h with rfl | h
    · exact h0.oneCell
    · exact all2_one (α := α) h1 u h
  | [], _ :: _, h, _, _ => h.elim
  | _ :: _, [], h, _, _ => h.elim

/-- Rows are written into an own row, in place. -/
theorem row_write (hm : Mem own0 mt w0 ρ H w) {r k : Nat} {rows rs : List (List V)} {b base cap off : Nat} (hr : H r = some (.row k rows)) (hp : ρ r = some (.blk b base cap)) {news : List Value}
    (hxn : All2 (RepV w (Ow own0 ρ H)) rs.flatten news) (hkr : ∀ r, r ∈ rs → r.length = k) (ho : off ≤ rows.length) (hroom : off + rs.length ≤ cap) :
    ∃ w', (storeCells ⟨b, base + off * k, none⟩ news).run P w = .ok () w' ∧ Step own0 mt w0 ρ H w ρ (upd H r (some (.row k (splice rows off rs)))) w' := by
  obtain ⟨hrl, m, hm', h⟩ := hm.blks r _ hr
  rw [hp] at hm'; cases hm'
  obtain ⟨hcap, vs, T', fr, hh, hf, h2, h3⟩ := h
  have hnl : news.length = rs.length * k := by rw [← hxn.length, flatten_len hkr]
  have hmul : (off + rs.length) * k ≤ cap * k := Nat.mul_le_mul_right _ hroom
  rw [Nat.add_mul] at hmul
  have hst := run_storeCells_blk (P := P) (b := b) (o := base + off * k) news 0 vs w hh hf.1 (by omega) (all2_one (α := Unit) hxn)
  simp only [Nat.add_zero] at hst
  refine ⟨_, hst, ?_⟩
  have hlive : live (H r) = true := by rw [hr]; rfl
  have hkk : ∀ r', r' ∈ splice rows off rs → r'.length = k := fun r' hr' => by
    unfold splice at hr'
    rcases List.mem_append.1 hr' with h | h
    · rcases List.mem_append.1 h with h | h
      · exact hrl r' (List.mem_of_mem_take h)
      · exact hkr r' h
    · exact hrl r' (List.mem_of_mem_drop h)
  obtain ⟨olds, ho1, ho2⟩ := flat_of_get (rows := rows) (f := fun j => vs[base + j]?) hrl (R := RepV w (Ow own0 ρ H)) fun i r' j v hi hj => by
    obtain ⟨x, hx1, hx2⟩ := h3 i r' j v hi hj
    exact ⟨x, by rw [← Nat.add_assoc]; exact hx1, hx2⟩
  have hol : olds.length = rows.length * k := by rw [← ho1.length, flatten_len hrl]
  refine Step.write hm hp hlive rfl ⟨hkk, _, hp, by simp [splice]; omega, _, T', fr, setBlk_heap_same (Array.getElem?_eq_some_iff.1 hh).1, rFr_splice hf (by omega), ?_, ?_⟩
  · simp; rw [splice_len (by simp; omega)]; simpa using h2
  · have hfl : All2 (RepV w (Ow own0 ρ H)) (splice rows off rs).flatten (splice olds (off * k) news) := by rw [flatten_splice hrl hkr]; exact all2_splice ho1 hxn
    refine rows_of_flat hkk (hfl.mono fun _ _ h => h.mono (Keep.setBlk (.inr ⟨r, _, _, hp, hlive⟩) _) fun _ _ h => h) fun j v hj => ?_
    simp only [List.getElem?_toArray]
    have hmul2 : off * k ≤ rows.length * k := Nat.mul_le_mul_right _ ho
    exact splice_get (bs := vs.toList) (fun j v hj => by simpa using ho2 j v hj) (by omega) (by simp; omega) hj

/-- What a view reads. -/
theorem source_view (hm : Mem own0 mt w0 ρ H w) {r k : Nat} {rows : List (List V)} {off m : Nat} {u : Value} (hr : H r = some (.row k rows)) (hu : RepD w (Ow own0 ρ H) ρ (.u r k off m) u) (hl : off + m ≤ rows.length) :
    Source P w (Ow own0 ρ H) k ((rows.drop off).take m) u := by
  obtain ⟨hrl, pl, hpl, h⟩ := hm.blks r _ hr
  obtain ⟨pl', hpl', hu⟩ := hu
  rw [hpl] at hpl'; cases hpl'
  have hlen : ((rows.drop off).take m).length = m := by simp; omega
  have hkk : ∀ r', r' ∈ (rows.drop off).take m → r'.length = k := fun r' h => hrl r' (List.mem_of_mem_drop (List.mem_of_mem_take h))
  cases pl with
  | nil =>
    obtain ⟨rfl, a, rfl⟩ := hu
    have := source_cells (P := P) (w := w) (ow := Ow own0 ρ H) (rs := []) (a := a) (c := 0) (size := k) (by simp) (by simp) (by simp)
    simpa using this
  | blk b base cap =>
    obtain ⟨hle, a, c, rfl, hc, ha⟩ := hu
    obtain ⟨hcap, vs, T', fr, hh, hf, h2, h3⟩ := h
    have := source_cells (P := P) (w := w) (ow := Ow own0 ρ H) (rs := (rows.drop off).take m) (a := a) (c := c) (size := k) hkk (fun he => by
      rcases Nat.eq_zero_or_pos m with h0 | h0
      · subst h0; simp
      · rw [ha h0] at he; cases he) (fun ad he i r' j v hi hj => by
      have hi' := hi
      rw [List.getElem?_take] at hi'
      split at hi'
      · rename_i him
        rw [List.getElem?_drop] at hi'
        rw [ha (by omega)] at he
        cases he
        obtain ⟨x, hx1, hx2⟩ := h3 _ r' j v hi' hj
        refine ⟨x, ?_, hx2⟩
        rw [addr_add_lit, cell_lit hh, ← hx1]
        congr 1
        rw [Nat.add_mul]; omega
      · cases hi')
    rw [hlen] at this
    exact this

theorem view_sound (hΓ : TysOk P Γ) (hm : Mem own0 mt w0 ρ H w) {nx : Nat} (hnx : H nx = none) {t : TypeId} {ty : Ty} (ht : TyOk P t ty) {x : D} {u : Value} {lo hi mx : Option D} {ul uh um : Option Value} (hq : q = true)
    (hx : RepD w (Ow own0 ρ H) ρ x u) (hl : OptRep w (Ow own0 ρ H) ρ lo ul) (hh : OptRep w (Ow own0 ρ H) ρ hi uh) (hmx : OptRep w (Ow own0 ρ H) ρ mx um)
    (hg : (viewE Γ ty q H nx x lo hi mx).gives P (d', ups)) : MRun P own0 mt w0 ρ H w (Instr.slice t u ul uh um) ups fun w' ow' ρ' v => RepD w' ow' ρ' d' v := by
  unfold viewE at hg
  have hu := ht.under
  split at hg
  · rename_i r n
    split at hg
    · rename_i e hdesc
      rw [hdesc] at hu
      split at hg
      · rename_i te hte
        have hts := run_sizeOf (P := P) (hΓ _ _ hte)
        split at hg
        · rename_i km m
          split at hg
          · rename_i kl l kh h
            cases um with
            | none => exact hmx.elim
            | some um =>
            cases ul with
            | none => exact hl.elim
            | some ul =>
            cases uh with
            | none => exact hh.elim
            | some uh =>
            obtain ⟨h0, hg⟩ := hg
            obtain ⟨h1, h2, h3, h4⟩ := h0 hq
            have hg' : (d', ups) = (_, _) := hg
            cases hg'
            obtain ⟨rfl, _⟩ := rep_x hmx
            obtain ⟨rfl, _⟩ := rep_x hl
            obtain ⟨rfl, _⟩ := rep_x hh
            obtain ⟨pl, hpl, hx⟩ := hx
            have run : ∀ (a : Option Addr) (c : Nat), n ≤ c → ∃ v, (Instr.slice t (.slice a n c) (some (.int kl l)) (some (.int kh h)) (some (.int km m))).run P w = .ok v w := fun a c hc => by
              have b1 := run_sliceBound (P := P) (w := w) (k := km) (i := m) (y := c) (code := .slice3Acap) (by omega) (by omega)
              have b2 := run_sliceBound (P := P) (w := w) (k := kh) (i := h) (y := m.toNat) (code := .slice3B) (by omega) (by omega)
              have b3 := run_sliceBound (P := P) (w := w) (k := kl) (i := l) (y := h.toNat) (code := .slice3C) (by omega) (by omega)
              refine ⟨.slice (if m.toNat = l.toNat then a else a.map (·.add (l.toNat * te.size))) (h.toNat - l.toNat) (m.toNat - l.toNat), ?_⟩
              simp [Instr.slice, Instr.sliceBounds, run_underlying hu, b1, b2, b3, hts]
            cases pl with
            | nil =>
              obtain ⟨rfl, a, rfl⟩ := hx
              obtain ⟨v, hv⟩ := run a 0 (Nat.le_refl _)
              exact MRun.pure hm hv trivial
            | blk b base cap =>
              obtain ⟨rfl, hc⟩ := hx
              obtain ⟨v, hv⟩ := run _ cap hc
              exact MRun.pure hm hv trivial
          · exact hg.elim
        · exact hg.elim
        · cases um with
          | some _ => exact hmx.elim
          | none =>
          split at hg
          · rename_i k rows hr
            split at hg
            · rename_i l h el eh
              obtain ⟨h0, hg⟩ := hg
              obtain ⟨rfl, h1, h2, h3⟩ := h0 hq
              have hg' : (d', ups) = (_, _) := hg
              obtain ⟨e1, e2⟩ := Prod.mk.inj hg'
              subst e2
              obtain ⟨hrl, pl, hpl, hrow⟩ := hm.blks r _ hr
              obtain ⟨pl', hpl', hx⟩ := hx
              rw [hpl] at hpl'; cases hpl'
              cases pl with
              | nil =>
                obtain ⟨rfl, a, rfl⟩ := hx
                subst hrow
                have hh0 : h = 0 := by simp at h3; omega
                have hl0 : l = 0 := by omega
                have hb := run_sliceBounds (P := P) (w := w) (isSlice := true) (len := 0) (cap := 0) hl hh el eh (by omega) (by omega) (by simpa using h3)
                refine MRun.pure hm (v := .slice a 0 0) ?_ ?_
                · simp [Instr.slice, run_underlying hu, hb, hts, hh0, hl0]
                · rw [e1]
                  cases lo with
                  | none => exact ⟨.nil, hpl, by omega, a, rfl⟩
                  | some _ => exact ⟨.nil, hpl, by omega, a, rfl⟩
              | blk b base cap =>
                obtain ⟨rfl, hc⟩ := hx
                obtain ⟨hcap, vs, T', fr, hb', hf, h4, h5⟩ := hrow
                have hb := run_sliceBounds (P := P) (w := w) (isSlice := true) (len := n) (cap := cap) hl hh el eh (by omega) (by omega) (by omega)
                refine MRun.pure hm (v := .slice (if cap = l.toNat then some ⟨b, base, none⟩ else some ⟨b, base + l.toNat * te.size, none⟩) (h.toNat - l.toNat) (cap - l.toNat)) ?_ ?_
                · simp [Instr.slice, run_underlying hu, hb, hts, addr_add_lit]
                · rw [e1]
                  cases lo with
                  | none =>
                    simp only [boundE, Option.some.injEq] at el
                    subst el
                    refine ⟨.blk b base cap, hpl, ?_, by omega⟩
                    simp
                  | some _ =>
                    refine ⟨.blk b base cap, hpl, by omega, _, _, rfl, by omega, fun h0 => ?_⟩
                    rw [if_neg (by omega)]
            · exact hg.elim
          · exact hg.elim
      · exact hg.elim
    · exact hg.elim
  · exact slice_sound hΓ hm hnx ht hq hx hl hh hmx hg

theorem appendU_sound (hΓ : TysOk P Γ) (hm : Mem own0 mt w0 ρ H w) {ts : Array TypeId} {r n r' k off m : Nat} {us ux : Value} (hs : RepD w (Ow own0 ρ H) ρ (.e (.c (.o r n))) us) (hx : RepD w (Ow own0 ρ H) ρ (.u r' k off m) ux) (T : TypeId)
    (hg : (appendUE Γ ts H r n r' k off m).gives P (d', ups)) : MRun P own0 mt w0 ρ H w (Builtin.append_ ts T #[us, ux]) ups fun w' ow' ρ' v => RepD w' ow' ρ' d' v := by
  unfold appendUE at hg
  split at hg
  · rename_i t0 t1 h0 h1
    split at hg
    · rename_i ty0 ty1 hy0 hy1
      have ht0 := (hΓ _ _ hy0).under
      have ht1 := (hΓ _ _ hy1).under
      split at hg
      · rename_i e e1 hd0 hd1
        rw [hd0] at ht0
        rw [hd1] at ht1
        split at hg
        · rename_i te hte
          have hte := hΓ _ _ hte
          split at hg
          · rename_i k' rows hr
            obtain ⟨⟨rfl, rfl, rfl, h2, h3⟩, hg⟩ := hg
            have hg' : (d', ups) = (_, _) := hg
            cases hg'
            have hsrc := source_view (P := P) hm hr hx h2
            have hlen : ((rows.drop off).take m).length = m := by simp; omega
            have hrow := hm.blks r' _ hr
            obtain ⟨hrl, pl, hpl, hrow⟩ := hrow
            have hkk : ∀ x, x ∈ (rows.drop off).take m → x.length = te.size := fun x h => hrl x (List.mem_of_mem_drop (List.mem_of_mem_take h))
            obtain ⟨pl', hpl', hs⟩ := hs
            rw [hpl] at hpl'; cases hpl'
            cases pl with
            | nil =>
              obtain ⟨rfl, a, rfl⟩ := hs
              subst hrow
              have hm0 : m = 0 := by simp at h3; exact h3
              subst hm0
              refine ⟨.slice a 0 0, w, ρ, append_empty (te := te) h0 h1 ht0 ht1 (fun _ h => by cases h) hte (by simpa using hsrc), ?_, .nil, hpl, rfl, a, rfl⟩
              have : upd H r' (some (.row te.size (putRows [] 0 (List.take 0 (List.drop off ([] : List (List V))))))) = H := by
                funext j; unfold upd; split
                · rename_i h; subst h; simp [putRows, splice, hr]
                · rfl
              rw [show updL H [(r', Blk.row te.size (putRows [] 0 (List.take 0 (List.drop off ([] : List (List V))))))] = H from this]
              exact Step.refl hm
            | blk b base cap =>
              obtain ⟨rfl, hc⟩ := hs
              obtain ⟨hcap, vs, T', fr, hb', hf, h4, h5⟩ := hrow
              obtain ⟨hxl, news, hxn, hxf⟩ := hsrc
              rw [hlen] at hxl hxf
              have hrun := run_append_room (P := P) ts T t0 t1 e (.slice e1) te h0 h1 ht0 ht1 (fun _ h => by cases h) hte w (some ⟨b, base, none⟩) n cap ux m news (hxl w) (hxf w fun _ => rfl) (by omega)
              obtain ⟨w', hst, hstep⟩ := row_write (P := P) hm hr hpl (off := n) hxn hkk (by omega) (by rw [hlen]; omega)
              simp only [addr_add_lit, hst, Result.andThen_ok] at hrun
              exact ⟨_, w', ρ, hrun, hstep, .blk b base cap, hpl, rfl, by omega⟩
          · exact hg.elim
        · exact hg.elim
      · exact hg.elim
    · exact hg.elim
  · exact hg.elim

theorem zeroCells_list {te : Ty} {e : TypeId} (hte : TyOk P e te) : ∀ (m : Nat), (Builtin.zeroCells te.zero.cells m).toList = (List.replicate m te.zero.cells.toList).flatten := by
  intro m
  have hs := hte.zsize
  refine List.ext_getElem? fun j => ?_
  have hk : ∀ r, r ∈ List.replicate m te.zero.cells.toList → r.length = te.size := fun r h => by rw [(List.mem_replicate.1 h).2]; simpa using hs
  rcases Nat.eq_zero_or_pos te.size with h0 | h0
  · rw [h0] at hs
    have he : te.zero.cells.toList = [] := by apply List.eq_nil_of_length_eq_zero; simpa using hs
    simp [Builtin.zeroCells, hs, he]
  · have hd := Nat.div_add_mod j te.size
    have hj : j = (j / te.size) * te.size + j % te.size := by rw [Nat.mul_comm]; omega
    have hlt := Nat.mod_lt j h0
    rw [hj, flatten_get hk hlt, ← hj, List.getElem?_replicate]
    simp only [Builtin.zeroCells, Array.toList_map, Array.toList_range, List.getElem?_map, hs]
    by_cases c : j / te.size < m
    · have c' : j < m * te.size := (Nat.div_lt_iff_lt_mul h0).1 c
      rw [List.getElem?_range c', if_pos c]
      simp only [Option.map_some, Option.bind_some, Array.getElem?_toList]
      rw [getElem!_pos te.zero.cells _ (by omega), Array.getElem?_eq_getElem (by omega)]
    · have c' : ¬ j < m * te.size := fun h => c ((Nat.div_lt_iff_lt_mul h0).2 h)
      rw [List.getElem?_eq_none (by simp; omega), if_neg c]
      rfl

theorem clear_sound (hΓ : TysOk P Γ) (hm : Mem own0 mt w0 ρ H w) {ts : Array TypeId} {r k off m : Nat} {u : Value} (hx : RepD w (Ow own0 ρ H) ρ (.u r k off m) u) (T : TypeId)
    (hg : (clearE Γ ts H r k off m).gives P (d', ups)) : MRun P own0 mt w0 ρ H w (Builtin.clear_ ts T #[u]) ups fun w' ow' ρ' v => RepD w' ow' ρ' d' v := by
  unfold clearE at hg
  split at hg
  · rename_i t0 h0
    split at hg
    · rename_i ty0 hy0
      have ht0 := (hΓ _ _ hy0).under
      split at hg
      · rename_i e hd0
        rw [hd0] at ht0
        split at hg
        · rename_i te hte
          have hte := hΓ _ _ hte
          split at hg
          · rename_i k' rows hr
            obtain ⟨⟨rfl, rfl, h2⟩, hg⟩ := hg
            have hg' : (d', ups) = (_, _) := hg
            cases hg'
            obtain ⟨hrl, pl, hpl, hrow⟩ := hm.blks r _ hr
            obtain ⟨pl', hpl', hx⟩ := hx
            rw [hpl] at hpl'; cases hpl'
            have zero : m = 0 → updL H [(r, Blk.row te.size (putRows rows off (List.replicate m (zeroV te))))] = H := by
              rintro rfl
              funext j
              simp only [updL, upd]
              split
              · rename_i h; subst h; simp [putRows, splice, hr]
              · rfl
            cases pl with
            | nil =>
              obtain ⟨rfl, a, rfl⟩ := hx
              have st : Step own0 mt w0 ρ H w ρ (updL H [(r, Blk.row te.size (putRows rows off (List.replicate 0 (zeroV te))))]) w := by rw [zero rfl]; exact Step.refl hm
              cases a <;> exact ⟨.tuple #[], w, ρ, by simp [Builtin.clear_, h0, run_underlying ht0], st, trivial⟩
            | blk b base cap =>
              obtain ⟨hle, a, c, rfl, hc, ha⟩ := hx
              obtain ⟨hcap, vs, T', fr, hb', hf, h4, h5⟩ := hrow
              rcases Nat.eq_zero_or_pos m with hm0 | hm0
              · have st : Step own0 mt w0 ρ H w ρ (updL H [(r, Blk.row te.size (putRows rows off (List.replicate m (zeroV te))))]) w := by rw [zero hm0]; exact Step.refl hm
                subst hm0
                cases a <;> exact ⟨.tuple #[], w, ρ, by simp [Builtin.clear_, h0, run_underlying ht0], st, trivial⟩
              · have := ha hm0
                subst this
                have hz : All2 (RepV w (Ow own0 ρ H)) (List.replicate m (zeroV te)).flatten (List.replicate m te.zero.cells.toList).flatten := by
                  clear zero hg h2 hpl hle hc ha hcap hb' hf h4 h5 hm0
                  induction m with
                  | zero => trivial
                  | succ m ih =>
                    simp only [List.replicate_succ, List.flatten_cons]
                    refine All2.append ?_ ih
                    have hz := all2_zero (w := w) (ow := Ow own0 ρ H) (ρ := ρ) hte
                    unfold zeroV
                    generalize te.zero.cells.toList = l at hz
                    induction l with
                    | nil => trivial
                    | cons x l ih => exact ⟨hz.1, ih hz.2⟩
                have hkz : ∀ x, x ∈ List.replicate m (zeroV te) → x.length = te.size := fun x h => by
                  rw [(List.mem_replicate.1 h).2]
                  simp [zeroV, hte.zsize]
                obtain ⟨w', hst, hstep⟩ := row_write (P := P) hm hr hpl (off := off) hz hkz (by omega) (by simp; omega)
                refine ⟨.tuple #[], w', ρ, ?_, hstep, trivial⟩
                obtain ⟨m', rfl⟩ : ∃ m', m = m' + 1 := ⟨m - 1, by omega⟩
                simp [Builtin.clear_, h0, run_underlying ht0, run_zero hte, zeroCells_list hte, hst]
          · exact hg.elim
        · exact hg.elim
      · exact hg.elim
    · exact hg.elim
  · exact hg.elim

end Eng
end Go.Proofs.YtllfgnhnooonfaaDoor
