/- Rows whose room is known: cuts into the room, the room itself, zeros behind a cut; and copies. -/
import Derived.Test.YtllfgnhnooonfaaDoorEngE
set_option autoImplicit false
set_option linter.unusedSimpArgs false
set_option linter.unusedVariables false
namespace Go.Proofs.YtllfgnhnooonfaaDoor
namespace Eng

/-- A cut of an own slice whose room is known. -/
def viewFE (Γ : Nat → Option Ty) (ty : Ty) (q : Bool) (H : Nat → Option Blk) (nx : Nat) (x : D) (lo hi mx : Option D) : Tr (D × Ups) :=
  match x with
  | .e (.c (.o r n)) => match H r with
    | some (.full k _ c) => match mx with
      | none => match ty.desc with
        | .slice e => match Γ e with
          | some te => match boundE 0 lo, boundE n hi with
            | some l, some h => .ask (q = true → k = te.size ∧ 0 ≤ l ∧ l ≤ h ∧ h ≤ c)
                (.ret (match lo with
                  | none => .e (.c (.o r h.toNat))
                  | some _ => .u r te.size l.toNat (h.toNat - l.toNat), []))
            | _, _ => .fail
          | none => .fail
        | _ => .fail
      | some _ => .fail
    | _ => viewE Γ ty q H nx (.e (.c (.o r n))) lo hi mx
  | x => viewE Γ ty q H nx x lo hi mx

def capFE (ty : Ty) (H : Nat → Option Blk) (x : D) : Tr (D × Ups) :=
  match x with
  | .e (.c (.o r _)) => match ty.desc with
    | .slice _ => match H r with
      | some (.full _ _ c) => .ret (.x (.int .i64 c), [])
      | _ => .fail
    | _ => .fail
  | x => capE ty x

/-- Zeros behind a cut that has no room for them: a new row; the old one stays. -/
def appendFE (Γ : Nat → Option Ty) (ts : Array TypeId) (H : Nat → Option Blk) (nx : Nat) (s : D) (n : Int) : Tr (D × Ups) :=
  match s with
  | .e (.c (.o r m)) => match ts[0]?, ts[1]? with
    | some t0, some t1 => match Γ t0, Γ t1 with
      | some ty0, some ty1 => match ty0.desc, ty1.desc with
        | .slice e, .int _ => match Γ e with
          | some te => match H r with
            | some (.full k rows c) => .ask (k = te.size ∧ te.size ≠ 0 ∧ 0 < n ∧ 0 < rows.length ∧ m ≤ rows.length ∧ c < m + n ∧ m + n ≤ 70368744177664 ∧ (m + n) * te.bytes ≤ 70368744177664)
                (.ret (.e (.c (.o nx (m + n.toNat))), [(nx, .row te.size (rows.take m ++ List.replicate n.toNat (zeroV te)))]))
            | _ => .fail
          | none => .fail
        | _, _ => .fail
      | _, _ => .fail
    | _, _ => .fail
  | s => appendNE Γ ts nx s n

/-- What a copy reads: the known rows, and how many elements there are. -/
def copySrc (H : Nat → Option Blk) : D → Option (Nat × List (List V) × Nat × Prop)
  | .e (.c (.o r n)) => match H r with
    | some (.row k rows) => some (k, rows, n, True)
    | some (.full k rows _) => some (k, rows, n, True)
    | _ => none
  | .u r k off n => match H r with
    | some (.row k' rows) => some (k, rows.drop off, n, k' = k)
    | some (.full k' rows _) => some (k, rows.drop off, n, k' = k)
    | _ => none
  | _ => none

def copyE (Γ : Nat → Option Ty) (ts : Array TypeId) (H : Nat → Option Blk) (x y : D) : Tr (D × Ups) :=
  match ts[0]? with
  | some t0 => match Γ t0 with
    | some ty0 => match ty0.desc with
      | .slice e => match Γ e with
        | some te => match copySrc H y with
          | some (k2, rs, n', p) => match x with
            | .u r k off n => match H r with
              | some (.row k' rows) => .ask (p ∧ k2 = te.size ∧ k = te.size ∧ k' = te.size ∧ min n n' ≤ rs.length ∧ off + min n n' ≤ rows.length)
                  (.ret (.x (.int .i64 (min n n' : Nat)), [(r, .row te.size (putRows rows off (rs.take (min n n'))))]))
              | some (.full k' rows c) => .ask (p ∧ k2 = te.size ∧ k = te.size ∧ k' = te.size ∧ min n n' ≤ rs.length ∧ off ≤ rows.length ∧ off + min n n' ≤ c)
                  (.ret (.x (.int .i64 (min n n' : Nat)), [(r, .full te.size (putRows rows off (rs.take (min n n'))) c)]))
              | _ => .fail
            | _ => .fail
          | none => .fail
        | none => .fail
      | _ => .fail
    | none => .fail
  | none => .fail

variable {P : Program} {Γ : Nat → Option Ty} {own0 mt : Nat → Prop} {w0 w : World} {ow : Nat → Prop} {ρ : Nat → Option Pl} {H : Nat → Option Blk} {q : Bool}
  {d' : D} {ups : Ups}

theorem viewF_sound (hΓ : TysOk P Γ) (hm : Mem own0 mt w0 ρ H w) {nx : Nat} (hnx : H nx = none) {t : TypeId} {ty : Ty} (ht : TyOk P t ty) {x : D} {u : Value} {lo hi mx : Option D} {ul uh um : Option Value} (hq : q = true)
    (hx : RepD w (Ow own0 ρ H) ρ x u) (hl : OptRep w (Ow own0 ρ H) ρ lo ul) (hh : OptRep w (Ow own0 ρ H) ρ hi uh) (hmx : OptRep w (Ow own0 ρ H) ρ mx um)
    (hg : (viewFE Γ ty q H nx x lo hi mx).gives P (d', ups)) : MRun P own0 mt w0 ρ H w (Instr.slice t u ul uh um) ups fun w' ow' ρ' v => RepD w' ow' ρ' d' v := by
  unfold viewFE at hg
  have hu := ht.under
  split at hg
  · rename_i r n
    split at hg
    · rename_i k rows c hr
      split at hg
      · cases um with
        | some _ => exact hmx.elim
        | none =>
        split at hg
        · rename_i e hdesc
          rw [hdesc] at hu
          split at hg
          · rename_i te hte
            have hts := run_sizeOf (P := P) (hΓ _ _ hte)
            split at hg
            · rename_i l h el eh
              obtain ⟨h0, hg⟩ := hg
              obtain ⟨rfl, h1, h2, h3⟩ := h0 hq
              have hg' : (d', ups) = (_, _) := hg
              obtain ⟨e1, e2⟩ := Prod.mk.inj hg'
              subst e2
              obtain ⟨⟨hrl, pl, hpl, hrow⟩, hroom⟩ := hm.blks r _ hr
              obtain ⟨pl', hpl', hx⟩ := hx
              rw [hpl] at hpl'; cases hpl'
              have hc := hroom _ hpl
              cases pl with
              | nil =>
                obtain ⟨rfl, a, rfl⟩ := hx
                subst hrow
                have hc : 0 = c := hc
                subst hc
                have hh0 : h = 0 := by omega
                have hl0 : l = 0 := by omega
                have hb := run_sliceBounds (P := P) (w := w) (isSlice := true) (len := 0) (cap := 0) hl hh el eh (by omega) (by omega) (by omega)
                refine MRun.pure hm (v := .slice a 0 0) ?_ ?_
                · simp [Instr.slice, run_underlying hu, hb, hts, hh0, hl0]
                · rw [e1]
                  cases lo with
                  | none => exact ⟨.nil, hpl, by omega, a, rfl⟩
                  | some _ => exact ⟨.nil, hpl, by omega, a, rfl⟩
              | blk b base cap =>
                obtain ⟨rfl, hnc⟩ := hx
                have hc : cap = c := hc
                subst hc
                obtain ⟨hcap, vs, T', fr, hb', hf, h4, h5⟩ := hrow
                have hb := run_sliceBounds (P := P) (w := w) (isSlice := true) (len := n) (cap := cap) hl hh el eh (by omega) (by omega) (by omega)
                refine MRun.pure hm (v := .slice (if cap = l.toNat then some ⟨b, base, none⟩ else some ⟨b, base + l.toNat * te.size, none⟩) (h.toNat - l.toNat) (cap - l.toNat)) ?_ ?_
                · simp [Instr.slice, run_underlying hu, hb, hts, addr_add_lit]
                · rw [e1]
                  cases lo with
                  | none =>
                    simp only [boundE, Option.some.injEq] at el
                    subst el
                    refine ⟨.blk b base cap, hpl, ?_, by omega⟩
                    simp
                  | some _ =>
                    refine ⟨.blk b base cap, hpl, by omega, _, _, rfl, by omega, fun h0 => ?_⟩
                    rw [if_neg (by omega)]
            · exact hg.elim
          · exact hg.elim
        · exact hg.elim
      · exact hg.elim
    · exact view_sound hΓ hm hnx ht hq hx hl hh hmx hg
  · exact view_sound hΓ hm hnx ht hq hx hl hh hmx hg

theorem capF_sound (hm : Mem own0 mt w0 ρ H w) {t : TypeId} {ty : Ty} (ht : TyOk P t ty) {d : D} {u : Value} (hd : RepD w (Ow own0 ρ H) ρ d u) {ts : Array TypeId} (hts : ts[0]? = some t) (T : TypeId)
    (hg : (capFE ty H d).gives P (d', ups)) : ups = [] ∧ ∃ r, (Builtin.cap_ ts T #[u]).run P w = .ok r w ∧ RepD w (Ow own0 ρ H) ρ d' r := by
  unfold capFE at hg
  have hu := ht.under
  split at hg
  · rename_i r n
    split at hg
    · rename_i hdesc
      rw [hdesc] at hu
      split at hg
      · rename_i k rows c hr
        obtain ⟨⟨hrl, pl, hpl, hrow⟩, hroom⟩ := hm.blks r _ hr
        obtain ⟨pl', hpl', hx⟩ := hd
        rw [hpl] at hpl'; cases hpl'
        have hc := hroom _ hpl
        cases pl with
        | nil =>
          obtain ⟨rfl, a, rfl⟩ := hx
          have hc : 0 = c := hc
          subst hc
          exact ok_x hg rfl (by simp [Builtin.cap_, hts, run_underlying hu, goInt])
        | blk b base cap =>
          obtain ⟨rfl, _⟩ := hx
          have hc : cap = c := hc
          subst hc
          exact ok_x hg rfl (by simp [Builtin.cap_, hts, run_underlying hu, goInt])
      · exact hg.elim
    · exact hg.elim
  · exact cap_sound ht hd hts T hg

/-- The cells of the first elements. -/
def Reads (P : Program) (w : World) (ow : Nat → Prop) (size : Nat) (rs : List (List V)) (u : Value) : Prop :=
  ∃ news : List Value, All2 (RepV w ow) rs.flatten news ∧ ∀ w' : World, (∀ a : Addr, w'.cell? a = w.cell? a) → (Builtin.firstCells size rs.length u).run P w' = .ok news.toArray w'

theorem reads_row {r k : Nat} {rows : List (List V)} (hb : RepB w ow ρ r (.row k rows)) {off m cnt : Nat} {u : Value} (hu : RepD w ow ρ (.u r k off m) u) (hc : cnt ≤ m) (hl : off + cnt ≤ rows.length) :
    Reads P w ow k ((rows.drop off).take cnt) u := by
  obtain ⟨hrl, pl, hpl, h⟩ := hb
  obtain ⟨pl', hpl', hu⟩ := hu
  rw [hpl] at hpl'; cases hpl'
  have hlen : ((rows.drop off).take cnt).length = cnt := by simp; omega
  have hkk : ∀ r', r' ∈ (rows.drop off).take cnt → r'.length = k := fun r' h => hrl r' (List.mem_of_mem_drop (List.mem_of_mem_take h))
  cases pl with
  | nil =>
    obtain ⟨rfl, a, rfl⟩ := hu
    have : cnt = 0 := by omega
    subst this
    refine ⟨[], by simp; trivial, fun w' _ => ?_⟩
    cases a with
    | none => rfl
    | some ad => exact run_firstCells_some (P := P) w' k 0 ad 0 0 [] (by simp) (by simp)
  | blk b base cap =>
    obtain ⟨hle, a, c, rfl, hnc, ha⟩ := hu
    obtain ⟨hcap, vs, T', fr, hh, hf, h2, h3⟩ := h
    rcases Nat.eq_zero_or_pos cnt with h0 | h0
    · subst h0
      refine ⟨[], by simp; trivial, fun w' _ => ?_⟩
      cases a with
      | none => rfl
      | some ad => exact run_firstCells_some (P := P) w' k 0 ad m c [] (by simp) (by simp)
    · have := ha (by omega)
      subst this
      obtain ⟨xs, h4, h5⟩ := flat_of_get (rows := (rows.drop off).take cnt) (f := fun n => w.cell? (Addr.add ⟨b, base + off * k, none⟩ n)) hkk (R := RepV w ow) fun i r' j v hi hj => by
        rw [List.getElem?_take] at hi
        split at hi
        · rw [List.getElem?_drop] at hi
          obtain ⟨x, hx1, hx2⟩ := h3 _ r' j v hi hj
          refine ⟨x, ?_, hx2⟩
          rw [addr_add_lit, cell_lit hh, ← hx1]
          congr 1
          rw [Nat.add_mul]; omega
        · cases hi
      refine ⟨xs, h4, fun w' hw' => ?_⟩
      rw [hlen]
      exact run_firstCells_some (P := P) w' k cnt _ m c xs (by rw [← h4.length, flatten_len hkk, hlen]) fun j v hj => by rw [hw']; exact h5 j v hj

theorem o_view {r k n : Nat} {u : Value} (h : RepD w ow ρ (.e (.c (.o r n))) u) : RepD w ow ρ (.u r k 0 n) u := by
  obtain ⟨m, hm, h⟩ := h
  refine ⟨m, hm, ?_⟩
  cases m with
  | nil => exact h
  | blk b base cap =>
    obtain ⟨rfl, hc⟩ := h
    exact ⟨by omega, _, cap, rfl, hc, fun _ => by simp⟩

theorem view_len {r k off n : Nat} {u : Value} (h : RepD w ow ρ (.u r k off n) u) (w' : World) : (Builtin.lenOf u).run P w' = .ok n w' := by
  obtain ⟨m, hm, h⟩ := h
  cases m with
  | nil => obtain ⟨rfl, a, rfl⟩ := h; rfl
  | blk b base cap => obtain ⟨_, a, c, rfl, _⟩ := h; rfl

theorem copySrc_sound (hm : Mem own0 mt w0 ρ H w) {y : D} {u : Value} {k n' : Nat} {rs : List (List V)} {p : Prop} (hy : RepD w (Ow own0 ρ H) ρ y u) (h : copySrc H y = some (k, rs, n', p)) (hp : p) {cnt : Nat} (h1 : cnt ≤ n') (h2 : cnt ≤ rs.length) :
    (∀ w' : World, (Builtin.lenOf u).run P w' = .ok n' w') ∧ Reads P w (Ow own0 ρ H) k (rs.take cnt) u ∧ ∀ r, r ∈ rs → r.length = k := by
  have key : ∀ {r off n : Nat} {rows : List (List V)}, RepB w (Ow own0 ρ H) ρ r (.row k rows) → RepD w (Ow own0 ρ H) ρ (.u r k off n) u → rows.drop off = rs → n = n' →
      (∀ w' : World, (Builtin.lenOf u).run P w' = .ok n' w') ∧ Reads P w (Ow own0 ρ H) k (rs.take cnt) u ∧ ∀ r, r ∈ rs → r.length = k := by
    intro r off n rows hb hu hrs hn
    subst hrs hn
    refine ⟨view_len hu, ?_, fun r' h => hb.1 r' (List.mem_of_mem_drop h)⟩
    rcases Nat.eq_zero_or_pos cnt with h0 | h0
    · subst h0
      refine ⟨[], by simp; trivial, fun w' _ => ?_⟩
      obtain ⟨m, _, hu⟩ := hu
      have : ∃ a c, u = .slice a n c := by
        cases m with
        | nil => obtain ⟨rfl, a, rfl⟩ := hu; exact ⟨a, 0, rfl⟩
        | blk => obtain ⟨_, a, c, rfl, _⟩ := hu; exact ⟨a, c, rfl⟩
      obtain ⟨a, c, rfl⟩ := this
      cases a with
      | none => rfl
      | some ad => exact run_firstCells_some (P := P) w' k 0 ad n c [] (by simp) (by simp)
    · exact reads_row hb hu h1 (by simp at h2; omega)
  unfold copySrc at h
  split at h
  · rename_i r n
    split at h
    · rename_i k' rows hr
      cases h
      exact key (hm.blks r _ hr) (o_view hy) (by simp) rfl
    · rename_i k' rows c hr
      cases h
      exact key (hm.blks r _ hr).row_of_full (o_view hy) (by simp) rfl
    · cases h
  · rename_i r k0 off n
    split at h
    · rename_i k' rows hr
      cases h
      cases hp
      exact key (hm.blks r _ hr) hy rfl rfl
    · rename_i k' rows c hr
      cases h
      cases hp
      exact key (hm.blks r _ hr).row_of_full hy rfl rfl
    · cases h
  · cases h

/-- Rows are written into a row whose room is known. -/
theorem full_write (hm : Mem own0 mt w0 ρ H w) {r k c : Nat} {rows rs : List (List V)} {b base cap off : Nat} (hr : H r = some (.full k rows c)) (hp : ρ r = some (.blk b base cap)) {news : List Value}
    (hxn : All2 (RepV w (Ow own0 ρ H)) rs.flatten news) (hkr : ∀ r, r ∈ rs → r.length = k) (ho : off ≤ rows.length) (hroom : off + rs.length ≤ cap) :
    ∃ w', (storeCells ⟨b, base + off * k, none⟩ news).run P w = .ok () w' ∧ Step own0 mt w0 ρ H w ρ (upd H r (some (.full k (splice rows off rs) c))) w' := by
  have hb0 := hm.blks r _ hr
  have hroomc := hb0.2
  have s1 : Step own0 mt w0 ρ H w ρ (upd H r (some (.row k rows))) w := Step.relax hm (fun _ => by rw [hr]; rfl) (fun _ => by rw [hr]; rfl)
    (show RepB w (Ow own0 ρ (upd H r (some (.row k rows)))) ρ r (.row k rows) from hb0.row_of_full.mono (Keep.refl _ _) (fun b _ h => ow_relax (fun _ => by rw [hr]; rfl) h) (.refl _) fun _ _ _ _ _ => rfl)
  obtain ⟨w', hst, s2⟩ := row_write (P := P) s1.mem (upd_same _ _ _) hp (off := off) (hxn.mono fun _ _ h => h.mono (Keep.refl _ _) s1.ow) hkr ho hroom
  have hl : live (upd (upd H r (some (.row k rows))) r (some (.row k (splice rows off rs))) r) = true := by rw [upd_same]; rfl
  have s3 : Step own0 mt w0 ρ (upd (upd H r (some (.row k rows))) r (some (.row k (splice rows off rs)))) w' ρ (upd (upd (upd H r (some (.row k rows))) r (some (.row k (splice rows off rs)))) r (some (.full k (splice rows off rs) c))) w' := by
    refine Step.relax s2.mem (fun _ => hl) (fun _ => solid_of_live hl) ⟨?_, hroomc⟩
    have hb2 := s2.mem.blks r _ (upd_same _ _ _)
    exact (show RepB w' (Ow own0 ρ _) ρ r (.row k (splice rows off rs)) from hb2.mono (Keep.refl _ _) (fun b _ h => ow_relax (fun _ => hl) h) (.refl _) fun _ _ _ _ _ => rfl)
  refine ⟨w', hst, ?_⟩
  have e : upd (upd (upd H r (some (.row k rows))) r (some (.row k (splice rows off rs)))) r (some (.full k (splice rows off rs) c)) = upd H r (some (.full k (splice rows off rs) c)) := by
    funext j; unfold upd; split <;> rfl
  rw [← e]
  exact (s1.trans s2).trans s3

theorem copy_sound (hΓ : TysOk P Γ) (hm : Mem own0 mt w0 ρ H w) {ts : Array TypeId} {x y : D} {ux uy : Value} (hx : RepD w (Ow own0 ρ H) ρ x ux) (hy : RepD w (Ow own0 ρ H) ρ y uy) (T : TypeId)
    (hg : (copyE Γ ts H x y).gives P (d', ups)) : MRun P own0 mt w0 ρ H w (Builtin.copy_ ts T #[ux, uy]) ups fun w' ow' ρ' v => RepD w' ow' ρ' d' v := by
  unfold copyE at hg
  split at hg
  · rename_i t0 h0
    split at hg
    · rename_i ty0 hy0
      have ht0 := (hΓ _ _ hy0).under
      split at hg
      · rename_i e hd0
        rw [hd0] at ht0
        split at hg
        · rename_i te hte
          have hte := hΓ _ _ hte
          have hts := run_sizeOf (P := P) hte
          split at hg
          · rename_i k2 rs n' p hsrc
            split at hg
            · rename_i r k off n
              have hux := hx
              obtain ⟨pl, hpl, hu⟩ := hx
              have rn : ∀ {a : Option Addr} {c : Nat} {news : List Value}, ux = .slice a n c → (∀ w' : World, (Builtin.lenOf uy).run P w' = .ok n' w') → (Builtin.firstCells te.size (min n n') uy).run P w = .ok news.toArray w →
                  (Builtin.copy_ ts T #[ux, uy]).run P w = (((match a with | some ad => storeCells ad news | none => pure ()) : Sem Unit).run P w).andThen fun _ w' => .ok (.int .i64 (min n n' : Nat)) w' := by
                intro a c news he hl hf
                subst he
                have hmn : Nat.min n' n = min n n' := Nat.min_comm n' n
                simp only [Builtin.copy_]
                simp [h0, run_underlying ht0, hl w, hts, hmn, hf, goInt]
                cases a <;> simp
              split at hg
              · rename_i k' rows hr
                obtain ⟨⟨hp, rfl, rfl, rfl, h2, h3⟩, hg⟩ := hg
                have hg' : (d', ups) = (_, _) := hg
                cases hg'
                obtain ⟨hlen, ⟨news, hn, hf⟩, hkr⟩ := copySrc_sound (P := P) hm hy hsrc hp (Nat.min_le_right n n') h2
                have hl2 : (rs.take (min n n')).length = min n n' := by simp; omega
                rw [hl2] at hf
                cases pl with
                | nil =>
                  obtain ⟨rfl, a, rfl⟩ := hu
                  have hrun := rn rfl hlen (hf w fun _ => rfl)
                  simp only [Nat.zero_min, List.take_zero] at hn hrun ⊢
                  have hnw : news = [] := by cases news with
                    | nil => rfl
                    | cons _ _ => exact hn.elim
                  subst hnw
                  refine ⟨_, w, ρ, by rw [hrun]; cases a <;> rfl, ?_, RepV.x _ rfl⟩
                  have hrow := (hm.blks r _ hr)
                  obtain ⟨_, m, hm', hrow⟩ := hrow
                  rw [hpl] at hm'; cases hm'
                  have hrow : rows = [] := hrow
                  subst hrow
                  have : upd H r (some (.row te.size (putRows [] off []))) = H := by
                    funext j; unfold upd; split
                    · rename_i h; subst h; simp [putRows, splice, hr]
                    · rfl
                  rw [show updL H [(r, Blk.row te.size (putRows [] off []))] = H from this]
                  exact Step.refl hm
                | blk b base cap =>
                  obtain ⟨hle, a, c, rfl, hnc, ha⟩ := hu
                  have hrun := rn rfl hlen (hf w fun _ => rfl)
                  have hrc : rows.length ≤ cap := by
                    obtain ⟨_, m, hm', hrow⟩ := hm.blks r _ hr
                    rw [hpl] at hm'; cases hm'
                    exact hrow.1
                  obtain ⟨w', hst, hstep⟩ := row_write (P := P) hm hr hpl (off := off) hn (fun r h => hkr r (List.mem_of_mem_take h)) (by omega) (by rw [hl2]; omega)
                  rcases Nat.eq_zero_or_pos n with hz | hz
                  · subst hz
                    simp only [Nat.zero_min, List.take_zero] at hn hrun hst hstep ⊢
                    have hnw : news = [] := by cases news with
                      | nil => rfl
                      | cons _ _ => exact hn.elim
                    subst hnw
                    have hw : w' = w := by
                      have : (storeCells ⟨b, base + off * te.size, none⟩ ([] : List Value)).run P w = .ok () w := rfl
                      rw [this] at hst; cases hst; rfl
                    subst hw
                    exact ⟨_, w', ρ, by rw [hrun]; cases a <;> rfl, hstep, RepV.x _ rfl⟩
                  · have := ha hz
                    subst this
                    exact ⟨_, w', ρ, by rw [hrun]; simp [hst], hstep, RepV.x _ rfl⟩
              · rename_i k' rows c0 hr
                obtain ⟨⟨hp, rfl, rfl, rfl, h2, h3, h4⟩, hg⟩ := hg
                have hg' : (d', ups) = (_, _) := hg
                cases hg'
                obtain ⟨hlen, ⟨news, hn, hf⟩, hkr⟩ := copySrc_sound (P := P) hm hy hsrc hp (Nat.min_le_right n n') h2
                have hl2 : (rs.take (min n n')).length = min n n' := by simp; omega
                rw [hl2] at hf
                have hroom := (hm.blks r _ hr).2 _ hpl
                cases pl with
                | nil =>
                  obtain ⟨rfl, a, rfl⟩ := hu
                  have hrun := rn rfl hlen (hf w fun _ => rfl)
                  simp only [Nat.zero_min, List.take_zero] at hn hrun ⊢
                  have hnw : news = [] := by cases news with
                    | nil => rfl
                    | cons _ _ => exact hn.elim
                  subst hnw
                  refine ⟨_, w, ρ, by rw [hrun]; cases a <;> rfl, ?_, RepV.x _ rfl⟩
                  have hrow := (hm.blks r _ hr).1
                  obtain ⟨_, m, hm', hrow⟩ := hrow
                  rw [hpl] at hm'; cases hm'
                  have hrow : rows = [] := hrow
                  subst hrow
                  have : upd H r (some (.full te.size (putRows [] off []) c0)) = H := by
                    funext j; unfold upd; split
                    · rename_i h; subst h; simp [putRows, splice, hr]
                    · rfl
                  rw [show updL H [(r, Blk.full te.size (putRows [] off []) c0)] = H from this]
                  exact Step.refl hm
                | blk b base cap =>
                  obtain ⟨hle, a, c, rfl, hnc, ha⟩ := hu
                  have hroom : cap = c0 := hroom
                  subst hroom
                  have hrun := rn rfl hlen (hf w fun _ => rfl)
                  obtain ⟨w', hst, hstep⟩ := full_write (P := P) hm hr hpl (off := off) hn (fun r h => hkr r (List.mem_of_mem_take h)) (by omega) (by rw [hl2]; omega)
                  rcases Nat.eq_zero_or_pos n with hz | hz
                  · subst hz
                    simp only [Nat.zero_min, List.take_zero] at hn hrun hst hstep ⊢
                    have hnw : news = [] := by cases news with
                      | nil => rfl
                      | cons _ _ => exact hn.elim
                    subst hnw
                    have hw : w' = w := by
                      have : (storeCells ⟨b, base + off * te.size, none⟩ ([] : List Value)).run P w = .ok () w := rfl
                      rw [this] at hst; cases hst; rfl
                    subst hw
                    exact ⟨_, w', ρ, by rw [hrun]; cases a <;> rfl, hstep, RepV.x _ rfl⟩
                  · have := ha hz
                    subst this
                    exact ⟨_, w', ρ, by rw [hrun]; simp [hst], hstep, RepV.x _ rfl⟩
              · exact hg.elim
            · exact hg.elim
          · exact hg.elim
        · exact hg.elim
      · exact hg.elim
    · exact hg.elim
  · exact hg.elim

theorem run_append_onto (ts : Array TypeId) (T t0 t1 e : TypeId) (k : IntKind) (te : Ty) (h0 : ts[0]? = some t0) (h1 : ts[1]? = some t1) (ht0 : P.underlying t0 = some (.slice e)) (ht1 : P.underlying t1 = some (.int k))
    (hte : TyOk P e te) (w : World) (k' : IntKind) (a : Option Addr) (m c n : Nat) (olds : List Value) (hold : (Builtin.firstCells te.size m (.slice a m c)).run P w.drew = .ok olds.toArray w.drew) (hsz : te.size ≠ 0) (hn : 0 < n) (hc : c < m + n) (h63 : m + n ≤ 70368744177664) (h48 : (m + n) * te.bytes ≤ 70368744177664) :
    (Builtin.append_ ts T #[.slice a m c, .int k' n]).run P w =
      .ok (.slice (some ⟨w.heap.size, 0, none⟩) (m + n) (grownCap w (m + n) c e)) (w.drew.alloc (.cells ((olds ++ (Builtin.zeroCells te.zero.cells n).toList) ++ (Builtin.zeroCells te.zero.cells (grownCap w (m + n) c e - (m + n))).toList).toArray e)) := by
  obtain ⟨i, hi, hiz, his, hib⟩ := hte.info
  have hn' : ¬ n = 0 := by omega
  have hroom : ¬ (m + n ≤ c) := by omega
  have hw : IntKind.i64.wrap (n : Int) = (n : Int) := by
    simp only [IntKind.wrap, IntKind.bits, IntKind.signed]
    simp
    omega
  have h63' : ¬ (9223372036854775807 < ((m : Int) + (n : Int))) := by omega
  have h48' : ¬ (281474976710656 < Builtin.nextslicecap (m + n) c * i.bytes) := by
    have := nextslicecap_le (need := m + n) (old := c) (by omega)
    have h2 : Builtin.nextslicecap (m + n) c * i.bytes ≤ (2 * (m + n)) * i.bytes := Nat.mul_le_mul_right _ this
    rw [hib] at h2 ⊢
    rw [Nat.mul_assoc] at h2
    omega
  have h48i : ¬ (281474976710656 < (n : Int) * (i.bytes : Int)) := by
    rw [hib]
    have h3 : n * te.bytes ≤ (m + n) * te.bytes := Nat.mul_le_mul_right _ (by omega)
    have : (n : Int) * (te.bytes : Int) = ((n * te.bytes : Nat) : Int) := by simp
    rw [this]; omega
  have hns : ¬ (n * te.size = 0) := Nat.mul_ne_zero hn' hsz
  have hneg : ¬ ((n : Int) < 0) := by omega
  simp [Builtin.append_, h0, h1, run_underlying ht0, run_underlying ht1, run_sizeOf hte, hw, hn', hroom, typeInfo, hi, h63', h48', h48i, Question.forced, run_zero hte, newRow, grownCap, asInt, asIntOf, hold, hns, hneg]
  congr 2
  apply Array.ext'
  simp

theorem zeros_rep {te : Ty} {e : TypeId} (hte : TyOk P e te) (m : Nat) : All2 (RepV w ow) (List.replicate m (zeroV te)).flatten (Builtin.zeroCells te.zero.cells m).toList := by
  rw [zeroCells_list hte]
  induction m with
  | zero => trivial
  | succ m ih =>
    simp only [List.replicate_succ, List.flatten_cons]
    refine All2.append ?_ ih
    have hz := all2_zero (w := w) (ow := ow) (ρ := fun _ => none) hte
    unfold zeroV
    generalize te.zero.cells.toList = l at hz
    induction l with
    | nil => trivial
    | cons x l ih => exact ⟨hz.1, ih hz.2⟩

theorem appendF_sound (hΓ : TysOk P Γ) (hm : Mem own0 mt w0 ρ H w) {nx : Nat} (hnx : H nx = none) {ts : Array TypeId} {s : D} {us ux : Value} {k' : IntKind} {n : Int} (hs : RepD w (Ow own0 ρ H) ρ s us) (hx : RepD w (Ow own0 ρ H) ρ (.x (.int k' n)) ux) (T : TypeId)
    (hg : (appendFE Γ ts H nx s n).gives P (d', ups)) : MRun P own0 mt w0 ρ H w (Builtin.append_ ts T #[us, ux]) ups fun w' ow' ρ' v => RepD w' ow' ρ' d' v := by
  unfold appendFE at hg
  split at hg
  · rename_i r m
    split at hg
    · rename_i t0 t1 h0 h1
      split at hg
      · rename_i ty0 ty1 hy0 hy1
        have ht0 := (hΓ _ _ hy0).under
        have ht1 := (hΓ _ _ hy1).under
        split at hg
        · rename_i e k hd0 hd1
          rw [hd0] at ht0
          rw [hd1] at ht1
          split at hg
          · rename_i te hte
            have hte := hΓ _ _ hte
            split at hg
            · rename_i kk rows c hr
              obtain ⟨⟨rfl, hsz, hn, hpos, hmr, hc, h63, h48⟩, hg⟩ := hg
              have hg' : (d', ups) = (_, _) := hg
              cases hg'
              have hux := (rep_x hx).1
              subst hux
              obtain ⟨j, rfl⟩ : ∃ j : Nat, n = j := ⟨n.toNat, by omega⟩
              have h48' : (m + j) * te.bytes ≤ 70368744177664 := by
                have : ((m : Int) + (j : Int)) * (te.bytes : Int) = (((m + j) * te.bytes : Nat) : Int) := by simp
                rw [this] at h48; omega
              have hb := (hm.blks r _ hr).row_of_full
              have hroom := (hm.blks r _ hr).2
              obtain ⟨news, hn2, hf⟩ := reads_row (P := P) hb (o_view (k := te.size) hs) (Nat.le_refl m) (by omega)
              have hl : ((rows.drop 0).take m).length = m := by simp; omega
              rw [hl] at hf
              simp only [List.drop_zero] at hn2
              obtain ⟨hrl, pl, hpl, hrow⟩ := hb
              obtain ⟨pl', hpl', hs⟩ := hs
              rw [hpl] at hpl'; cases hpl'
              cases pl with
              | nil => have hrow : rows = [] := hrow; subst hrow; simp at hpos
              | blk b base cap =>
                obtain ⟨rfl, hmc⟩ := hs
                have hroom : cap = c := hroom _ hpl
                subst hroom
                have hrun := run_append_onto (P := P) ts T t0 t1 e k te h0 h1 ht0 ht1 hte w k' (some ⟨b, base, none⟩) m cap j news (hf w.drew fun _ => rfl) hsz (by omega) (by omega) (by omega) h48'
                have hge := grownCap_ge w (m + j) cap e
                simp only [Int.toNat_natCast]
                have hkk : ∀ x, x ∈ rows.take m ++ List.replicate j (zeroV te) → x.length = te.size := fun x h => by
                  rcases List.mem_append.1 h with h | h
                  · exact hrl x (List.mem_of_mem_take h)
                  · rw [(List.mem_replicate.1 h).2]
                    simp [zeroV, hte.zsize]
                have hfl : All2 (RepV w.drew (Ow own0 ρ H)) (rows.take m ++ List.replicate j (zeroV te)).flatten (news ++ (Builtin.zeroCells te.zero.cells j).toList) := by
                  rw [List.flatten_append]
                  exact (hn2.mono fun _ _ h => h.mono (Keep.drew _ _) fun _ _ h => h).append (zeros_rep hte j)
                have hst := newRow_step (Step.drew hm).mem hnx hte (rows := rows.take m ++ List.replicate j (zeroV te)) (cap := grownCap w (m + j) cap e) hkk hfl (by simp; omega)
                  (Builtin.zeroCells te.zero.cells (grownCap w (m + j) cap e - (m + j))).toList (by rw [Array.length_toList, zeroCells_len hte]; congr 2; simp; omega) e
                exact ⟨_, _, _, hrun, (Step.drew hm).trans hst, .blk w.drew.heap.size 0 (grownCap w (m + j) cap e), by rw [upd_same], rfl, hge⟩
            · exact hg.elim
          · exact hg.elim
        · exact hg.elim
      · exact hg.elim
    · exact hg.elim
  · exact appendN_sound hΓ hm hnx hs hx T hg

/-- A row's room, made known: for each room that there may be. -/
theorem ACall.room {f : FuncId} {k : Nat} {rows : List (List V)} {bi : List Blk} {args : List D} {val : D} {bo : List Blk} (h : ∀ c, rows.length ≤ c → ACall P f (.full k rows c :: bi) args val bo) : ACall P f (.row k rows :: bi) args val bo := by
  refine ⟨(h rows.length (Nat.le_refl _)).1, fun own0 w ρ vs hm ha => ?_⟩
  have hb := hm.blks 0 _ rfl
  obtain ⟨hrl, m, hpl, hrow⟩ := id hb
  have hle : rows.length ≤ roomOf m := by
    cases m with
    | nil => have hrow : rows = [] := hrow; subst hrow; simp
    | blk b base cap => exact hrow.1
  have hl0 : live ((fun i => (Blk.row k rows :: bi)[i]?) 0) = true := rfl
  have e : upd (fun i => (Blk.row k rows :: bi)[i]?) 0 (some (.full k rows (roomOf m))) = fun i => (Blk.full k rows (roomOf m) :: bi)[i]? := by
    funext i
    cases i <;> simp [upd]
  have how : ∀ b, Ow own0 ρ (upd (fun i => (Blk.row k rows :: bi)[i]?) 0 (some (.full k rows (roomOf m)))) b → Ow own0 ρ (fun i => (Blk.row k rows :: bi)[i]?) b := fun b h => ow_relax (fun _ => hl0) h
  have hm2 := hm.relax (i := 0) (blk := .full k rows (roomOf m)) (fun _ => hl0) (fun _ => rfl)
    ⟨(show RepB w _ ρ 0 (.row k rows) from hb.mono (Keep.refl _ _) (fun b _ h => how b h) (.refl _) fun _ _ _ _ _ => rfl), fun m' hm' => by rw [hpl] at hm'; cases hm'; rfl⟩
  rw [e] at hm2 how
  exact (h (roomOf m) hle).2 own0 w ρ vs hm2 (ha.mono fun _ _ h => h.mono (Keep.refl _ _) (fun b _ h => how b h) (.refl _))

end Eng
end Go.Proofs.YtllfgnhnooonfaaDoor
