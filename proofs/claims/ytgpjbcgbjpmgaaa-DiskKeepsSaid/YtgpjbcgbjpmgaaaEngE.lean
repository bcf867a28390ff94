/- Each operation does what the evaluator says: room ahead for an append, bytes and strings. -/
import Derived.Test.YtgpjbcgbjpmgaaaEngH
import Derived.Lib.ConvBytes
import Derived.Laws.BytesArg
set_option autoImplicit false
set_option linter.unusedSimpArgs false
set_option linter.unusedVariables false
namespace Go.Proofs.Ytgpjbcgbjpmgaaa
namespace Eng

/-- Zeros appended to nothing: so much room. -/
def appendNE (Γ : Nat → Option Ty) (ts : Array TypeId) (nx : Nat) (s : D) (n : Int) : Tr (D × Ups) :=
  match ts[0]?, ts[1]? with
  | some t0, some t1 => match Γ t0, Γ t1 with
    | some ty0, some ty1 => match ty0.desc, ty1.desc with
      | .slice e, .int _ => match Γ e with
        | some te => match s with
          | .e (.c (.v (.x (.slice none 0 0)))) => .ask (te.size ≠ 0 ∧ 0 < n ∧ n ≤ 70368744177664 ∧ n * te.bytes ≤ 70368744177664) (.ret (.e (.c (.o nx n.toNat)), [(nx, .row te.size (List.replicate n.toNat (zeroV te)))]))
          | _ => .fail
        | none => .fail
      | _, _ => .fail
    | _, _ => .fail
  | _, _ => .fail

def capE (ty : Ty) (x : D) : Tr (D × Ups) :=
  match ty.desc with
  | .slice _ => match x with
    | .e (.c (.v (.x (.slice none 0 0)))) => .ret (.x (.int .i64 0), [])
    | _ => .fail
  | _ => .fail

def byteOf : List V → UInt8
  | [.x (.int .u8 n)] => UInt8.ofNat n.toNat
  | _ => 0

def isByte : List V → Prop
  | [.x (.int .u8 _)] => True
  | _ => False

def strRows (rows : List (List V)) : ByteArray := ⟨(rows.map byteOf).toArray⟩
def areBytes (rows : List (List V)) : Prop := ∀ r, r ∈ rows → isByte r

/-- A conversion; of bytes and strings, too. -/
def convHE (Γ : Nat → Option Ty) (H : Nat → Option Blk) (nx : Nat) (src dst : TypeId) (x : D) : Tr (D × Ups) :=
  match Γ src, Γ dst with
  | some ts, some td => match td.desc with
    | .string => match ts.desc with
      | .slice e => match Γ e with
        | some te => match te.desc with
          | .int .u8 => match rowsOf H x with
            | some rows => .ask (areBytes rows ∧ ∀ r n, x = .e (.c (.o r n)) → n = rows.length) (.ret (.x (.string (strRows rows)), []))
            | none => .fail
          | _ => .fail
        | none => .fail
      | _ => convE Γ src dst x
    | .slice e => match Γ e with
      | some te => match te.desc with
        | .int .u8 => match x with
          | .x (.string s) => .ret (.e (.c (.o nx s.size)), [(nx, .row 1 (bytesRows s))])
          | .e (.c (.o r n)) => match H r with
            | some (.row k rows) => .ask (src = dst ∧ 0 < n) (.ret (.e (.c (.o r n)), [(r, .row k rows)]))
            | _ => .fail
          | _ => .fail
        | _ => .fail
      | none => .fail
    | _ => convE Γ src dst x
  | _, _ => .fail

variable {P : Program} {Γ : Nat → Option Ty} {own0 mt : Nat → Prop} {w0 w : World} {ow : Nat → Prop} {ρ : Nat → Option Pl} {H : Nat → Option Blk} {q : Bool}
  {d' : D} {ups : Ups}

theorem cap_sound {t : TypeId} {ty : Ty} (ht : TyOk P t ty) {d : D} {u : Value} (hd : RepD w ow ρ d u) {ts : Array TypeId} (hts : ts[0]? = some t) (T : TypeId)
    (hg : (capE ty d).gives P (d', ups)) : ups = [] ∧ ∃ r, (Builtin.cap_ ts T #[u]).run P w = .ok r w ∧ RepD w ow ρ d' r := by
  unfold capE at hg
  have hu := ht.under
  split at hg
  · rename_i hdesc
    rw [hdesc] at hu
    split at hg
    · obtain ⟨rfl, _⟩ := rep_x hd
      exact ok_x hg rfl (by simp [Builtin.cap_, hts, run_underlying hu, goInt])
    · exact hg.elim
  · exact hg.elim

theorem bytes_news : ∀ {rows : List (List V)} {news : List Value}, areBytes rows → All2 (RepV w ow) rows.flatten news → ∃ ns : List Int, news = ns.map (Value.int .u8) ∧ rows.map byteOf = ns.map fun n => UInt8.ofNat n.toNat
  | [], [], _, _ => ⟨[], rfl, rfl⟩
  | [], _ :: _, _, h => h.elim
  | r :: rows, news, hb, h => by
    have h0 : isByte r := hb r (by simp)
    have : ∃ n : Int, r = [.x (.int .u8 n)] := by
      unfold isByte at h0
      split at h0
      · exact ⟨_, rfl⟩
      · exact h0.elim
    obtain ⟨n, rfl⟩ := this
    cases news with
    | nil => exact h.elim
    | cons x news =>
      obtain ⟨h1, h2⟩ := h
      obtain ⟨ns, rfl, h3⟩ := bytes_news (fun r hr => hb r (by simp [hr])) h2
      cases h1
      exact ⟨n :: ns, rfl, by simp only [List.map_cons, h3]; rfl⟩

theorem run_bytes_str {src dst e : TypeId} (hs : P.underlying src = some (.slice e)) (he : P.underlying e = some (.int .u8)) (hd : P.underlying dst = some .string) {rows : List (List V)} (hb : areBytes rows) {a : Option Addr} {n c : Nat}
    (h : Source P w ow 1 rows (.slice a n c)) : (Go.convert src dst (.slice a n c)).run P w = .ok (.string (strRows rows)) w := by
  obtain ⟨hl, news, hn, hf⟩ := h
  have e1 : n = rows.length := by
    have := hl w
    simpa [Builtin.lenOf] using this
  subst e1
  have hf := hf w fun _ => rfl
  obtain ⟨ns, rfl, hns⟩ := bytes_news hb hn
  rw [run_convert_bytes_string w src dst e _ _ c hs he hd]
  cases a with
  | none =>
    have h0 : ns = [] := by
      simp only [Builtin.firstCells, Sem.run_pure, Result.ok.injEq, and_true] at hf
      have := congrArg Array.toList hf
      simpa using this.symm
    subst h0
    simp [Conv.bytesToString, strRows, hns]
    rfl
  | some ad =>
    have hf : (loadCells ad rows.length).run P w = .ok (ns.map (Value.int .u8)).toArray w := by simpa [Builtin.firstCells] using hf
    rw [run_bytesToString w ad _ c ns hf, foldl_push_bytes]
    simp [strRows, hns, ByteArray.empty, ByteArray.emptyWithCapacity]
    rfl

theorem bytesWorld_eq (e : TypeId) (s : ByteArray) : Go.Lib.bytesWorld w e s = w.drew.alloc (.cells (Go.Lib.bytesCells w e s) e ((Go.Lib.bytesCells w e s).size, (Go.Lib.bytesCells w e s).size + 1)) := by
  simp only [Go.Lib.bytesWorld, World.freeze, World.alloc, World.drew]
  rw [if_neg (by decide)]
  congr 1
  apply Array.ext'
  simp [Array.toList_modify, List.modify_eq_set]

theorem conv_sound (hΓ : TysOk P Γ) (hm : Mem own0 mt w0 ρ H w) {nx : Nat} (hnx : H nx = none) {s t : TypeId} {d : D} {u : Value} (hd : RepD w (Ow own0 ρ H) ρ d u) (hg : (convHE Γ H nx s t d).gives P (d', ups)) :
    MRun P own0 mt w0 ρ H w (Go.convert s t u) ups fun w' ow' ρ' v => RepD w' ow' ρ' d' v := by
  have old : (convE Γ s t d).gives P (d', ups) → MRun P own0 mt w0 ρ H w (Go.convert s t u) ups fun w' ow' ρ' v => RepD w' ow' ρ' d' v := fun hg => by
    obtain ⟨rfl, v, hr, hd⟩ := convE_sound hΓ hd hg
    exact MRun.pure hm hr hd
  unfold convHE at hg
  split at hg
  · rename_i tys tyd hts htd
    have hts' := (hΓ _ _ hts).under
    have htd' := (hΓ _ _ htd).under
    split at hg
    · rename_i hdd
      rw [hdd] at htd'
      split at hg
      · rename_i e hds
        rw [hds] at hts'
        split at hg
        · rename_i te hte
          have hte' := (hΓ _ _ hte).under
          split at hg
          · rename_i hde
            rw [hde] at hte'
            split at hg
            · rename_i rows hrows
              obtain ⟨⟨hb, hlen⟩, hg⟩ := hg
              have hg' : (d', ups) = (_, _) := hg
              cases hg'
              have hk : ∀ r, r ∈ rows → r.length = 1 := fun r hr => by
                have := hb r hr
                unfold isByte at this
                split at this
                · rfl
                · exact this.elim
              have hsrc := source_rows (P := P) hm hd hrows hk hlen
              have : ∃ a n c, u = .slice a n c := by
                have := hsrc.1 w
                cases u <;> first | exact ⟨_, _, _, rfl⟩ | skip
                all_goals
                  unfold rowsOf at hrows
                  split at hrows
                  · obtain ⟨a, c, h, _⟩ := rep_s (show RepV w _ (.s _ _) _ from hd); cases h
                  · have := rep_nil hd; cases this
                  · obtain ⟨m, _, h⟩ := hd
                    cases m with
                    | nil => obtain ⟨_, _, h⟩ := h; cases h
                    | blk b base cap => obtain ⟨h, _⟩ := h; cases h
                  · cases hrows
              obtain ⟨a, n, c, rfl⟩ := this
              exact MRun.pure hm (run_bytes_str hts' hte' htd' hb hsrc) (RepV.x _ rfl)
            · exact hg.elim
          · exact hg.elim
        · exact hg.elim
      · exact old hg
    · rename_i e hdd
      rw [hdd] at htd'
      split at hg
      · rename_i te hte
        have hte' := (hΓ _ _ hte).under
        split at hg
        · rename_i hde
          rw [hde] at hte'
          split at hg
          · rename_i str
            have hg' : (d', ups) = (_, _) := hg
            cases hg'
            obtain ⟨rfl, _⟩ := rep_x hd
            have hrun := Go.Lib.run_convert_string_bytes (P := P) w s t e str hts' htd' hte'
            rw [bytesWorld_eq] at hrun
            have hge := grownCap_ge w str.size 0 e
            have hl : str.data.size = str.size := rfl
            refine ⟨_, _, _, hrun, (Step.drew hm).trans (Step.new (Step.drew hm).mem hnx (c := grownCap w str.size 0 e) ⟨fun r hr => ?_, .blk w.drew.heap.size 0 (grownCap w str.size 0 e), by rw [upd_same], ?_, _, _, _, heap_alloc_new _ _, .inr (Nat.le_refl _), ?_, fun i r j v hi hj => ?_⟩), .blk w.drew.heap.size 0 (grownCap w str.size 0 e), by rw [upd_same], rfl, hge⟩
            · obtain ⟨b, _, rfl⟩ := List.mem_map.1 hr; rfl
            · simpa [bytesRows] using hge
            · simp [Go.Lib.bytesCells]; omega
            · simp only [bytesRows, List.getElem?_map, Option.map_eq_some_iff] at hi
              obtain ⟨b, hb, rfl⟩ := hi
              have hj0 : j = 0 := by
                have := (List.getElem?_eq_some_iff.1 hj).1
                simp at this; exact this
              subst hj0
              simp at hj
              subst hj
              have hlt := (List.getElem?_eq_some_iff.1 hb).1
              refine ⟨.int .u8 b.toNat, ?_, RepV.x _ rfl⟩
              simp only [Go.Lib.bytesCells, Nat.zero_add, Nat.mul_one, Nat.add_zero]
              rw [Array.getElem?_append_left (by simpa using hlt)]
              simp at hb ⊢
              simp [hb]
          · rename_i r n
            split at hg
            · rename_i k rows hr
              obtain ⟨⟨rfl, hn⟩, hg⟩ := hg
              have hg' : (d', ups) = (_, _) := hg
              cases hg'
              obtain ⟨hrl, m, hm', hrow⟩ := hm.blks r _ hr
              obtain ⟨m', hm'', hc⟩ := hd
              rw [hm'] at hm''; cases hm''
              cases m with
              | nil => obtain ⟨rfl, _⟩ := hc; omega
              | blk b base cap =>
                obtain ⟨rfl, hle⟩ := hc
                obtain ⟨hcap, vs, T', fr, hh, hf, h2, h3⟩ := hrow
                clear hts'
                have hlive : live (H r) = true := by rw [hr]; rfl
                have hlt : b < w.heap.size := (Array.getElem?_eq_some_iff.1 hh).1
                have hfz : w.freeze ⟨b, vs.size, none⟩ 1 = setBlk w b (.cells vs T' (if fr.1 = fr.2 then (vs.size, vs.size + 1) else (min fr.1 vs.size, max fr.2 (vs.size + 1)))) := by
                  have hget : w.heap[b]'hlt = .cells vs T' fr := by
                    have := Array.getElem?_eq_getElem hlt
                    rw [hh] at this; exact (Option.some.inj this).symm
                  obtain ⟨lo, hi⟩ := fr
                  simp only [World.freeze, setBlk]
                  rw [if_neg (by decide)]
                  congr 1
                  apply Array.ext_getElem?
                  intro i
                  by_cases e : b = i
                  · subst e
                    rw [Array.getElem?_setIfInBounds_self_of_lt hlt, Array.getElem?_modify, if_pos rfl, hh]
                    simp
                  · rw [Array.getElem?_setIfInBounds_ne e, Array.getElem?_modify, if_neg e]
                have hf' : NoFr vs (if fr.1 = fr.2 then (vs.size, vs.size + 1) else (min fr.1 vs.size, max fr.2 (vs.size + 1))) := by
                  split
                  · exact .inr (Nat.le_refl _)
                  · rename_i hne
                    refine .inr ?_
                    rcases hf with h | h
                    · exact absurd h hne
                    · simp only []; omega
                refine ⟨_, _, ρ, ?_, Step.write hm hm' hlive rfl (T := T') (vs := vs) (fr := if fr.1 = fr.2 then (vs.size, vs.size + 1) else (min fr.1 vs.size, max fr.2 (vs.size + 1))) ⟨hrl, _, hm', hcap, vs, T', _, setBlk_heap_same hlt, hf', h2, fun i r' j v hi hj => ?_⟩, _, hm', rfl, hle⟩
                · rw [← hfz]
                  have hsh : w.shape? b = some (T', vs.size) := by simp [World.shape?, hh]
                  simp [Go.convert, run_underlying htd', run_underlying hte', markStringish, hsh, Result.andThen]
                · obtain ⟨x, hx, hv⟩ := h3 i r' j v hi hj
                  exact ⟨x, hx, hv.mono (Keep.setBlk (.inr ⟨r, _, _, hm', hlive⟩) _) fun _ _ h => h⟩
            · exact hg.elim
          · exact hg.elim
        · exact hg.elim
      · exact hg.elim
    · exact old hg
  · exact hg.elim

theorem run_append_zeros (ts : Array TypeId) (T t0 t1 e : TypeId) (k : IntKind) (te : Ty) (h0 : ts[0]? = some t0) (h1 : ts[1]? = some t1) (ht0 : P.underlying t0 = some (.slice e)) (ht1 : P.underlying t1 = some (.int k))
    (hte : TyOk P e te) (w : World) (k' : IntKind) (n : Nat) (hsz : te.size ≠ 0) (hn : 0 < n) (h63 : n ≤ 70368744177664) (h48 : n * te.bytes ≤ 70368744177664) :
    (Builtin.append_ ts T #[.slice none 0 0, .int k' n]).run P w =
      .ok (.slice (some ⟨w.heap.size, 0, none⟩) n (grownCap w n 0 e)) (w.drew.alloc (.cells ((Builtin.zeroCells te.zero.cells n).toList ++ (Builtin.zeroCells te.zero.cells (grownCap w n 0 e - n)).toList).toArray e)) := by
  obtain ⟨i, hi, hiz, his, hib⟩ := hte.info
  have hn' : ¬ n = 0 := by omega
  have hw : IntKind.i64.wrap (n : Int) = (n : Int) := by
    simp only [IntKind.wrap, IntKind.bits, IntKind.signed]
    simp
    omega
  have h63' : ¬ (9223372036854775807 < (n : Int)) := by omega
  have h48' : ¬ (281474976710656 < Builtin.nextslicecap n 0 * i.bytes) := by
    have := nextslicecap_le (need := n) (old := 0) (by omega)
    have h2 : Builtin.nextslicecap n 0 * i.bytes ≤ (2 * n) * i.bytes := Nat.mul_le_mul_right _ this
    rw [hib] at h2 ⊢
    rw [Nat.mul_assoc] at h2
    omega
  have h48i : ¬ (281474976710656 < (n : Int) * (i.bytes : Int)) := by
    rw [hib]
    have : (n : Int) * (te.bytes : Int) = ((n * te.bytes : Nat) : Int) := by simp
    rw [this]; omega
  have hns : ¬ (n * te.size = 0) := Nat.mul_ne_zero hn' hsz
  have hneg : ¬ ((n : Int) < 0) := by omega
  simp [Builtin.append_, h0, h1, run_underlying ht0, run_underlying ht1, run_sizeOf hte, hw, hn', typeInfo, hi, h63', h48', h48i, Question.forced, run_zero hte, newRow, grownCap, asInt, asIntOf, Builtin.firstCells, hns, hneg]
  congr 2
  apply Array.ext'
  simp

theorem appendN_sound (hΓ : TysOk P Γ) (hm : Mem own0 mt w0 ρ H w) {nx : Nat} (hnx : H nx = none) {ts : Array TypeId} {s : D} {us ux : Value} {k' : IntKind} {n : Int} (hs : RepD w (Ow own0 ρ H) ρ s us) (hx : RepD w (Ow own0 ρ H) ρ (.x (.int k' n)) ux) (T : TypeId)
    (hg : (appendNE Γ ts nx s n).gives P (d', ups)) : MRun P own0 mt w0 ρ H w (Builtin.append_ ts T #[us, ux]) ups fun w' ow' ρ' v => RepD w' ow' ρ' d' v := by
  unfold appendNE at hg
  split at hg
  · rename_i t0 t1 h0 h1
    split at hg
    · rename_i ty0 ty1 hy0 hy1
      have ht0 := (hΓ _ _ hy0).under
      have ht1 := (hΓ _ _ hy1).under
      split at hg
      · rename_i e k hd0 hd1
        rw [hd0] at ht0
        rw [hd1] at ht1
        split at hg
        · rename_i te hte
          have hte := hΓ _ _ hte
          split at hg
          · obtain ⟨⟨hsz, hn, h63, h48⟩, hg⟩ := hg
            have hg' : (d', ups) = (_, _) := hg
            cases hg'
            have := rep_nil hs; subst this
            have hux := (rep_x hx).1
            subst hux
            obtain ⟨m, rfl⟩ : ∃ m : Nat, n = m := ⟨n.toNat, by omega⟩
            have h48' : m * te.bytes ≤ 70368744177664 := by
              have : (m : Int) * (te.bytes : Int) = ((m * te.bytes : Nat) : Int) := by simp
              rw [this] at h48; omega
            have hrun := run_append_zeros (P := P) ts T t0 t1 e k te h0 h1 ht0 ht1 hte w k' m hsz (by omega) (by omega) h48'
            have hge := grownCap_ge w m 0 e
            simp only [Int.toNat_natCast]
            have hz : All2 (RepV w.drew (Ow own0 ρ H)) (List.replicate m (zeroV te)).flatten (Builtin.zeroCells te.zero.cells m).toList := by
              rw [zeroCells_list hte]
              clear hrun hge h48' hn h63 h48 hg hx
              induction m with
              | zero => trivial
              | succ m ih =>
                simp only [List.replicate_succ, List.flatten_cons]
                refine All2.append ?_ ih
                have hz := all2_zero (w := w.drew) (ow := Ow own0 ρ H) (ρ := ρ) hte
                unfold zeroV
                generalize te.zero.cells.toList = l at hz
                induction l with
                | nil => trivial
                | cons x l ih => exact ⟨hz.1, ih hz.2⟩
            have hk : ∀ x, x ∈ List.replicate m (zeroV te) → x.length = te.size := fun x h => by
              rw [(List.mem_replicate.1 h).2]
              simp [zeroV, hte.zsize]
            have hst := newRow_step (Step.drew hm).mem hnx hte (rows := List.replicate m (zeroV te)) (cap := grownCap w m 0 e) hk hz (by simpa using hge)
              (Builtin.zeroCells te.zero.cells (grownCap w m 0 e - m)).toList (by simp [zeroCells_len hte]) e
            exact ⟨_, _, _, hrun, (Step.drew hm).trans hst, .blk w.drew.heap.size 0 (grownCap w m 0 e), by rw [upd_same], rfl, hge⟩
          · exact hg.elim
        · exact hg.elim
      · exact hg.elim
    · exact hg.elim
  · exact hg.elim

end Eng
end Go.Proofs.Ytgpjbcgbjpmgaaa
