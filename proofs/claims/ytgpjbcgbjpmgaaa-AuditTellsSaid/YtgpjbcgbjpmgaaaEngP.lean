/- Each operation does what the evaluator says: cuts, min and max. -/
import Derived.Test.YtgpjbcgbjpmgaaaEngO
set_option autoImplicit false
set_option linter.unusedSimpArgs false
set_option linter.unusedVariables false
namespace Go.Proofs.Ytgpjbcgbjpmgaaa
namespace Eng

variable {P : Program} {Γ : Nat → Option Ty} {own0 mt : Nat → Prop} {w0 w : World} {ow : Nat → Prop} {ρ : Nat → Option Pl} {H : Nat → Option Blk} {q : Bool}
  {d' : D} {ups : Ups}

def OptRep (w : World) (ow : Nat → Prop) (ρ : Nat → Option Pl) : Option D → Option Value → Prop
  | none, none => True
  | some d, some u => RepD w ow ρ d u
  | _, _ => False

theorem run_sliceBound {k : IntKind} {i : Int} {y : Nat} {code : BoundsCode} (h0 : 0 ≤ i) (h1 : i ≤ y) : (Instr.sliceBound (.int k i) y code).run P w = .ok i.toNat w := by
  simp [Instr.sliceBound, asIntOf, h0, h1]

theorem run_sliceBounds {isSlice : Bool} {len cap : Nat} {lo hi : Option D} {ul uh : Option Value} {l hh : Int} (hl : OptRep w ow ρ lo ul) (hh' : OptRep w ow ρ hi uh)
    (el : boundE 0 lo = some l) (eh : boundE len hi = some hh) (h0 : 0 ≤ l) (h1 : l ≤ hh) (h2 : hh ≤ cap) :
    (Instr.sliceBounds isSlice len cap ul uh none).run P w = .ok (l.toNat, hh.toNat, cap) w := by
  have bd : ∀ {dflt : Int} {d : Option D} {u : Option Value} {x : Int}, OptRep w ow ρ d u → boundE dflt d = some x → (u = none ∧ x = dflt) ∨ ∃ k, u = some (.int k x) := by
    intro dflt d u x hd he
    cases d with
    | none => cases u with
      | none => simp only [boundE, Option.some.injEq] at he; exact .inl ⟨rfl, he.symm⟩
      | some _ => exact hd.elim
    | some d => cases u with
      | none => exact hd.elim
      | some u =>
        unfold boundE at he
        split at he
        · rename_i h; cases h
        · rename_i k i h
          cases h
          cases he
          obtain ⟨rfl, _⟩ := rep_x hd
          exact .inr ⟨k, rfl⟩
        · cases he
  rcases bd hl el with ⟨rfl, rfl⟩ | ⟨k1, rfl⟩ <;> rcases bd hh' eh with ⟨rfl, rfl⟩ | ⟨k2, rfl⟩
  · simp [Instr.sliceBounds]
  · simp [Instr.sliceBounds, run_sliceBound (P := P) (w := w) (k := k2) (by omega : 0 ≤ hh) h2]
  · have : l ≤ ((len : Nat) : Int) := h1
    simp [Instr.sliceBounds, run_sliceBound (P := P) (w := w) (k := k1) h0 this]
  · have h3 : l ≤ ((hh.toNat : Nat) : Int) := by omega
    simp [Instr.sliceBounds, run_sliceBound (P := P) (w := w) (k := k2) (by omega : 0 ≤ hh) h2, run_sliceBound (P := P) (w := w) (k := k1) h0 h3]

theorem sub_s {k : Nat} {rows : List (List V)} {a : Option Addr} {n c l h : Nat} (hr : RepV w ow (.s k rows) (.slice a n c)) (hlh : l ≤ h) (hh : h ≤ rows.length) :
    RepV w ow (.s k ((rows.take h).drop l)) (.slice (if c = l then a else a.map (·.add (l * k))) (h - l) (c - l)) := by
  obtain ⟨a', c', he, hcap, hz, hk, hc⟩ := rep_s hr
  cases he
  have hlen : ((rows.take h).drop l).length = h - l := by simp; omega
  refine mk_s hlen.symm (fun i r hi => ?_) (fun ha => ?_) (by omega) (fun ad ha i r j v hi hj => ?_)
  · rw [List.getElem?_drop, List.getElem?_take] at hi
    split at hi
    · exact hk _ _ hi
    · cases hi
  · split at ha
    · rename_i hcl
      have : h - l = 0 := by omega
      exact List.eq_nil_of_length_eq_zero (by rw [hlen]; exact this)
    · cases a with
      | none => simp [hz rfl]
      | some _ => cases ha
  · have hi' := hi
    rw [List.getElem?_drop, List.getElem?_take] at hi
    split at hi
    · rename_i hlt
      split at ha
      · omega
      · cases a with
        | none => cases ha
        | some ad0 =>
          simp only [Option.map_some, Option.some.injEq] at ha
          subst ha
          obtain ⟨x, hx, hv, hn⟩ := hc ad0 rfl _ _ _ _ hi hj
          refine ⟨x, addr_add_mul _ _ _ _ ?_, hv, by rwa [addr_add_block]⟩
          rw [show l * k + (i * k + j) = (l + i) * k + j by rw [Nat.add_mul]; omega]; exact hx
    · cases hi

theorem MRun.pure {α : Type} {s : Sem α} {R : World → (Nat → Prop) → (Nat → Option Pl) → α → Prop} (hm : Mem own0 mt w0 ρ H w) {v : α} (hr : s.run P w = .ok v w) (h : R w (Ow own0 ρ H) ρ v) : MRun P own0 mt w0 ρ H w s [] R :=
  ⟨v, w, ρ, hr, Step.refl hm, h⟩

theorem slice_sound (hΓ : TysOk P Γ) (hm : Mem own0 mt w0 ρ H w) {nx : Nat} (hnx : H nx = none) {t : TypeId} {ty : Ty} (ht : TyOk P t ty) {x : D} {u : Value} {lo hi mx : Option D} {ul uh um : Option Value} (hq : q = true)
    (hx : RepD w (Ow own0 ρ H) ρ x u) (hl : OptRep w (Ow own0 ρ H) ρ lo ul) (hh : OptRep w (Ow own0 ρ H) ρ hi uh) (hmx : OptRep w (Ow own0 ρ H) ρ mx um)
    (hg : (sliceE Γ ty q H nx x lo hi mx).gives P (d', ups)) : MRun P own0 mt w0 ρ H w (Instr.slice t u ul uh um) ups fun w' ow' ρ' v => RepD w' ow' ρ' d' v := by
  unfold sliceE at hg
  have hu := ht.under
  split at hg
  · rename_i m
    split at hg
    · rename_i km kh
      cases um with
      | none => exact hmx.elim
      | some um =>
      cases uh with
      | none => exact hh.elim
      | some uh =>
      cases ul with
      | some _ => exact hl.elim
      | none =>
      obtain ⟨rfl, _⟩ := rep_x hmx
      obtain ⟨rfl, _⟩ := rep_x hh
      split at hg
      · rename_i e hdesc
        rw [hdesc] at hu
        split at hg
        · rename_i te hte
          have hts := run_sizeOf (hΓ _ _ hte)
          have key : ∀ (a : Option Addr) (n c : Nat), u = .slice a n c → (Tr.ret (D.e (.c (.o nx 0)), [(nx, Blk.row te.size [])])).gives P (d', ups) →
              MRun P own0 mt w0 ρ H w (Instr.slice t u none (some (.int kh 0)) (some (.int km 0))) ups fun w' ow' ρ' v => RepD w' ow' ρ' d' v := by
            intro a n c hs hg
            have hg' : (d', ups) = (_, _) := hg
            cases hg'
            subst hs
            refine ⟨.slice a 0 0, w, upd ρ nx (some .nil), ?_, Step.newNil hm hnx, .nil, by rw [upd_same], rfl, a, rfl⟩
            have b1 : (Instr.sliceBounds true n c none (some (.int kh 0)) (some (.int km 0))).run P w = .ok (0, 0, 0) w := by
              simp [Instr.sliceBounds, run_sliceBound (P := P) (w := w) (i := 0) (y := c) (Int.le_refl 0) (by omega), run_sliceBound (P := P) (w := w) (i := 0) (y := 0) (Int.le_refl 0) (by omega)]
            simp [Instr.slice, run_underlying hu, b1, hts]
          split at hg
          · rename_i k rows
            obtain ⟨a, c, rfl, _⟩ := rep_s (show RepV w _ (.s k rows) u from hx)
            exact key _ _ _ rfl hg
          · rename_i r n
            obtain ⟨m, _, h⟩ := hx
            cases m with
            | nil => obtain ⟨_, a, rfl⟩ := h; exact key _ _ _ rfl hg
            | blk => obtain ⟨rfl, _⟩ := h; exact key _ _ _ rfl hg
          · have := rep_nil hx; subst this; exact key _ _ _ rfl hg
          · exact hg.elim
        · exact hg.elim
      · exact hg.elim
    · exact hg.elim
  · cases um with
    | some _ => exact hmx.elim
    | none =>
    split at hg
    · rename_i hdesc
      rw [hdesc] at hu
      split at hg
      · rename_i s
        obtain ⟨rfl, _⟩ := rep_x hx
        split at hg
        · rename_i l hh' el eh
          obtain ⟨h0, hg⟩ := hg
          obtain ⟨h1, h2, h3⟩ := h0 hq
          have hg' : (d', ups) = (_, _) := hg
          cases hg'
          refine MRun.pure hm ?_ (RepV.x _ rfl)
          simp [Instr.slice, run_underlying hu, run_sliceBounds (P := P) (isSlice := false) hl hh el eh h1 h2 h3]
        · exact hg.elim
      · exact hg.elim
    · rename_i e hdesc
      rw [hdesc] at hu
      split at hg
      · rename_i te hte
        have hts := run_sizeOf (hΓ _ _ hte)
        split at hg
        · rename_i k rows
          split at hg
          · rename_i l hh' el eh
            obtain ⟨h0, hg⟩ := hg
            obtain ⟨rfl, h1, h2, h3⟩ := h0 hq
            have hg' : (d', ups) = (_, _) := hg
            cases hg'
            have hx' : RepV w (Ow own0 ρ H) (.s te.size rows) u := hx
            obtain ⟨a, c, rfl, hcap, _⟩ := rep_s hx'
            refine MRun.pure hm ?_ (sub_s (l := l.toNat) (h := hh'.toNat) hx' (by omega) (by omega))
            simp [Instr.slice, run_underlying hu, run_sliceBounds (P := P) (isSlice := true) (cap := c) hl hh el eh h1 h2 (by omega), hts]
          · exact hg.elim
        · have hu0 := rep_nil hx
          subst hu0
          split at hg
          · rename_i l hh' el eh
            obtain ⟨h0, hg⟩ := hg
            obtain ⟨rfl, rfl⟩ := h0 hq
            have hg' : (d', ups) = (_, _) := hg
            cases hg'
            refine MRun.pure hm ?_ (RepV.x _ rfl)
            simp [Instr.slice, run_underlying hu, run_sliceBounds (P := P) (isSlice := true) (len := 0) (cap := 0) hl hh el eh (by omega) (by omega) (by omega), hts]
          · exact hg.elim
        · rename_i r n
          split at hg
          · cases ul with
            | some _ => exact hl.elim
            | none =>
            split at hg
            · rename_i hh' eh
              obtain ⟨h0, hg⟩ := hg
              obtain ⟨h1, h2⟩ := h0 hq
              have hg' : (d', ups) = (_, _) := hg
              cases hg'
              obtain ⟨m, hm', h⟩ := hx
              cases m with
              | nil =>
                obtain ⟨rfl, a, rfl⟩ := h
                refine MRun.pure hm (v := .slice a 0 0) ?_ ⟨.nil, hm', by omega, a, rfl⟩
                have hz : hh' = 0 := by omega
                simp [Instr.slice, run_underlying hu, run_sliceBounds (P := P) (isSlice := true) (len := 0) (cap := 0) (lo := none) (ul := none) (w := w) (ow := Ow own0 ρ H) (ρ := ρ) trivial hh rfl eh (by omega) (by omega) (by omega), hts, hz]
              | blk b base cap =>
                obtain ⟨rfl, hle⟩ := h
                refine MRun.pure hm (v := .slice (some ⟨b, base, none⟩) hh'.toNat cap) ?_ ⟨.blk b base cap, hm', rfl, by omega⟩
                have hb := run_sliceBounds (P := P) (isSlice := true) (len := n) (cap := cap) (lo := none) (ul := none) (w := w) (ow := Ow own0 ρ H) (ρ := ρ) trivial hh rfl eh (by omega) (by omega) (by omega)
                simp [Instr.slice, run_underlying hu, hb, hts, addr_add_lit]
            · exact hg.elim
          · split at hg
            · rename_i l hh' el eh
              have own : ∀ {k : Nat} {rows : List (List V)} {ρ1 : Nat → Option Pl} {ow1 : Nat → Prop}, RepV w ow1 (.s k (rows.take n)) u → k = te.size → 0 ≤ l → l ≤ hh' → hh' ≤ n → n ≤ rows.length →
                  ∃ v, (Instr.slice t u ul uh none).run P w = .ok v w ∧ RepD w ow1 ρ1 (.e (.c (.v (.s k ((rows.take hh'.toNat).drop l.toNat))))) v := by
                intro k rows ρ1 ow1 hv hk h1 h2 h3 h4
                subst hk
                obtain ⟨a, c, he, hcap, _⟩ := rep_s hv
                have hlen : (rows.take n).length = n := by simp; omega
                rw [hlen] at he hcap
                subst he
                have hs := sub_s (l := l.toNat) (h := hh'.toNat) hv (by omega) (by omega)
                rw [List.take_take, Nat.min_eq_left (by omega)] at hs
                refine ⟨_, ?_, hs⟩
                simp [Instr.slice, run_underlying hu, run_sliceBounds (P := P) (isSlice := true) (cap := c) hl hh el eh h1 h2 (by omega), hts]
              split at hg
              · rename_i k rows hr
                obtain ⟨⟨h0, h1, h2, h3, h4⟩, hg⟩ := hg
                have hg' : (d', ups) = (_, _) := hg
                cases hg'
                have hs := Step.freeze hm hr
                have hv := pure_ice (k := k) (rows := rows) hs.mem (upd_same _ _ _) (RepC.mono (Keep.refl _ _) hs.ow (.refl _) (show RepC w _ ρ (.o r n) u from hx)) h4
                obtain ⟨v, hrun, hd⟩ := own (ρ1 := ρ) hv h0 h1 h2 h3 h4
                exact ⟨v, w, ρ, hrun, hs, hd⟩
              · rename_i k rows hr
                obtain ⟨h0, hg⟩ := hg
                obtain ⟨h0, h1, h2, h3, h4⟩ := h0 hq
                have hg' : (d', ups) = (_, _) := hg
                cases hg'
                obtain ⟨v, hrun, hd⟩ := own (ρ1 := ρ) (pure_ice hm hr hx h4) h0 h1 h2 h3 h4
                exact MRun.pure hm hrun hd
              · exact hg.elim
            · exact hg.elim
        · exact hg.elim
      · exact hg.elim
    · exact hg.elim

theorem minI_sound {k : IntKind} {up : Bool} : ∀ {ds : List D} {us : List Value} {x : Int}, All2 (RepD w ow ρ) ds us → (minI k up x ds).gives P (d', ups) →
    ups = [] ∧ ∃ v, (us.foldlM (if up then Builtin.max2 else Builtin.min2) (.int k x)).run P w = .ok v w ∧ RepD w ow ρ d' v
  | [], [], x, _, hg => by
    obtain ⟨rfl, rfl⟩ := gives_x hg
    exact ⟨rfl, _, rfl, RepV.x _ rfl⟩
  | d :: ds, u :: us, x, ⟨h0, h1⟩, hg => by
    unfold minI at hg
    split at hg
    · rename_i h; cases h
    · rename_i k' y r h
      cases h
      obtain ⟨rfl, hg⟩ := hg
      obtain ⟨rfl, _⟩ := rep_x h0
      obtain ⟨hu, v, hr, hv⟩ := minI_sound h1 hg
      refine ⟨hu, v, ?_, hv⟩
      rw [← hr]
      cases up <;> simp [List.foldlM, Builtin.max2, Builtin.min2]
    · exact hg.elim
  | [], _ :: _, _, h, _ => h.elim
  | _ :: _, [], _, h, _ => h.elim

theorem minE_sound {up : Bool} {ds : List D} {us : List Value} (h : All2 (RepD w ow ρ) ds us) (hg : (minE up ds).gives P (d', ups)) (ts : Array TypeId) (T : TypeId) :
    ups = [] ∧ ∃ v, ((if up then Builtin.max_ else Builtin.min_) ts T us.toArray).run P w = .ok v w ∧ RepD w ow ρ d' v := by
  unfold minE at hg
  split at hg
  · rename_i k x r
    match us, h with
    | u :: us, ⟨h0, h1⟩ =>
      obtain ⟨rfl, _⟩ := rep_x h0
      obtain ⟨hu, v, hr, hv⟩ := minI_sound h1 hg
      refine ⟨hu, v, ?_, hv⟩
      rw [← hr]
      cases up <;> simp [Builtin.max_, Builtin.min_]
  · exact hg.elim

end Eng
end Go.Proofs.Ytgpjbcgbjpmgaaa
