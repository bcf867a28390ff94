/- Each operation does what the evaluator says: append, literals, cuts. -/
import Derived.Test.YtllfgnhnooonfaaDoorEngM
set_option autoImplicit false
set_option linter.unusedSimpArgs false
set_option linter.unusedVariables false
namespace Go.Proofs.YtllfgnhnooonfaaDoor
namespace Eng

variable {P : Program} {Γ : Nat → Option Ty} {own0 mt : Nat → Prop} {w0 w : World} {ow : Nat → Prop} {ρ : Nat → Option Pl} {H : Nat → Option Blk} {q : Bool}
  {d' : D} {ups : Ups}

theorem append_empty {ts : Array TypeId} {T t0 t1 e : TypeId} {d1 : TypeDesc} {te : Ty} (h0 : ts[0]? = some t0) (h1 : ts[1]? = some t1) (ht0 : P.underlying t0 = some (.slice e)) (ht1 : P.underlying t1 = some d1)
    (hd1 : ∀ k, d1 ≠ .int k) (hte : TyOk P e te) {a : Option Addr} {ux : Value} (hx : Source P w ow te.size [] ux) : (Builtin.append_ ts T #[.slice a 0 0, ux]).run P w = .ok (.slice a 0 0) w := by
  obtain ⟨hxl, news, hxn, hxf⟩ := hx
  have hn : news = [] := by
    have := hxn.length
    simp at this
    exact List.eq_nil_of_length_eq_zero (by simpa using this.symm)
  subst hn
  have := run_append_room (P := P) ts T t0 t1 e d1 te h0 h1 ht0 ht1 hd1 hte w a 0 0 ux 0 [] (hxl w) (hxf w fun _ => rfl) (by omega)
  rw [this]
  cases a <;> simp [storeCells]

theorem append_sound (hΓ : TysOk P Γ) (hm : Mem own0 mt w0 ρ H w) {nx : Nat} (hnx : H nx = none) {ts : Array TypeId} {s x : D} {us ux : Value} (hs : RepD w (Ow own0 ρ H) ρ s us) (hx : RepD w (Ow own0 ρ H) ρ x ux) (T : TypeId)
    (hg : (appendE Γ ts H nx s x).gives P (d', ups)) : MRun P own0 mt w0 ρ H w (Builtin.append_ ts T #[us, ux]) ups fun w' ow' ρ' v => RepD w' ow' ρ' d' v := by
  unfold appendE at hg
  split at hg
  · rename_i t0 t1 h0 h1
    split at hg
    · rename_i ty0 ty1 hy0 hy1
      have ht0 := (hΓ _ _ hy0).under
      have ht1 := (hΓ _ _ hy1).under
      split at hg
      · rename_i e hdesc
        rw [hdesc] at ht0
        split at hg
        · rename_i te hte
          have hte := hΓ _ _ hte
          dsimp only at hg
          split at hg
          · rename_i rs hnew
            have hd1 : ∀ k, ty1.desc ≠ .int k := by
              intro k h; rw [h] at hnew; simp at hnew
            have hsrc : (∀ r, r ∈ rs → r.length = te.size) → (∀ r n, x = .e (.c (.o r n)) → n = rs.length) → Source P w (Ow own0 ρ H) te.size rs ux := by
              intro hk hlen
              split at hnew
              · split at hnew
                · cases hnew
                  have := (rep_x hx).1; subst this
                  exact source_string hk
                · cases hnew
              · exact source_rows hm hx hnew hk hlen
              · cases hnew
            split at hg
            · obtain ⟨⟨hsz, hk, h48, h63, hlen⟩, hg⟩ := hg
              have hg' : (d', ups) = (_, _) := hg
              cases hg'
              have := rep_nil hs; subst this
              have hsrc := hsrc hk hlen
              by_cases hr0 : rs = []
              · subst hr0
                refine ⟨_, w, _, append_empty h0 h1 ht0 ht1 hd1 hte hsrc, Step.newNil hm hnx, .nil, by rw [upd_same], rfl, none, rfl⟩
              · have hpos : 0 < rs.length := List.length_pos_iff.2 hr0
                have := append_core hm hnx ht0 ht1 hd1 hte h0 h1 T (olds := []) (us := .slice none 0 0) rfl (source_cells (by simp) (by simp) (by simp)) hsrc (by simp) hk (by simpa using hpos) (by simpa using h48) (by simpa using h63)
                simpa using this
            · rename_i r n
              split at hg
              · rename_i k rows hr
                obtain ⟨⟨rfl, hsz, hn, hk, h48, h63, hlen⟩, hg⟩ := hg
                have hg' : (d', ups) = (_, _) := hg
                cases hg'
                have hsrc := hsrc hk hlen
                have hs0 := hs
                obtain ⟨hrl, m, hm', hrow⟩ := hm.blks r _ hr
                obtain ⟨m', hm'', hc⟩ := hs
                rw [hm'] at hm''; cases hm''
                have hne : nx ≠ r := fun e => by subst e; rw [hnx] at hr; cases hr
                cases m with
                | nil =>
                  obtain ⟨rfl, a, rfl⟩ := hc
                  by_cases hr0 : rs = []
                  · subst hr0
                    have hkill := Step.kill hm r
                    refine ⟨_, w, _, append_empty h0 h1 ht0 ht1 hd1 hte hsrc, hkill.trans (Step.newNil hkill.mem (by rw [upd_other _ _ hne]; exact hnx)), .nil, by rw [upd_same], rfl, a, rfl⟩
                  · have hpos : 0 < rs.length := List.length_pos_iff.2 hr0
                    have hkill := Step.kill hm r
                    have up : ∀ {rs : List (List V)} {u : Value}, Source P w (Ow own0 ρ H) te.size rs u → Source P w (Ow own0 ρ (upd H r (some .gone))) te.size rs u := fun {rs u} h => by
                      obtain ⟨h1, news, h2, h3⟩ := h
                      exact ⟨h1, news, h2.mono fun _ _ h => h.mono (Keep.refl _ _) hkill.ow, h3⟩
                    obtain ⟨v, w', ρ', h1, h2, h3⟩ := append_core hkill.mem (by rw [upd_other _ _ hne]; exact hnx) ht0 ht1 hd1 hte h0 h1 T (olds := []) (us := .slice a 0 0) rfl (source_cells (by simp) (by simp) (by simp)) (up hsrc) (by simp) hk (by simpa using hpos) (by simp at h48 ⊢; omega) (by simp at h63 ⊢; omega)
                    refine ⟨v, w', ρ', h1, hkill.trans ?_, ?_⟩
                    · simpa [updL] using h2
                    · simpa [updL] using h3
                | blk b base cap =>
                  obtain ⟨rfl, hle⟩ := hc
                  by_cases hroom : n + rs.length ≤ cap
                  · exact append_room_core hm hnx ht0 ht1 hd1 hte h0 h1 T hr hm' hn hsrc hk hroom
                  · have hkill := Step.kill hm r
                    have hold : Source P w (Ow own0 ρ H) te.size (rows.take n) (.slice (some ⟨b, base, none⟩) n cap) :=
                      source_rows hm (x := .e (.c (.o r n))) hs0 (by simp [rowsOf, hr]) (fun r' h => hrl r' (List.mem_of_mem_take h)) (fun r' n' h => by cases h; simp; omega)
                    have up : ∀ {rs : List (List V)} {u : Value}, Source P w (Ow own0 ρ H) te.size rs u → Source P w (Ow own0 ρ (upd H r (some .gone))) te.size rs u := fun {rs u} h => by
                      obtain ⟨h1, news, h2, h3⟩ := h
                      exact ⟨h1, news, h2.mono fun _ _ h => h.mono (Keep.refl _ _) hkill.ow, h3⟩
                    have htl : (rows.take n).length = n := by simp; omega
                    obtain ⟨v, w', ρ', h1, h2, h3⟩ := append_core hkill.mem (by rw [upd_other _ _ hne]; exact hnx) ht0 ht1 hd1 hte h0 h1 T (olds := rows.take n) (us := .slice (some ⟨b, base, none⟩) n cap) (by rw [htl]) (up hold) (up hsrc)
                      (fun r' h => hrl r' (List.mem_of_mem_take h)) hk (by rw [htl]; omega) (by rw [htl]; exact h48) (by rw [htl]; exact h63)
                    rw [htl] at h3
                    exact ⟨v, w', ρ', h1, hkill.trans h2, h3⟩
              · exact hg.elim
            · exact hg.elim
          · exact hg.elim
        · exact hg.elim
      · exact hg.elim
    · exact hg.elim
  · exact hg.elim

theorem fillE_sound {place : Nat → Option (Nat × Nat)} : ∀ {parts : List (Nat × D)} {us : List (Nat × Value)} {cells cs : List C} {vs : List Value}, fillE place cells parts = some cs →
    All2 (fun p u => p.1 = u.1 ∧ RepD w ow ρ p.2 u.2) parts us → All2 (RepC w ow ρ) cells vs → ∃ vs', Instr.fill place vs.toArray us = some vs' ∧ All2 (RepC w ow ρ) cs vs'.toList
  | [], [], cells, cs, vs, h, _, hc => by cases h; exact ⟨_, rfl, by simpa using hc⟩
  | (i, d) :: rest, (i', u) :: us, cells, cs, vs, h, ⟨⟨h1, h2⟩, h3⟩, hc => by
    dsimp only at h1 h2
    subst h1
    cases d with
    | e e =>
      simp only [fillE] at h
      split at h
      · rename_i off size hp
        split at h
        · rename_i hs
          have he := rep_cells h2
          have hcl := hc.length
          obtain ⟨vs', hv, ha⟩ := fillE_sound h h3 (all2_splice (off := off) hc he.1)
          refine ⟨vs', ?_, ha⟩
          have hus : u.cells.size = size := by rw [← he.2]; exact hs.1
          have hle : ¬ (off + u.cells.size > vs.length) := by omega
          simp only [Instr.fill, hp]
          rw [if_neg (by simp; omega)]
          rw [← hv]
          congr 1
          -- the model's own filling is a splice
          have key : ∀ (xs : List Value) (j : Nat) (a : Array Value), off + j + xs.length ≤ a.size →
              (xs.zipIdx j).foldl (fun (cs : Array Value) (x : Value × Nat) => cs.setIfInBounds (off + x.2) x.1) a = (splice a.toList (off + j) xs).toArray := by
            intro xs
            induction xs with
            | nil => intro j a _; simp [splice_nil]
            | cons x xs ih =>
              intro j a hl
              simp only [List.zipIdx_cons, List.foldl_cons]
              simp at hl
              rw [ih (j + 1) _ (by simp; omega), Array.toList_setIfInBounds, ← Nat.add_assoc, splice_cons (by simp; omega)]
          have h0 := key u.cells.toList 0 vs.toArray (by simp; omega)
          simp only [Nat.add_zero] at h0
          rw [← Array.foldl_toList, Array.toList_zipIdx]
          exact h0
        · cases h
      · cases h
    | _ => simp [fillE] at h
  | [], _ :: _, _, _, _, _, h, _ => h.elim
  | _ :: _, [], _, _, _, _, h, _ => h.elim

end Eng
end Go.Proofs.YtllfgnhnooonfaaDoor

/-! Each operation does what the evaluator says: literals, cuts. -/
namespace Go.Proofs.YtllfgnhnooonfaaDoor
namespace Eng

variable {P : Program} {Γ : Nat → Option Ty} {own0 mt : Nat → Prop} {w0 w : World} {ow : Nat → Prop} {ρ : Nat → Option Pl} {H : Nat → Option Blk} {q : Bool}
  {d' : D} {ups : Ups}

theorem all2_zero {t : TypeId} {ty : Ty} (ht : TyOk P t ty) : All2 (RepC w ow ρ) (ty.zero.cells.toList.map fun c => .v (.x c)) ty.zero.cells.toList := by
  obtain ⟨e, _, he, hc⟩ := rep_ofVal (w := w) (ow := ow) (ρ := ρ) ty.zero ht.zok
  rw [← hc]; exact (rep_cells he).1

theorem mapM_places (hΓ : TysOk P Γ) : ∀ (fs : List Field), (∀ f, f ∈ fs → (Γ f.type).isSome = true) → 
    (fs.mapM fun (f : Field) => (do pure (f.offset, ← sizeOf f.type) : Sem (Nat × Nat))).run P w = .ok (fs.map fun f => (f.offset, ((Γ f.type).map (·.size)).getD 0)) w
  | [], _ => rfl
  | f :: fs, h => by
    have hf := h f (by simp)
    obtain ⟨tf, htf⟩ := Option.isSome_iff_exists.1 hf
    have ih := mapM_places hΓ fs fun f hf => h f (by simp [hf])
    simp only [List.mapM_cons, Sem.run_bind, run_sizeOf (hΓ _ _ htf), Result.andThen_ok, Sem.run_pure, ih]
    simp [htf]

theorem build_sound (hΓ : TysOk P Γ) {t : TypeId} {ty : Ty} (ht : TyOk P t ty) {parts : List (Nat × D)} {us : Array (Nat × Value)} (hp : All2 (fun p u => p.1 = u.1 ∧ RepD w ow ρ p.2 u.2) parts us.toList)
    (hg : (buildE Γ ty parts).gives P (d', ups)) : ups = [] ∧ ∃ r, (Instr.build t us).run P w = .ok r w ∧ RepD w ow ρ d' r := by
  unfold buildE at hg
  obtain ⟨hok, hg⟩ := hg
  have hu := ht.under
  split at hg
  · rename_i cs hfill
    have hg' : (d', ups) = (_, _) := hg
    cases hg'
    obtain ⟨vs', hv, ha⟩ := fillE_sound hfill hp (all2_zero (w := w) (ow := ow) (ρ := ρ) ht)
    refine ⟨rfl, .agg vs', ?_, vs'.toList, by simp, ha⟩
    simp only [Array.toArray_toList] at hv
    cases hdesc : ty.desc with
    | struct fs =>
      rw [hdesc] at hu
      have hall : ∀ f, f ∈ fs.toList → (Γ f.type).isSome = true := by
        simp only [buildOk, hdesc] at hok
        exact fun f hf => List.all_eq_true.1 hok f hf
      have hpl : placeD Γ ty = placeE Γ fs := by funext i; simp only [placeD, hdesc]
      rw [hpl] at hv
      have hmap := mapM_places (P := P) (w := w) hΓ fs.toList hall
      have hfun : (fun (i : Nat) => (fs.map fun (f : Field) => (f.offset, ((Γ f.type).map (·.size)).getD 0))[i]?) = placeE Γ fs := by
        funext i
        cases hi : fs[i]? with
        | none => simp [placeE, hi]
        | some f =>
          obtain ⟨tf, htf⟩ := Option.isSome_iff_exists.1 (hall f (by
            have := Array.mem_of_getElem? hi
            simpa using this))
          simp [placeE, hi, htf]
      have hmapA : (fs.mapM fun (f : Field) => (do pure (f.offset, ← sizeOf f.type) : Sem (Nat × Nat))).run P w = .ok (fs.map fun f => (f.offset, ((Γ f.type).map (·.size)).getD 0)) w := by
        rw [Array.mapM_eq_mapM_toList]
        simp only [Sem.run_map, hmap, Result.andThen_ok]
        congr 1
        apply Array.ext'
        simp
      unfold Instr.build
      simp only [Sem.run_bind, run_zero ht, Result.andThen_ok, run_underlying hu, hmapA, hfun]
      rw [hv]; rfl
    | array n e =>
      rw [hdesc] at hu
      have hte : ∃ te, Γ e = some te := by
        simp only [buildOk, hdesc] at hok
        exact Option.isSome_iff_exists.1 hok
      obtain ⟨te, hte⟩ := hte
      have hpl : placeD Γ ty = fun i => some (i * te.size, te.size) := by funext i; simp only [placeD, hdesc, hte]
      rw [hpl] at hv
      unfold Instr.build
      simp only [Sem.run_bind, run_zero ht, Result.andThen_ok, run_underlying hu, run_sizeOf (hΓ _ _ hte)]
      rw [hv]; rfl
    | _ => simp only [buildOk, hdesc] at hok; cases hok
  · exact hg.elim

theorem partsE_sound {size : Nat} : ∀ {parts : List (Nat × D)} {us : List (Nat × Value)} {H : Nat → Option Blk} {j : Nat} {rows : List (List V)} {ups : Ups} {p : Prop} {zs : List Value}, Mem own0 mt w0 ρ H w →
    partsE size H j parts = some (rows, ups, p) → p → All2 (fun p u => p.1 = u.1 ∧ RepD w (Ow own0 ρ H) ρ p.2 u.2) parts us → zs.length = (j + rows.length) * size →
    Step own0 mt w0 ρ H w ρ (updL H ups) w ∧ (∀ r, r ∈ rows → r.length = size) ∧ rows.length = parts.length ∧ ∃ xs, All2 (RepV w (Ow own0 ρ (updL H ups))) rows.flatten xs ∧ Instr.fill (fun i => some (i * size, size)) zs.toArray us = some (zs.take (j * size) ++ xs).toArray
  | [], [], H, j, rows, ups, p, zs, hm, h, _, _, hl => by
    cases h
    refine ⟨Step.refl hm, by simp, rfl, [], trivial, ?_⟩
    simp only [Instr.fill, List.append_nil]
    rw [List.take_of_length_le (by rw [hl]; simp)]
  | (i, d) :: rest, (i', u) :: us, H, j, rows, ups, p, zs, hm, h, hp, ⟨⟨h1, h2⟩, h3⟩, hl => by
    dsimp only at h1 h2
    subst h1
    cases d with
    | e e =>
      simp only [partsE] at h
      split at h
      · rename_i vs u1 p1 hvs
        split at h
        · rename_i rows' u2 p2 hr
          cases h
          obtain ⟨⟨rfl, hsz, hp1⟩, hp2⟩ := hp
          have he := rep_cells h2
          obtain ⟨s1, hv⟩ := frzCs_sound hm hvs hp1 he.1
          have hvl := hv.length
          have hus : u.cells.size = size := by rw [← hsz, hvl]; simp
          simp only [List.length_cons] at hl
          have hmul : i * size + size ≤ zs.length := by
            rw [hl]
            have := Nat.mul_le_mul_right size (show i + 1 ≤ i + (rows'.length + 1) by omega)
            rw [Nat.add_mul] at this; omega
          obtain ⟨s2, k1, k2, xs, k3, k4⟩ := partsE_sound (zs := splice zs (i * size) u.cells.toList) s1.mem hr hp2 (h3.mono fun _ _ h => ⟨h.1, h.2.mono s1.keep s1.ow s1.sub⟩) (by rw [splice_len (by simp; omega), hl]; congr 1; omega)
          refine ⟨by rw [updL_append]; exact s1.trans s2, fun r hr => ?_, by simp [k2], u.cells.toList ++ xs, ?_, ?_⟩
          · rcases List.mem_cons.1 hr with rfl | h
            · exact hsz
            · exact k1 r h
          · simp only [List.flatten_cons]; rw [updL_append]; exact (hv.mono fun _ _ h => RepV.mono h s2.keep s2.ow).append k3
          · have key : ∀ (ys : List Value) (j : Nat) (a : Array Value), i * size + j + ys.length ≤ a.size →
                (ys.zipIdx j).foldl (fun (cs : Array Value) (x : Value × Nat) => cs.setIfInBounds (i * size + x.2) x.1) a = (splice a.toList (i * size + j) ys).toArray := by
              intro ys
              induction ys with
              | nil => intro j a _; simp [splice_nil]
              | cons y ys ih =>
                intro j a hl
                simp only [List.zipIdx_cons, List.foldl_cons]
                simp at hl
                rw [ih (j + 1) _ (by simp; omega), Array.toList_setIfInBounds, ← Nat.add_assoc, splice_cons (by simp; omega)]
            have h0 := key u.cells.toList 0 zs.toArray (by simp; omega)
            simp only [Nat.add_zero] at h0
            simp only [Instr.fill]
            rw [if_neg (by simp; omega), ← Array.foldl_toList, Array.toList_zipIdx]
            refine (congrArg (fun a => Instr.fill (fun i => some (i * size, size)) a us) h0).trans ?_
            rw [k4]
            congr 2
            rw [Nat.add_mul, Nat.one_mul]
            unfold splice
            have hus' : u.cells.toList.length = size := by simpa using hus
            have htl : (List.take (i * size) zs).length = i * size := by rw [List.length_take]; omega
            rw [List.take_append_of_le_length (by rw [List.length_append, htl, hus']; omega), List.take_of_length_le (by rw [List.length_append, htl, hus']; omega)]
            simp
        · cases h
      · cases h
    | _ => simp [partsE] at h
  | [], _ :: _, _, _, _, _, _, _, _, _, _, h, _ => h.elim
  | _ :: _, [], _, _, _, _, _, _, _, _, _, h, _ => h.elim

theorem frzCs_fresh {i : Nat} : ∀ {cs : List C} {H : Nat → Option Blk} {vs : List V} {ups : Ups} {p : Prop}, frzCs H cs = some (vs, ups, p) → H i = none → updL H ups i = none
  | [], _, _, _, _, h, hi => by cases h; exact hi
  | .v a :: r, H, vs, ups, p, h, hi => by
    simp only [frzCs] at h
    split at h
    · rename_i hr; cases h; exact frzCs_fresh hr hi
    · cases h
  | .o r n :: cs, H, vs, ups, p, h, hi => by
    simp only [frzCs] at h
    split at h
    · rename_i v u1 p1 hc
      split at h
      · rename_i hr
        cases h
        rw [updL_append]
        refine frzCs_fresh hr ?_
        simp only [frzC] at hc
        split at hc
        · rename_i k rows hr'
          cases hc
          have : i ≠ r := fun e => by subst e; rw [hi] at hr'; cases hr'
          simpa [updL, upd_other _ _ this] using hi
        · cases hc; exact hi
        · cases hc
      · cases h
    · cases h

theorem partsE_fresh {i size : Nat} : ∀ {parts : List (Nat × D)} {H : Nat → Option Blk} {j : Nat} {rows : List (List V)} {ups : Ups} {p : Prop}, partsE size H j parts = some (rows, ups, p) → H i = none → updL H ups i = none
  | [], _, _, _, _, _, h, hi => by cases h; exact hi
  | (k, d) :: rest, H, j, rows, ups, p, h, hi => by
    cases d with
    | e e =>
      simp only [partsE] at h
      split at h
      · rename_i hvs
        split at h
        · rename_i hr; cases h; rw [updL_append]; exact partsE_fresh hr (frzCs_fresh hvs hi)
        · cases h
      · cases h
    | _ => simp [partsE] at h

theorem buildSlice_sound (hΓ : TysOk P Γ) (hm : Mem own0 mt w0 ρ H w) {nx : Nat} (hnx : H nx = none) {t : TypeId} {ty : Ty} (ht : TyOk P t ty) {n : Nat} {parts : List (Nat × D)} {us : Array (Nat × Value)}
    (hp : All2 (fun p u => p.1 = u.1 ∧ RepD w (Ow own0 ρ H) ρ p.2 u.2) parts us.toList) (hg : (buildSliceE Γ ty H n nx parts).gives P (d', ups)) :
    MRun P own0 mt w0 ρ H w (Instr.buildSlice t n us) ups fun w' ow' ρ' v => RepD w' ow' ρ' d' v := by
  unfold buildSliceE at hg
  have hu := ht.under
  split at hg
  · rename_i e hdesc
    rw [hdesc] at hu
    split at hg
    · rename_i te hte
      have hte := hΓ _ _ hte
      split at hg
      · rename_i rows u1 p1 hrows
        obtain ⟨⟨hp1, rfl, hsz, hbig⟩, hg⟩ := hg
        have hg' : (d', ups) = (_, _) := hg
        cases hg'
        let zs : List Value := ((Array.range (rows.length * te.size)).map (fun j => te.zero.cells[j % te.zero.cells.size]!)).toList
        have hzl : zs.length = rows.length * te.size := by simp [zs]
        obtain ⟨s1, k1, k2, xs, k3, k4⟩ := partsE_sound (j := 0) (zs := zs) hm hrows hp1 hp (by simpa using hzl)
        have hst := newRow_step s1.mem (partsE_fresh hrows hnx) hte (rows := rows) (cap := rows.length) k1 k3 (Nat.le_refl _) [] (by simp) e
        refine ⟨_, _, _, ?_, by rw [updL_append]; exact s1.trans hst, .blk w.heap.size 0 rows.length, by rw [upd_same], rfl, Nat.le_refl _⟩
        have hn : ¬ (rows.length * te.size > 2 ^ 24) := by omega
        simp only [Nat.zero_mul, List.take_zero, List.nil_append] at k4
        have hzA : ∀ zero : Array Value, (Array.range (rows.length * te.size)).map (fun j => zero[j % zero.size]!) = zs.toArray →
            (match Instr.fill (fun i => some (i * te.size, te.size)) ((Array.range (rows.length * te.size)).map (fun x => zero[x % zero.size]!)) us.toList with
              | some cells => do pure (Value.slice (some (← newRow e cells)) rows.length rows.length)
              | _ => stuck "buildSlice: a part of the wrong size" : Sem Value).run P w = .ok (.slice (some ⟨w.heap.size, 0, none⟩) rows.length rows.length) (w.alloc (.cells (xs ++ []).toArray e (0, 0))) := by
          intro zero hz
          rw [hz, k4]
          simp only [newRow, Sem.run_bind, run_newObj, Result.andThen_ok, Sem.run_pure, List.append_nil]
          rfl
        unfold Instr.buildSlice
        simp only [Sem.run_bind, run_underlying hu, Result.andThen_ok, run_sizeOf hte]
        rw [if_neg hn]
        by_cases h0 : rows.length * te.size = 0
        · rw [if_pos h0]
          simp only [Sem.run_bind, Sem.run_pure, Result.andThen_ok]
          exact hzA #[] (by simp [h0, zs])
        · rw [if_neg h0]
          simp only [Sem.run_bind, Sem.run_pure, Result.andThen_ok, run_zero hte]
          exact hzA te.zero.cells (by simp only [zs, Array.toArray_toList])
      · exact hg.elim
    · exact hg.elim
  · exact hg.elim

end Eng
end Go.Proofs.YtllfgnhnooonfaaDoor
