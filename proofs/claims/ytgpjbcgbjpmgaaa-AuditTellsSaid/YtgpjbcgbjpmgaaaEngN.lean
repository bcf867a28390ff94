/- Each operation does what the evaluator says: append, literals, cuts. -/
import Derived.Test.YtgpjbcgbjpmgaaaEngM
set_option autoImplicit false
set_option linter.unusedSimpArgs false
set_option linter.unusedVariables false
namespace Go.Proofs.Ytgpjbcgbjpmgaaa
namespace Eng

variable {P : Program} {Γ : Nat → Option Ty} {own0 mt : Nat → Prop} {w0 w : World} {ow : Nat → Prop} {ρ : Nat → Option Pl} {H : Nat → Option Blk} {q : Bool}
  {d' : D} {ups : Ups}

theorem append_empty {ts : Array TypeId} {T t0 t1 e : TypeId} {d1 : TypeDesc} {te : Ty} (h0 : ts[0]? = some t0) (h1 : ts[1]? = some t1) (ht0 : P.underlying t0 = some (.slice e)) (ht1 : P.underlying t1 = some d1)
    (hd1 : ∀ k, d1 ≠ .int k) (hte : TyOk P e te) {a : Option Addr} {ux : Value} (hx : Source P w ow te.size [] ux) : (Builtin.append_ ts T #[.slice a 0 0, ux]).run P w = .ok (.slice a 0 0) w := by
  obtain ⟨hxl, news, hxn, hxf⟩ := hx
  have hn : news = [] := by
    have := hxn.length
    simp at this
    exact List.eq_nil_of_length_eq_zero (by simpa using this.symm)
  subst hn
  have := run_append_room (P := P) ts T t0 t1 e d1 te h0 h1 ht0 ht1 hd1 hte w a 0 0 ux 0 [] (hxl w) (hxf w fun _ => rfl) (by omega)
  rw [this]
  cases a <;> simp [storeCells]

theorem append_sound (hΓ : TysOk P Γ) (hm : Mem own0 mt w0 ρ H w) {nx : Nat} (hnx : H nx = none) {ts : Array TypeId} {s x : D} {us ux : Value} (hs : RepD w (Ow own0 ρ H) ρ s us) (hx : RepD w (Ow own0 ρ H) ρ x ux) (T : TypeId)
    (hg : (appendE Γ ts H nx s x).gives P (d', ups)) : MRun P own0 mt w0 ρ H w (Builtin.append_ ts T #[us, ux]) ups fun w' ow' ρ' v => RepD w' ow' ρ' d' v := by
  unfold appendE at hg
  split at hg
  · rename_i t0 t1 h0 h1
    split at hg
    · rename_i ty0 ty1 hy0 hy1
      have ht0 := (hΓ _ _ hy0).under
      have ht1 := (hΓ _ _ hy1).under
      split at hg
      · rename_i e hdesc
        rw [hdesc] at ht0
        split at hg
        · rename_i te hte
          have hte := hΓ _ _ hte
          dsimp only at hg
          split at hg
          · rename_i rs hnew
            have hd1 : ∀ k, ty1.desc ≠ .int k := by
              intro k h; rw [h] at hnew; simp at hnew
            have hsrc : (∀ r, r ∈ rs → r.length = te.size) → (∀ r n, x = .e (.c (.o r n)) → n = rs.length) → Source P w (Ow own0 ρ H) te.size rs ux := by
              intro hk hlen
              split at hnew
              · split at hnew
                · cases hnew
                  have := (rep_x hx).1; subst this
                  exact source_string hk
                · cases hnew
              · exact source_rows hm hx hnew hk hlen
              · cases hnew
            split at hg
            · obtain ⟨⟨hsz, hk, h48, h63, hlen⟩, hg⟩ := hg
              have hg' : (d', ups) = (_, _) := hg
              cases hg'
              have := rep_nil hs; subst this
              have hsrc := hsrc hk hlen
              by_cases hr0 : rs = []
              · subst hr0
                refine ⟨_, w, _, append_empty h0 h1 ht0 ht1 hd1 hte hsrc, Step.newNil hm hnx, .nil, by rw [upd_same], rfl, none, rfl⟩
              · have hpos : 0 < rs.length := List.length_pos_iff.2 hr0
                have := append_core hm hnx ht0 ht1 hd1 hte h0 h1 T (olds := []) (us := .slice none 0 0) rfl (source_cells (by simp) (by simp) (by simp)) hsrc (by simp) hk (by simpa using hpos) (by simpa using h48) (by simpa using h63)
                simpa using this
            · rename_i r n
              split at hg
              · rename_i k rows hr
                obtain ⟨⟨rfl, hsz, hn, hk, h48, h63, hlen⟩, hg⟩ := hg
                have hg' : (d', ups) = (_, _) := hg
                cases hg'
                have hsrc := hsrc hk hlen
                have hs0 := hs
                obtain ⟨hrl, m, hm', hrow⟩ := hm.blks r _ hr
                obtain ⟨m', hm'', hc⟩ := hs
                rw [hm'] at hm''; cases hm''
                have hne : nx ≠ r := fun e => by subst e; rw [hnx] at hr; cases hr
                cases m with
                | nil =>
                  obtain ⟨rfl, a, rfl⟩ := hc
                  by_cases hr0 : rs = []
                  · subst hr0
                    have hkill := Step.kill hm r
                    refine ⟨_, w, _, append_empty h0 h1 ht0 ht1 hd1 hte hsrc, hkill.trans (Step.newNil hkill.mem (by rw [upd_other _ _ hne]; exact hnx)), .nil, by rw [upd_same], rfl, a, rfl⟩
                  · have hpos : 0 < rs.length := List.length_pos_iff.2 hr0
                    have hkill := Step.kill hm r
                    have up : ∀ {rs : List (List V)} {u : Value}, Source P w (Ow own0 ρ H) te.size rs u → Source P w (Ow own0 ρ (upd H r (some .gone))) te.size rs u := fun {rs u} h => by
                      obtain ⟨h1, news, h2, h3⟩ := h
                      exact ⟨h1, news, h2.mono fun _ _ h => h.mono (Keep.refl _ _) hkill.ow, h3⟩
                    obtain ⟨v, w', ρ', h1, h2, h3⟩ := append_core hkill.mem (by rw [upd_other _ _ hne]; exact hnx) ht0 ht1 hd1 hte h0 h1 T (olds := []) (us := .slice a 0 0) rfl (source_cells (by simp) (by simp) (by simp)) (up hsrc) (by simp) hk (by simpa using hpos) (by simp at h48 ⊢; omega) (by simp at h63 ⊢; omega)
                    refine ⟨v, w', ρ', h1, hkill.trans ?_, ?_⟩
                    · simpa [updL] using h2
                    · simpa [updL] using h3
                | blk b base cap =>
                  obtain ⟨rfl, hle⟩ := hc
                  by_cases hroom : n + rs.length ≤ cap
                  · exact append_room_core hm hnx ht0 ht1 hd1 hte h0 h1 T hr hm' hn hsrc hk hroom
                  · have hkill := Step.kill hm r
                    have hold : Source P w (Ow own0 ρ H) te.size (rows.take n) (.slice (some ⟨b, base, none⟩) n cap) :=
                      source_rows hm (x := .e (.c (.o r n))) hs0 (by simp [rowsOf, hr]) (fun r' h => hrl r' (List.mem_of_mem_take h)) (fun r' n' h => by cases h; simp; omega)
                    have up : ∀ {rs : List (List V)} {u : Value}, Source P w (Ow own0 ρ H) te.size rs u → Source P w (Ow own0 ρ (upd H r (some .gone))) te.size rs u := fun {rs u} h => by
                      obtain ⟨h1, news, h2, h3⟩ := h
                      exact ⟨h1, news, h2.mono fun _ _ h => h.mono (Keep.refl _ _) hkill.ow, h3⟩
                    have htl : (rows.take n).length = n := by simp; omega
                    obtain ⟨v, w', ρ', h1, h2, h3⟩ := append_core hkill.mem (by rw [upd_other _ _ hne]; exact hnx) ht0 ht1 hd1 hte h0 h1 T (olds := rows.take n) (us := .slice (some ⟨b, base, none⟩) n cap) (by rw [htl]) (up hold) (up hsrc)
                      (fun r' h => hrl r' (List.mem_of_mem_take h)) hk (by rw [htl]; omega) (by rw [htl]; exact h48) (by rw [htl]; exact h63)
                    rw [htl] at h3
                    exact ⟨v, w', ρ', h1, hkill.trans h2, h3⟩
              · exact hg.elim
            · exact hg.elim
          · exact hg.elim
        · exact hg.elim
      · exact hg.elim
    · exact hg.elim
  · exact hg.elim

theorem fillE_sound {place : Nat → Option (Nat × Nat)} : ∀ {parts : List (Nat × D)} {us : List (Nat × Value)} {cells cs : List C} {vs : List Value}, fillE place cells parts = some cs →
    All2 (fun p u => p.1 = u.1 ∧ RepD w ow ρ p.2 u.2) parts us → All2 (RepC w ow ρ) cells vs → ∃ vs', Instr.fill place vs.toArray us = some vs' ∧ All2 (RepC w ow ρ) cs vs'.toList
  | [], [], cells, cs, vs, h, _, hc => by cases h; exact ⟨_, rfl, by simpa using hc⟩
  | (i, d) :: rest, (i', u) :: us, cells, cs, vs, h, ⟨⟨h1, h2⟩, h3⟩, hc => by
    dsimp only at h1 h2
    subst h1
    cases d with
    | e e =>
      simp only [fillE] at h
      split at h
      · rename_i off size hp
        split at h
        · rename_i hs
          have he := rep_cells h2
          have hcl := hc.length
          obtain ⟨vs', hv, ha⟩ := fillE_sound h h3 (all2_splice (off := off) hc he.1)
          refine ⟨vs', ?_, ha⟩
          have hus : u.cells.size = size := by rw [← he.2]; exact hs.1
          have hle : ¬ (off + u.cells.size > vs.length) := by omega
          simp only [Instr.fill, hp]
          rw [if_neg (by simp; omega)]
          rw [← hv]
          congr 1
          -- the model's own filling is a splice
          have key : ∀ (xs : List Value) (j : Nat) (a : Array Value), off + j + xs.length ≤ a.size →
              (xs.zipIdx j).foldl (fun (cs : Array Value) (x : Value × Nat) => cs.setIfInBounds (off + x.2) x.1) a = (splice a.toList (off + j) xs).toArray := by
            intro xs
            induction xs with
            | nil => intro j a _; simp [splice_nil]
            | cons x xs ih =>
              intro j a hl
              simp only [List.zipIdx_cons, List.foldl_cons]
              simp at hl
              rw [ih (j + 1) _ (by simp; omega), Array.toList_setIfInBounds, ← Nat.add_assoc, splice_cons (by simp; omega)]
          have h0 := key u.cells.toList 0 vs.toArray (by simp; omega)
          simp only [Nat.add_zero] at h0
          rw [← Array.foldl_toList, Array.toList_zipIdx]
          exact h0
        · cases h
      · cases h
    | _ => simp [fillE] at h
  | [], _ :: _, _, _, _, _, h, _ => h.elim
  | _ :: _, [], _, _, _, _, h, _ => h.elim

end Eng
end Go.Proofs.Ytgpjbcgbjpmgaaa
