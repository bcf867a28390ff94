/- Each operation does what the evaluator says: slices. -/
import Derived.Test.YtgpjbcgbjpmgaaaEngJ
set_option autoImplicit false
set_option linter.unusedSimpArgs false
set_option linter.unusedVariables false
namespace Go.Proofs.Ytgpjbcgbjpmgaaa
namespace Eng

variable {P : Program} {Γ : Nat → Option Ty} {own0 mt : Nat → Prop} {w0 w : World} {ow : Nat → Prop} {ρ : Nat → Option Pl} {H : Nat → Option Blk} {q : Bool}
  {d' : D} {ups : Ups}

theorem rep_nil {u : Value} (h : RepD w ow ρ (.x (.slice none 0 0)) u) : u = .slice none 0 0 := (rep_x h).1

/-- An imm slice, taken apart. -/
theorem rep_s {k : Nat} {rows : List (List V)} {u : Value} (h : RepV w ow (.s k rows) u) : ∃ a c, u = .slice a rows.length c ∧ rows.length ≤ c ∧ (a = none → rows = []) ∧
    (∀ (i : Nat) (r : List V), rows[i]? = some r → r.length = k) ∧
    ∀ ad, a = some ad → ∀ (i : Nat) (r : List V) (j : Nat) (v : V), rows[i]? = some r → r[j]? = some v → ∃ x, w.cell? (ad.add (i * k + j)) = some x ∧ RepV w ow v x ∧ ¬ ow ad.block := by
  cases h with
  | s k rows a n c g hn hk hz hcap hc hr =>
    subst hn
    exact ⟨a, c, rfl, hcap, hz, hk, fun ad ha i r j v hi hj => ⟨_, (hc ad ha i r j v hi hj).1, hr i r j v hi hj, (hc ad ha i r j v hi hj).2⟩⟩

theorem mk_s {k : Nat} {rows : List (List V)} {a : Option Addr} {n c : Nat} (hn : n = rows.length) (hk : ∀ (i : Nat) (r : List V), rows[i]? = some r → r.length = k) (hz : a = none → rows = []) (hcap : n ≤ c)
    (h : ∀ ad, a = some ad → ∀ (i : Nat) (r : List V) (j : Nat) (v : V), rows[i]? = some r → r[j]? = some v → ∃ x, w.cell? (ad.add (i * k + j)) = some x ∧ RepV w ow v x ∧ ¬ ow ad.block) :
    RepV w ow (.s k rows) (.slice a n c) := by
  refine .s k rows a n c (fun i j => ((a.bind fun ad => w.cell? (ad.add (i * k + j)))).getD undef) hn hk hz hcap (fun ad ha i r j v hi hj => ?_) (fun i r j v hi hj => ?_)
  · obtain ⟨x, hx, _, hn⟩ := h ad ha i r j v hi hj
    subst ha; simp [hx, hn]
  · cases a with
    | none => simp [hz rfl] at hi
    | some ad =>
      obtain ⟨x, hx, hv, _⟩ := h ad rfl i r j v hi hj
      simpa [hx] using hv

theorem addr_add_mul (ad : Addr) (a b : Nat) (x : Value) (h : w.cell? (ad.add (a + b)) = some x) : w.cell? ((ad.add a).add b) = some x := by
  by_cases hb : b = 0
  · subst hb
    have : (ad.add a).add 0 = ad.add (a + 0) := by simp [Addr.add]
    rw [this]; exact h
  · rw [addr_add_add _ _ _ (.inl hb)]; exact h

theorem indexAddr_sound (hΓ : TysOk P Γ) {t : TypeId} {ty : Ty} (ht : TyOk P t ty) {d ix : D} {u v : Value} (hq : q = true) (hd : RepD w ow ρ d u) (hi : RepD w ow ρ ix v)
    (hg : (indexAddrE Γ ty q d ix).gives P (d', ups)) : ups = [] ∧ ∃ r, (Instr.indexAt t u v).run P w = .ok r w ∧ RepD w ow ρ d' r := by
  unfold indexAddrE at hg
  have hu := ht.under
  split at hg
  · rename_i ik i
    obtain ⟨rfl, _⟩ := rep_x hi
    split at hg
    · rename_i e hdesc
      rw [hdesc] at hu
      split at hg
      · rename_i te hte
        have hts := run_sizeOf (hΓ _ _ hte)
        split at hg
        · rename_i k rows
          obtain ⟨h0, hg⟩ := hg
          obtain ⟨h1, h2, h3⟩ := h0 hq
          have hg' : (d', ups) = (_, _) := hg
          cases hg'
          obtain ⟨a, c, rfl, hcap, hz, hk, hcell⟩ := rep_s (show RepV w ow (.s k rows) u from hd)
          cases a with
          | none => have := hz rfl; subst this; simp at h2; omega
          | some ad =>
            refine ⟨rfl, .pointer (some (ad.add (i.toNat * te.size))), ?_, _, rfl, ?_⟩
            · simp [Instr.indexAt, asIntOf, run_underlying hu, hts, h1, h2]
            · intro j v hj
              have hri : rows[i.toNat]? = some (rows.getD i.toNat (zeroV te)) := by
                have : i.toNat < rows.length := by omega
                simp [List.getD, this]
              obtain ⟨x, hx, hv, hn⟩ := hcell ad rfl _ _ _ _ hri hj
              exact ⟨x, addr_add_mul _ _ _ _ (by rw [← h3]; exact hx), hv, by rwa [addr_add_block]⟩
        · rename_i r n
          obtain ⟨h0, hg⟩ := hg
          obtain ⟨h1, h2⟩ := h0 hq
          have hg' : (d', ups) = (_, _) := hg
          cases hg'
          obtain ⟨m, hm, h⟩ := hd
          cases m with
          | nil => obtain ⟨rfl, _⟩ := h; simp at h2; omega
          | blk b base cap =>
            obtain ⟨rfl, hle⟩ := h
            refine ⟨rfl, .pointer (some (Addr.add ⟨b, base, none⟩ (i.toNat * te.size))), ?_, b, base, cap, hm, by rw [addr_add_lit]; simp⟩
            simp [Instr.indexAt, asIntOf, run_underlying hu, hts, h1, h2]
        · obtain ⟨h0, _⟩ := hg; exact (h0 hq).elim
        · exact hg.elim
      · exact hg.elim
    · rename_i n e hdesc
      rw [hdesc] at hu
      split at hg
      · rename_i te hte
        have hts := run_sizeOf (hΓ _ _ hte)
        split at hg
        · rename_i h2n
          obtain ⟨hb, hg2⟩ := hg
          obtain ⟨h0, hj⟩ := hb hq
          obtain ⟨j, rfl⟩ : ∃ j : Nat, i = (j : Int) := ⟨i.toNat, by omega⟩
          have hj : j < n := by omega
          simp only [Int.toNat_natCast] at hg2
          split at hg2
          · rename_i d1 hs
            have hg' : (d', ups) = (_, _) := hg2
            cases hg'
            obtain ⟨a, rfl, hr⟩ := shiftPtr_rep hs hd
            refine ⟨rfl, _, ?_, hr⟩
            have h2 : ¬ (n ≤ 1) := by omega
            simp [Instr.indexAt, asIntOf, run_underlying hu, hts, Instr.sureAddr, hj, h2]
          · exact hg2.elim
        · obtain ⟨h2n, hg⟩ := hg
          obtain ⟨j, hj, rfl, hg2⟩ := among_gives hq hg
          clear hg
          split at hg2
          · rename_i d1 hs
            have hg' : (d', ups) = (_, _) := hg2
            cases hg'
            obtain ⟨a, rfl, hr⟩ := shiftPtr_rep hs hd
            refine ⟨rfl, _, ?_, hr⟩
            have h2 : ¬ (n ≤ 1) := by omega
            simp [Instr.indexAt, asIntOf, run_underlying hu, hts, Instr.sureAddr, hj, h2]
          · exact hg2.elim
      · exact hg.elim
    · exact hg.elim
  · exact hg.elim

theorem index_sound (hΓ : TysOk P Γ) {t : TypeId} {ty : Ty} (ht : TyOk P t ty) {d ix : D} {u v : Value} (hq : q = true) (hd : RepD w ow ρ d u) (hi : RepD w ow ρ ix v)
    (hg : (indexE Γ ty q d ix).gives P (d', ups)) : ups = [] ∧ ∃ r, (Instr.index t u v).run P w = .ok r w ∧ RepD w ow ρ d' r := by
  unfold indexE at hg
  have hu := ht.under
  split at hg
  · rename_i ik i
    obtain ⟨rfl, _⟩ := rep_x hi
    split at hg
    · rename_i hdesc
      rw [hdesc] at hu
      split at hg
      · rename_i s
        obtain ⟨rfl, _⟩ := rep_x hd
        obtain ⟨h0, hg⟩ := hg
        obtain ⟨h1, h2⟩ := h0 hq
        refine ok_x hg rfl ?_
        have hlt : i.toNat < s.size := by omega
        have hx : s[i.toNat]? = some (s[i.toNat]'hlt) := getElem?_pos s i.toNat hlt
        have hy : strAt s i.toNat = s[i.toNat]'hlt := by
          have : s.data.toList[i.toNat]? = some (s[i.toNat]'hlt) := by
            rw [Array.getElem?_toList, Array.getElem?_eq_getElem (by exact hlt)]; rfl
          simp [strAt, List.getD, this]
        simp [Instr.index, asIntOf, run_underlying hu, h1, hx, hy]
      · exact hg.elim
    · rename_i n e hdesc
      rw [hdesc] at hu
      split at hg
      · rename_i te hte
        have hts := run_sizeOf (hΓ _ _ hte)
        split at hg
        · rename_i cs
          obtain ⟨j, hj, rfl, hg2⟩ := among_gives hq hg
          obtain ⟨⟨hl, hsz⟩, hg2⟩ := hg2
          have hg' : (d', ups) = (_, _) := hg2
          cases hg'
          obtain ⟨us, rfl, ha⟩ := hd
          obtain ⟨r, hr, hrep⟩ := part_sound (P := P) (hΓ _ _ hte) ha hl hsz
          refine ⟨rfl, r, ?_, hrep⟩
          simp [Instr.index, asIntOf, run_underlying hu, hts, hj, hr]
        · exact hg.elim
      · exact hg.elim
    · exact hg.elim
  · exact hg.elim

theorem len_sound {t : TypeId} {ty : Ty} (ht : TyOk P t ty) {d : D} {u : Value} (hd : RepD w ow ρ d u) {ts : Array TypeId} (hts : ts[0]? = some t) (T : TypeId)
    (hg : (lenE ty d).gives P (d', ups)) : ups = [] ∧ ∃ r, (Builtin.len_ ts T #[u]).run P w = .ok r w ∧ RepD w ow ρ d' r := by
  unfold lenE at hg
  have hu := ht.under
  split at hg
  · rename_i hdesc
    rw [hdesc] at hu
    split at hg
    · obtain ⟨rfl, _⟩ := rep_x hd
      exact ok_x hg rfl (by simp [Builtin.len_, hts, run_underlying hu, goInt])
    · exact hg.elim
  · rename_i hdesc
    rw [hdesc] at hu
    exact ok_x hg rfl (by simp [Builtin.len_, hts, run_underlying hu, goInt])
  · rename_i hdesc
    rw [hdesc] at hu
    split at hg
    · rename_i k rows
      obtain ⟨a, c, rfl, _⟩ := rep_s (show RepV w ow (.s k rows) u from hd)
      exact ok_x hg rfl (by simp [Builtin.len_, hts, run_underlying hu, goInt])
    · obtain ⟨m, hm, h⟩ := hd
      cases m with
      | nil =>
        obtain ⟨rfl, a, rfl⟩ := h
        exact ok_x hg rfl (by simp [Builtin.len_, hts, run_underlying hu, goInt])
      | blk b base cap =>
        obtain ⟨rfl, hle⟩ := h
        exact ok_x hg rfl (by simp [Builtin.len_, hts, run_underlying hu, goInt])
    · obtain ⟨rfl, _⟩ := rep_x hd
      exact ok_x hg rfl (by simp [Builtin.len_, hts, run_underlying hu, goInt])
    · exact hg.elim
  · exact hg.elim

end Eng
end Go.Proofs.Ytgpjbcgbjpmgaaa
