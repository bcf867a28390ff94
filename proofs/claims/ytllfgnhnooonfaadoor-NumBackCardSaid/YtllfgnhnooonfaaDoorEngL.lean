/- Each operation does what the evaluator says: slices. -/
import Derived.Test.YtllfgnhnooonfaaDoorEngJ
set_option autoImplicit false
set_option linter.unusedSimpArgs false
set_option linter.unusedVariables false
namespace Go.Proofs.YtllfgnhnooonfaaDoor
namespace Eng

variable {P : Program} {Γ : Nat → Option Ty} {own0 mt : Nat → Prop} {w0 w : World} {ow : Nat → Prop} {ρ : Nat → Option Pl} {H : Nat → Option Blk} {q : Bool}
  {d' : D} {ups : Ups}

theorem rep_nil {u : Value} (h : RepD w ow ρ (.x (.slice none 0 0)) u) : u = .slice none 0 0 := (rep_x h).1

/-- An imm slice, taken apart. -/
theorem rep_s {k : Nat} {rows : List (List V)} {u : Value} (h : RepV w ow (.s k rows) u) : ∃ a c, u = .slice a rows.length c ∧ rows.length ≤ c ∧ (a = none → rows = []) ∧
    (∀ (i : Nat) (r : List V), rows[i]? = some r → r.length = k) ∧
    ∀ ad, a = some ad → ∀ (i : Nat) (r : List V) (j : Nat) (v : V), rows[i]? = some r → r[j]? = some v → ∃ x, w.cell? (ad.add (i * k + j)) = some x ∧ RepV w ow v x ∧ ¬ ow ad.block := by
  cases h with
  | s k rows a n c g hn hk hz hcap hc hr =>
    subst hn
    exact ⟨a, c, rfl, hcap, hz, hk, fun ad ha i r j v hi hj => ⟨_, (hc ad ha i r j v hi hj).1, hr i r j v hi hj, (hc ad ha i r j v hi hj).2⟩⟩

theorem mk_s {k : Nat} {rows : List (List V)} {a : Option Addr} {n c : Nat} (hn : n = rows.length) (hk : ∀ (i : Nat) (r : List V), rows[i]? = some r → r.length = k) (hz : a = none → rows = []) (hcap : n ≤ c)
    (h : ∀ ad, a = some ad → ∀ (i : Nat) (r : List V) (j : Nat) (v : V), rows[i]? = some r → r[j]? = some v → ∃ x, w.cell? (ad.add (i * k + j)) = some x ∧ RepV w ow v x ∧ ¬ ow ad.block) :
    RepV w ow (.s k rows) (.slice a n c) := by
  refine .s k rows a n c (fun i j => ((a.bind fun ad => w.cell? (ad.add (i * k + j)))).getD undef) hn hk hz hcap (fun ad ha i r j v hi hj => ?_) (fun i r j v hi hj => ?_)
  · obtain ⟨x, hx, _, hn⟩ := h ad ha i r j v hi hj
    subst ha; simp [hx, hn]
  · cases a with
    | none => simp [hz rfl] at hi
    | some ad =>
      obtain ⟨x, hx, hv, _⟩ := h ad rfl i r j v hi hj
      simpa [hx] using hv

theorem addr_add_mul (ad : Addr) (a b : Nat) (x : Value) (h : w.cell? (ad.add (a + b)) = some x) : w.cell? ((ad.add a).add b) = some x := by
  by_cases hb : b = 0
  · subst hb
    have : (ad.add a).add 0 = ad.add (a + 0) := by simp [Addr.add]
    rw [this]; exact h
  · rw [addr_add_add _ _ _ (.inl hb)]; exact h

theorem indexAddr_sound (hΓ : TysOk P Γ) {t : TypeId} {ty : Ty} (ht : TyOk P t ty) {d ix : D} {u v : Value} (hq : q = true) (hd : RepD w ow ρ d u) (hi : RepD w ow ρ ix v)
    (hg : (indexAddrE Γ ty q d ix).gives P (d', ups)) : ups = [] ∧ ∃ r, (Instr.indexAt t u v).run P w = .ok r w ∧ RepD w ow ρ d' r := by
  unfold indexAddrE at hg
  have hu := ht.under
  split at hg
  · rename_i ik i
    obtain ⟨rfl, _⟩ := rep_x hi
    split at hg
    · rename_i e hdesc
      rw [hdesc] at hu
      split at hg
      · rename_i te hte
        have hts := run_sizeOf (hΓ _ _ hte)
        split at hg
        · rename_i k rows
          obtain ⟨h0, hg⟩ := hg
          obtain ⟨h1, h2, h3⟩ := h0 hq
          have hg' : (d', ups) = (_, _) := hg
          cases hg'
          obtain ⟨a, c, rfl, hcap, hz, hk, hcell⟩ := rep_s (show RepV w ow (.s k rows) u from hd)
          cases a with
          | none => have := hz rfl; subst this; simp at h2; omega
          | some ad =>
            refine ⟨rfl, .pointer (some (ad.add (i.toNat * te.size))), ?_, _, rfl, ?_⟩
            · simp [Instr.indexAt, asIntOf, run_underlying hu, hts, h1, h2]
            · intro j v hj
              have hri : rows[i.toNat]? = some (rows.getD i.toNat (zeroV te)) := by
                have : i.toNat < rows.length := by omega
                simp [List.getD, this]
              obtain ⟨x, hx, hv, hn⟩ := hcell ad rfl _ _ _ _ hri hj
              exact ⟨x, addr_add_mul _ _ _ _ (by rw [← h3]; exact hx), hv, by rwa [addr_add_block]⟩
        · rename_i r n
          obtain ⟨h0, hg⟩ := hg
          obtain ⟨h1, h2⟩ := h0 hq
          have hg' : (d', ups) = (_, _) := hg
          cases hg'
          obtain ⟨m, hm, h⟩ := hd
          cases m with
          | nil => obtain ⟨rfl, _⟩ := h; simp at h2; omega
          | blk b base cap =>
            obtain ⟨rfl, hle⟩ := h
            refine ⟨rfl, .pointer (some (Addr.add ⟨b, base, none⟩ (i.toNat * te.size))), ?_, b, base, cap, hm, by rw [addr_add_lit]; simp⟩
            simp [Instr.indexAt, asIntOf, run_underlying hu, hts, h1, h2]
        · obtain ⟨h0, _⟩ := hg; exact (h0 hq).elim
        · exact hg.elim
      · exact hg.elim
    · rename_i n e hdesc
      rw [hdesc] at hu
      split at hg
      · rename_i te hte
        have hts := run_sizeOf (hΓ _ _ hte)
        split at hg
        · rename_i h2n
          obtain ⟨hb, hg2⟩ := hg
          obtain ⟨h0, hj⟩ := hb hq
          obtain ⟨j, rfl⟩ : ∃ j : Nat, i = (j : Int) := ⟨i.toNat, by omega⟩
          have hj : j < n := by omega
          simp only [Int.toNat_natCast] at hg2
          split at hg2
          · rename_i d1 hs
            have hg' : (d', ups) = (_, _) := hg2
            cases hg'
            obtain ⟨a, rfl, hr⟩ := shiftPtr_rep hs hd
            refine ⟨rfl, _, ?_, hr⟩
            have h2 : ¬ (n ≤ 1) := by omega
            simp [Instr.indexAt, asIntOf, run_underlying hu, hts, Instr.sureAddr, hj, h2]
          · exact hg2.elim
        · obtain ⟨h2n, hg⟩ := hg
          obtain ⟨j, hj, rfl, hg2⟩ := among_gives hq hg
          clear hg
          split at hg2
          · rename_i d1 hs
            have hg' : (d', ups) = (_, _) := hg2
            cases hg'
            obtain ⟨a, rfl, hr⟩ := shiftPtr_rep hs hd
            refine ⟨rfl, _, ?_, hr⟩
            have h2 : ¬ (n ≤ 1) := by omega
            simp [Instr.indexAt, asIntOf, run_underlying hu, hts, Instr.sureAddr, hj, h2]
          · exact hg2.elim
      · exact hg.elim
    · exact hg.elim
  · exact hg.elim

theorem index_sound (hΓ : TysOk P Γ) {t : TypeId} {ty : Ty} (ht : TyOk P t ty) {d ix : D} {u v : Value} (hq : q = true) (hd : RepD w ow ρ d u) (hi : RepD w ow ρ ix v)
    (hg : (indexE Γ ty q d ix).gives P (d', ups)) : ups = [] ∧ ∃ r, (Instr.index t u v).run P w = .ok r w ∧ RepD w ow ρ d' r := by
  unfold indexE at hg
  have hu := ht.under
  split at hg
  · rename_i ik i
    obtain ⟨rfl, _⟩ := rep_x hi
    split at hg
    · rename_i hdesc
      rw [hdesc] at hu
      split at hg
      · rename_i s
        obtain ⟨rfl, _⟩ := rep_x hd
        obtain ⟨h0, hg⟩ := hg
        obtain ⟨h1, h2⟩ := h0 hq
        refine ok_x hg rfl ?_
        have hlt : i.toNat < s.size := by omega
        have hx : s[i.toNat]? = some (s[i.toNat]'hlt) := getElem?_pos s i.toNat hlt
        have hy : strAt s i.toNat = s[i.toNat]'hlt := by
          have : s.data.toList[i.toNat]? = some (s[i.toNat]'hlt) := by
            rw [Array.getElem?_toList, Array.getElem?_eq_getElem (by exact hlt)]; rfl
          simp [strAt, List.getD, this]
        simp [Instr.index, asIntOf, run_underlying hu, h1, hx, hy]
      · exact hg.elim
    · rename_i n e hdesc
      rw [hdesc] at hu
      split at hg
      · rename_i te hte
        have hts := run_sizeOf (hΓ _ _ hte)
        split at hg
        · rename_i cs
          obtain ⟨j, hj, rfl, hg2⟩ := among_gives hq hg
          obtain ⟨⟨hl, hsz⟩, hg2⟩ := hg2
          have hg' : (d', ups) = (_, _) := hg2
          cases hg'
          obtain ⟨us, rfl, ha⟩ := hd
          obtain ⟨r, hr, hrep⟩ := part_sound (P := P) (hΓ _ _ hte) ha hl hsz
          refine ⟨rfl, r, ?_, hrep⟩
          simp [Instr.index, asIntOf, run_underlying hu, hts, hj, hr]
        · exact hg.elim
      · exact hg.elim
    · exact hg.elim
  · exact hg.elim

theorem len_sound {t : TypeId} {ty : Ty} (ht : TyOk P t ty) {d : D} {u : Value} (hd : RepD w ow ρ d u) {ts : Array TypeId} (hts : ts[0]? = some t) (T : TypeId)
    (hg : (lenE ty d).gives P (d', ups)) : ups = [] ∧ ∃ r, (Builtin.len_ ts T #[u]).run P w = .ok r w ∧ RepD w ow ρ d' r := by
  unfold lenE at hg
  have hu := ht.under
  split at hg
  · rename_i hdesc
    rw [hdesc] at hu
    split at hg
    · obtain ⟨rfl, _⟩ := rep_x hd
      exact ok_x hg rfl (by simp [Builtin.len_, hts, run_underlying hu, goInt])
    · exact hg.elim
  · rename_i hdesc
    rw [hdesc] at hu
    exact ok_x hg rfl (by simp [Builtin.len_, hts, run_underlying hu, goInt])
  · rename_i hdesc
    rw [hdesc] at hu
    split at hg
    · rename_i k rows
      obtain ⟨a, c, rfl, _⟩ := rep_s (show RepV w ow (.s k rows) u from hd)
      exact ok_x hg rfl (by simp [Builtin.len_, hts, run_underlying hu, goInt])
    · obtain ⟨m, hm, h⟩ := hd
      cases m with
      | nil =>
        obtain ⟨rfl, a, rfl⟩ := h
        exact ok_x hg rfl (by simp [Builtin.len_, hts, run_underlying hu, goInt])
      | blk b base cap =>
        obtain ⟨rfl, hle⟩ := h
        exact ok_x hg rfl (by simp [Builtin.len_, hts, run_underlying hu, goInt])
    · obtain ⟨rfl, _⟩ := rep_x hd
      exact ok_x hg rfl (by simp [Builtin.len_, hts, run_underlying hu, goInt])
    · exact hg.elim
  · exact hg.elim

end Eng
end Go.Proofs.YtllfgnhnooonfaaDoor

/-! Each operation does what the evaluator says: append, slices cut, literals. -/
namespace Go.Proofs.YtllfgnhnooonfaaDoor
namespace Eng

variable {P : Program} {Γ : Nat → Option Ty} {own0 mt : Nat → Prop} {w0 w : World} {ow : Nat → Prop} {ρ : Nat → Option Pl} {H : Nat → Option Blk} {q : Bool}
  {d' : D} {ups : Ups}

theorem flatten_get {α : Type} {k : Nat} : ∀ {rows : List (List α)}, (∀ r, r ∈ rows → r.length = k) → ∀ {i j : Nat}, j < k → rows.flatten[i * k + j]? = (rows[i]?).bind (·[j]?)
  | [], _, i, j, _ => by simp
  | r :: rows, h, 0, j, hj => by
    have hr := h r (by simp)
    simp only [List.flatten_cons, Nat.zero_mul, Nat.zero_add]
    rw [List.getElem?_append_left (by omega)]
    rfl
  | r :: rows, h, i + 1, j, hj => by
    have hr := h r (by simp)
    have ih := flatten_get (rows := rows) (fun r hr => h r (by simp [hr])) (i := i) hj
    simp only [List.flatten_cons]
    rw [List.getElem?_append_right (by rw [Nat.add_mul]; omega), hr, show (i + 1) * k + j - k = i * k + j by rw [Nat.add_mul]; omega, ih]
    rfl

theorem flatten_len {α : Type} {k : Nat} : ∀ {rows : List (List α)}, (∀ r, r ∈ rows → r.length = k) → rows.flatten.length = rows.length * k
  | [], _ => by simp
  | r :: rows, h => by
    have ih := flatten_len (rows := rows) (fun r hr => h r (by simp [hr]))
    have hr := h r (by simp)
    simp only [List.flatten_cons, List.length_append, List.length_cons, ih, hr, Nat.add_mul]
    omega

theorem rows_of_flat {α : Type} {R : α → Value → Prop} {k base : Nat} {rows : List (List α)} {xs : List Value} {vs : Array Value} (hk : ∀ r, r ∈ rows → r.length = k) (h : All2 R rows.flatten xs)
    (hx : ∀ (j : Nat) v, xs[j]? = some v → vs[base + j]? = some v) : ∀ (i : Nat) (r : List α) (j : Nat) (v : α), rows[i]? = some r → r[j]? = some v → ∃ x, vs[base + i * k + j]? = some x ∧ R v x := by
  intro i r j v hi hj
  have hr := hk r (List.mem_of_getElem? hi)
  have hjk : j < k := by rw [← hr]; exact (List.getElem?_eq_some_iff.1 hj).1
  have : rows.flatten[i * k + j]? = some v := by rw [flatten_get hk hjk, hi]; exact hj
  obtain ⟨x, h1, h2⟩ := h.get this
  exact ⟨x, by rw [Nat.add_assoc]; exact hx _ _ h1, h2⟩

theorem flat_of_get {α : Type} {R : α → Value → Prop} {k : Nat} {rows : List (List α)} {f : Nat → Option Value} (hk : ∀ r, r ∈ rows → r.length = k)
    (h3 : ∀ (i : Nat) (r : List α) (j : Nat) (v : α), rows[i]? = some r → r[j]? = some v → ∃ x, f (i * k + j) = some x ∧ R v x) :
    ∃ xs : List Value, All2 R rows.flatten xs ∧ ∀ (j : Nat) v, xs[j]? = some v → f j = some v := by
  have hl := flatten_len hk
  have split : ∀ n, n < rows.flatten.length → ∃ i j, n = i * k + j ∧ j < k := fun n hn => by
    rcases Nat.eq_zero_or_pos k with h0 | h0
    · subst h0; omega
    · exact ⟨n / k, n % k, by rw [Nat.mul_comm]; exact (Nat.div_add_mod n k).symm, Nat.mod_lt _ h0⟩
  have at_ : ∀ n v, rows.flatten[n]? = some v → ∃ x, f n = some x ∧ R v x := fun n v hv => by
    obtain ⟨i, j, rfl, hj⟩ := split n (List.getElem?_eq_some_iff.1 hv).1
    rw [flatten_get hk hj] at hv
    cases hr : rows[i]? with
    | none => simp [hr] at hv
    | some r => rw [hr] at hv; exact h3 i r j v hr hv
  refine ⟨(List.range rows.flatten.length).map fun n => (f n).getD undef, All2.of_get (by simp) fun n a b ha hb => ?_, fun n v hv => ?_⟩
  · obtain ⟨x, hx, hr⟩ := at_ n a ha
    have : n < rows.flatten.length := (List.getElem?_eq_some_iff.1 ha).1
    rw [List.getElem?_map, List.getElem?_range this] at hb
    simp [hx] at hb; subst hb; exact hr
  · have hn : n < rows.flatten.length := by have := (List.getElem?_eq_some_iff.1 hv).1; simpa using this
    obtain ⟨x, hx, _⟩ := at_ n _ (List.getElem?_eq_getElem hn)
    rw [List.getElem?_map, List.getElem?_range hn] at hv
    simp [hx] at hv; rw [hx, hv]

/-- An id for a slice without room. -/
theorem Step.newNil (hm : Mem own0 mt w0 ρ H w) {i k : Nat} (hi : H i = none) : Step own0 mt w0 ρ H w (upd ρ i (some .nil)) (upd H i (some (.row k []))) w := by
  have how : ∀ b, Ow own0 (upd ρ i (some .nil)) (upd H i (some (.row k []))) b → Ow own0 ρ H b := by
    rintro b (h | ⟨j, bs, c, hj, hl⟩)
    · exact .inl h
    · by_cases e : j = i
      · subst e; simp at hj
      · rw [upd_other _ _ e] at hj hl; exact .inr ⟨j, bs, c, hj, hl⟩
  refine ⟨sub_upd (hm.defd i hi), .refl _ _, fun b _ h => how b h, ?_⟩
  exact {
    blks := fun j bl hj => by
      by_cases e : j = i
      · subst e; simp only [upd_same, Option.some.injEq] at hj; subst hj
        exact ⟨by simp, .nil, by simp, rfl⟩
      · rw [upd_other _ _ e] at hj
        exact (hm.blks j bl hj).mono (.refl _ _) (fun b _ h => how b h) (sub_upd (hm.defd i hi)) fun _ _ _ _ _ => rfl
    defd := fun j hj => by
      by_cases e : j = i
      · subst e; simp at hj
      · rw [upd_other _ _ e] at hj ⊢; exact hm.defd j hj
    inj := fun j j' b c1 k1 b' c' k' hl hl' hj hj' hne => by
      by_cases e : j = i
      · subst e; simp at hj
      · by_cases e' : j' = i
        · subst e'; simp at hj'
        · rw [upd_other _ _ e] at hj hl; rw [upd_other _ _ e'] at hj' hl'
          exact hm.inj j j' _ _ _ _ _ _ hl hl' hj hj' hne
    fresh := fun j b c k hj => by
      by_cases e : j = i
      · subst e; simp at hj
      · rw [upd_other _ _ e] at hj; exact hm.fresh j _ _ _ hj
    keep := hm.keep
    own0 := hm.own0
    glob := hm.glob }

/-- A block gets another id; its old one is gone. -/
theorem Step.rename (hm : Mem own0 mt w0 ρ H w) {r i : Nat} {blk : Blk} {b base c : Nat} (hr : H r = some blk) (hp : ρ r = some (.blk b base c)) (hi : H i = none) 
    (hblk : ∀ {w ow ρ ρ'}, RepB w ow ρ r blk → ρ r = ρ' i → Sub ρ ρ' → RepB w ow ρ' i blk) :
    Step own0 mt w0 ρ H w (upd ρ i (some (.blk b base c))) (upd (upd H r (some .gone)) i (some blk)) w := by
  have hne : i ≠ r := fun e => by subst e; rw [hi] at hr; cases hr
  have hs := sub_upd (m := .blk b base c) (hm.defd i hi)
  have how : ∀ x, Ow own0 (upd ρ i (some (.blk b base c))) (upd (upd H r (some .gone)) i (some blk)) x → Ow own0 ρ H x := by
    rintro x (h | ⟨j, bs, c', hj, hl⟩)
    · exact .inl h
    · by_cases e : j = i
      · subst e; simp only [upd_same] at hj hl; cases hj; exact .inr ⟨r, _, _, hp, by rw [hr]; exact hl⟩
      · rw [upd_other _ _ e] at hj hl
        by_cases e' : j = r
        · subst e'; simp [live] at hl
        · rw [upd_other _ _ e'] at hl; exact .inr ⟨j, bs, c', hj, hl⟩
  refine ⟨hs, .refl _ _, fun x _ h => how x h, ?_⟩
  have src : ∀ {j : Nat}, solid (upd (upd H r (some .gone)) i (some blk) j) = true → ∀ {m}, upd ρ i (some (.blk b base c)) j = some m → ∃ j', solid (H j') = true ∧ ρ j' = some m ∧ (j = i → j' = r) ∧ (j ≠ i → j' = j ∧ j ≠ r) := by
    intro j hl m hj
    by_cases e : j = i
    · subst e; simp only [upd_same] at hj hl; cases hj; exact ⟨r, by rw [hr]; exact hl, hp, fun _ => rfl, fun h => absurd rfl h⟩
    · rw [upd_other _ _ e] at hj hl
      have e' : j ≠ r := fun e' => by subst e'; simp [solid] at hl
      rw [upd_other _ _ e'] at hl
      exact ⟨j, hl, hj, fun h => absurd h e, fun _ => ⟨rfl, e'⟩⟩
  exact {
    blks := fun j bl hj => by
      by_cases e : j = i
      · subst e; simp only [upd_same, Option.some.injEq] at hj; subst hj
        refine hblk ?_ (by rw [hp]; simp) hs
        exact (hm.blks r _ hr).mono (.refl _ _) (fun x _ h => how x h) (.refl _) fun _ _ _ _ _ => rfl
      · rw [upd_other _ _ e] at hj
        by_cases e' : j = r
        · subst e'; simp only [upd_same, Option.some.injEq] at hj; subst hj; trivial
        · rw [upd_other _ _ e'] at hj
          exact (hm.blks j bl hj).mono (.refl _ _) (fun x _ h => how x h) hs fun _ _ _ _ _ => rfl
    defd := fun j hj => by
      by_cases e : j = i
      · subst e; simp at hj
      · rw [upd_other _ _ e] at hj ⊢
        by_cases e' : j = r
        · subst e'; simp at hj
        · rw [upd_other _ _ e'] at hj; exact hm.defd j hj
    inj := fun j j' b1 c1 k1 b2 c2 k2 h1 h2 h3 h4 hne' => by
      obtain ⟨a, ha1, ha2, ha3, ha4⟩ := src h1 h3
      obtain ⟨a', hb1, hb2, hb3, hb4⟩ := src h2 h4
      refine hm.inj a a' _ _ _ _ _ _ ha1 hb1 ha2 hb2 fun e => ?_
      by_cases e1 : j = i
      · by_cases e2 : j' = i
        · exact hne' (e1.trans e2.symm)
        · have := hb4 e2; have := ha3 e1; omega
      · by_cases e2 : j' = i
        · have := ha4 e1; have := hb3 e2; omega
        · have := ha4 e1; have := hb4 e2; omega
    fresh := fun j b' c' k' hj => by
      by_cases e : j = i
      · subst e; simp only [upd_same] at hj; cases hj; exact hm.fresh r _ _ _ hp
      · rw [upd_other _ _ e] at hj; exact hm.fresh j _ _ _ hj
    keep := hm.keep
    own0 := hm.own0
    glob := hm.glob }

end Eng
end Go.Proofs.YtllfgnhnooonfaaDoor
