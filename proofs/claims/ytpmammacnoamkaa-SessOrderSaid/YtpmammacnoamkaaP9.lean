/- SessOrder, plainly. -/
import Derived.Test.YtpmammacnoamkaaM9
set_option autoImplicit false
set_option linter.unusedSimpArgs false
set_option linter.unusedVariables false
set_option maxRecDepth 100000
namespace Go.Proofs.Ytpmammacnoamkaa
namespace Eng
def toldOK : Int → List Msg → Int → Prop
  | _, [], _ => True
  | last, m :: l, N => m.kind = 7 ∧ last < m.seq ∧ m.seq < N ∧ toldOK m.seq l N
def tk : Int → List Msg → Int
  | last, [] => last
  | _, m :: l => tk m.seq l
def saidOK : Int → List Msg → Int → Prop
  | _, [], _ => True
  | out, m :: l, now => mR m = true ∧ m.time = now ∧ (¬ m.kind = 5 → m.seq = out + 1) ∧ saidOK (if m.kind = 5 then out else m.seq) l now
def so : Int → List Msg → Int
  | out, [] => out
  | out, m :: l => so (if m.kind = 5 then out else m.seq) l
theorem said_snoc (now : Int) (m : Msg) : ∀ (l : List Msg) (out : Int), saidOK out l now → mR m = true → m.time = now → (¬ m.kind = 5 → m.seq = so out l + 1) → saidOK out (l ++ [m]) now ∧ so out (l ++ [m]) = if m.kind = 5 then so out l else m.seq
  | [], out, _, h1, h2, h3 => ⟨⟨h1, h2, h3, trivial⟩, rfl⟩
  | x :: l, out, h, h1, h2, h3 => by
    obtain ⟨a, b, c, d⟩ := h
    obtain ⟨e, f⟩ := said_snoc now m l _ d h1 h2 h3
    exact ⟨⟨a, b, c, e⟩, f⟩
def okI (y : Itm) : Prop := y.fr = y.m.seq ∧ y.fr ≤ 1099511627776 ∧ (y.m.kind = 7 → y.to = y.fr + 1)
theorem chainT_le : ∀ (T : List Itm) (n N : Int), chainT n T N → n ≤ N
  | [], n, N, h => by simp only [chainT] at h; omega
  | y :: T, n, N, h => by
    obtain ⟨_, h2, h3⟩ := h
    have := chainT_le T _ _ h3
    omega
theorem tell_ok : ∀ (T : List Itm) (cur last N : Int), chainT cur T N → last < cur → (∀ y, y ∈ T → okI y) → toldOK last (tellS T) N ∧ tk last (tellS T) < N
  | [], cur, last, N, h, hl, _ => by
    simp only [chainT] at h
    subst h
    exact ⟨trivial, hl⟩
  | y :: T, cur, last, N, h, hl, hy => by
    obtain ⟨h1, h2, h3⟩ := h
    obtain ⟨o1, o2, o3⟩ := hy y (by simp)
    have hle := chainT_le T _ _ h3
    unfold tellS
    rw [List.filter_cons]
    by_cases hk : y.m.kind = 7
    · rw [if_pos (by simpa using hk), List.map_cons]
      have e := o3 hk
      obtain ⟨ih1, ih2⟩ := tell_ok T y.to y.m.seq N h3 (by omega) (fun z hz => hy z (by simp [hz]))
      exact ⟨⟨hk, by omega, by omega, ih1⟩, ih2⟩
    · rw [if_neg (by simpa using hk)]
      exact tell_ok T y.to last N h3 (by omega) (fun z hz => hy z (by simp [hz]))
theorem drain_mem : ∀ (l : List Itm) (n : Int) (y : Itm), y ∈ (drain n l).1 ∨ y ∈ (drain n l).2.2 → y ∈ l
  | [], n, y, h => by simp [drain] at h
  | x :: l, n, y, h => by
    unfold drain at h
    split at h
    · split at h
      · have ih := drain_mem l x.to y
        dsimp only at h
        rcases h with h | h
        · rcases List.mem_cons.1 h with rfl | h
          · simp
          · exact List.mem_cons_of_mem _ (ih (.inl h))
        · exact List.mem_cons_of_mem _ (ih (.inr h))
      · exact List.mem_cons_of_mem _ (drain_mem l n y h)
    · dsimp only at h
      rcases h with h | h
      · simp at h
      · exact h
theorem come_mem (n : Int) (l : List Itm) (x y : Itm) (h : y ∈ (comeS n l x).2.1 ∨ y ∈ (comeS n l x).1.2) : y = x ∨ y ∈ l := by
  unfold comeS at h
  split at h
  · dsimp only at h; rcases h with h | h; simp at h; exact .inr h
  · split at h
    · dsimp only at h; rcases h with h | h; simp at h; exact .inr h
    · split at h
      · dsimp only at h
        rcases h with h | h
        · simp at h
        · unfold keepS at h
          split at h
          · exact .inr h
          · split at h
            · exact .inr h
            · dsimp only at h
              rcases List.mem_append.1 h with h | h
              · exact .inr (List.mem_of_mem_take h)
              · rcases List.mem_cons.1 h with h | h
                · exact .inl h
                · exact .inr (List.mem_of_mem_drop h)
      · dsimp only at h
        rcases h with h | h
        · rcases List.mem_cons.1 h with h | h
          · exact .inl h
          · exact .inr (drain_mem l _ y (.inl h))
        · exact .inr (drain_mem l _ y (.inr h))
/-- A session that talks, and what it has said. -/
structure TalkP (out now : Int) (s : Ses) (said : List Msg) : Prop where
  r : sesR s = true
  ok : ∀ y, y ∈ s.hd → okI y
  sd : saidOK out said now
  o : so out said + 1 = s.out
theorem smallB_iff {n : Int} : smallB n = true ↔ 0 ≤ n ∧ n ≤ 1099511627776 := by simp only [smallB, Bool.and_eq_true, decide_eq_true_eq]
theorem mR_mk {m : Msg} {q now : Int} (hq : 1 ≤ q ∧ q ≤ 1099511627776) (hw : whenB now = true) (hk : mK { m with seq := q, time := now } = true) : mR { m with seq := q, time := now } = true := by
  unfold mR
  rw [hk]
  have h1 : smallB q = true := smallB_iff.2 (by omega)
  have h2 : (q != 0) = true := by rw [bne_iff_ne]; omega
  show (smallB q && (q != 0) && whenB now && true) = true
  rw [h1, h2, hw]; rfl
theorem say_ok {out now : Int} {s : Ses} {said : List Msg} {m : Msg} (h : TalkP out now s said) (hw : whenB now = true) (hk : ∀ q, mK { m with seq := q, time := now } = true) (h5 : ¬ m.kind = 5) : TalkP out now (sayS s now said m).1 (sayS s now said m).2 := by
  obtain ⟨r, ok, sd, o⟩ := h
  have hr := sesR_iff.1 r
  have hw' := whenB_iff.1 hw
  unfold sayS
  by_cases hm : s.out = 1099511627776
  · rw [if_pos hm]; exact ⟨r, ok, sd, o⟩
  · rw [if_neg hm]
    obtain ⟨a, b⟩ := said_snoc now { m with seq := s.out, time := now } said out sd (mR_mk (by omega) hw (hk _)) rfl (fun _ => o.symm)
    refine ⟨sesR_iff.2 ⟨hr.1, hr.2.1, ?_, hr.2.2.2.1, hr.2.2.2.2.1, hw', hr.2.2.2.2.2.2⟩, ok, a, ?_⟩
    · dsimp only; omega
    · rw [b, if_neg h5]
theorem ask_ok {out now : Int} {s : Ses} {said : List Msg} (h : TalkP out now s said) (hw : whenB now = true) : TalkP out now (askS s now said).1 (askS s now said).2 ∧ (askS s now said).1.nx = s.nx := by
  unfold askS
  by_cases hc : s.st ≠ 2 ∨ (gapS s.nx s.hd).2.2 = false ∨ (gapS s.nx s.hd).1 ≤ s.qa
  · rw [if_pos hc]; exact ⟨h, rfl⟩
  · rw [if_neg hc]
    have hr := sesR_iff.1 h.r
    have hrb := rightB_iff.1 hr.2.1
    have hw' := whenB_iff.1 hw
    have hne : s.hd ≠ [] := fun e => hc (.inr (.inl (by unfold gapS; rw [if_neg (fun h => h.2 e)])))
    have hg : gapS s.nx s.hd = (s.nx, (s.hd.getD 0 default).fr - 1, true) := by unfold gapS; rw [if_pos ⟨hr.2.1, hne⟩]
    have hy : s.nx < (s.hd.getD 0 default).fr ∧ (s.hd.getD 0 default).fr ≤ 1099511627776 := by
      cases hh : s.hd with
      | nil => exact absurd hh hne
      | cons y l =>
        have h1 := h.ok y (by rw [hh]; simp)
        have h2 := hrb.2.2.2
        rw [hh] at h2
        have h3 := chainI_cons.1 h2
        rw [List.getD_cons_zero]
        exact ⟨h3.2.1, h1.2.1⟩
    rw [hg]
    dsimp only
    obtain ⟨L, hL⟩ : ∃ L : Int, (if s.nx + 10 - 1 < (s.hd.getD 0 default).fr - 1 then s.nx + 10 - 1 else (s.hd.getD 0 default).fr - 1) = L := ⟨_, rfl⟩
    rw [hL]
    have hLr : 1 ≤ L ∧ L ≤ 1099511627776 := by rw [← hL]; split <;> omega
    have hk : ∀ q, mK { mT 4 s.nx L ⟨#[]⟩ with seq := q, time := now } = true := fun q => by
      have h1 : smallB s.nx = true := smallB_iff.2 (by omega)
      have h2 : (s.nx != 0) = true := by rw [bne_iff_ne]; omega
      have h3 : smallB L = true := smallB_iff.2 (by omega)
      show (smallB s.nx && (s.nx != 0) && smallB L && true) = true
      rw [h1, h2, h3]; rfl
    have ho := sesR_out h.r
    obtain ⟨k1, k2, k3, k4⟩ := say_keep (rfl : sayS s now said (mT 4 s.nx L ⟨#[]⟩) = _) ho
    have hsay := say_ok (m := mT 4 s.nx L ⟨#[]⟩) h hw hk (by show ¬ (4 : Int) = 5; decide)
    obtain ⟨r, ok, sd, o⟩ := hsay
    have hr2 := sesR_iff.1 r
    exact ⟨⟨sesR_iff.2 ⟨hr2.1, hr2.2.1, hr2.2.2.1, hr2.2.2.2.1, hr2.2.2.2.2.1, hr2.2.2.2.2.2.1, by dsimp only; omega, by dsimp only; omega⟩, ok, sd, o⟩, k3⟩
end Eng
end Go.Proofs.Ytpmammacnoamkaa
