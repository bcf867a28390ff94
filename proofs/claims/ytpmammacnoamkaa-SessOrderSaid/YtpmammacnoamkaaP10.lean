/- SessOrder, plainly: an act. -/
import Derived.Test.YtpmammacnoamkaaP9
set_option autoImplicit false
set_option linter.unusedSimpArgs false
set_option linter.unusedVariables false
set_option maxRecDepth 100000
namespace Go.Proofs.Ytpmammacnoamkaa
namespace Eng
def actS (k : Int) (s : Ses) (m : Msg) (now : Int) : Ses × List Msg × List Msg :=
  if k = 0 then ((connS s now).1, (connS s now).2.1, []) else
  if k = 1 then ((comeT s m now).1, (comeT s m now).2.1, (comeT s m now).2.2.1) else
  if k = 2 then ((tickS s now).1, (tickS s now).2.1, []) else (dropS s, [], [])
structure ActP (last out now : Int) (s : Ses) (r : Ses × List Msg × List Msg) : Prop where
  rt : sesR r.1 = true
  ok : ∀ y, y ∈ r.1.hd → okI y
  nx : s.nx ≤ r.1.nx
  tl : toldOK last r.2.2 r.1.nx
  tn : tk last r.2.2 < r.1.nx
  sd : saidOK out r.2.1 now
  o : so out r.2.1 + 1 = r.1.out
theorem act_of {last out now : Int} {s n : Ses} {said told : List Msg} (h : TalkP out now n said) (hn : s.nx ≤ n.nx) (ht : toldOK last told n.nx) (hk : tk last told < n.nx) : ActP last out now s (n, said, told) := ⟨h.r, h.ok, hn, ht, hk, h.sd, h.o⟩
theorem talk0 {out now : Int} {s : Ses} (hr : sesR s = true) (hok : ∀ y, y ∈ s.hd → okI y) (ho : out + 1 = s.out) : TalkP out now s [] := ⟨hr, hok, trivial, ho⟩
theorem conn_ok {last out now : Int} {s : Ses} (hr : sesR s = true) (hok : ∀ y, y ∈ s.hd → okI y) (ho : out + 1 = s.out) (hl : last < s.nx) (hw : whenB now = true) : ActP last out now s ((connS s now).1, (connS s now).2.1, []) := by
  have hrr := sesR_iff.1 hr
  have hw' := whenB_iff.1 hw
  unfold connS
  rw [if_neg (fun h => h ⟨hr, hw⟩)]
  by_cases h0 : s.st ≠ 0
  · rw [if_pos h0]; exact act_of (talk0 hr hok ho) (Int.le_refl _) trivial hl
  · rw [if_neg h0]
    have hr1 : sesR { s with st := 1, he := now } = true := sesR_iff.2 ⟨by dsimp only; omega, hrr.2.1, hrr.2.2.1, hrr.2.2.2.1, hw', hrr.2.2.2.2.2⟩
    have hk : ∀ q, mK { mT 1 s.ev 0 ⟨#[]⟩ with seq := q, time := now } = true := fun q => by
      show (smallB s.ev && true) = true
      rw [smallB_iff.2 (by omega)]; rfl
    obtain ⟨r, ok, sd, o⟩ := say_ok (m := mT 1 s.ev 0 ⟨#[]⟩) (talk0 (out := out) (now := now) (s := { s with st := 1, he := now }) hr1 hok ho) hw hk (by show ¬ (1 : Int) = 5; decide)
    obtain ⟨k1, k2, k3, k4⟩ := say_keep (rfl : sayS { s with st := 1, he := now } now [] (mT 1 s.ev 0 ⟨#[]⟩) = _) (sesR_out hr1)
    have hr2 := sesR_iff.1 r
    exact ⟨sesR_iff.2 ⟨hr2.1, hr2.2.1, hr2.2.2.1, hr2.2.2.2.1, hr2.2.2.2.2.1, hr2.2.2.2.2.2.1, by dsimp only; omega, hr2.2.2.2.2.2.2.2⟩, ok, by show s.nx ≤ _; dsimp only; rw [k3]; exact Int.le_refl _, trivial, by show last < _; dsimp only; rw [k3]; exact hl, sd, o⟩
theorem mK_of {m : Msg} (h : mR m = true) : mK m = true := by
  unfold mR at h
  simp only [Bool.and_eq_true] at h
  exact h.2
theorem answer_ok {out now : Int} {s : Ses} {m : Msg} (h : TalkP out now s []) (hw : whenB now = true) (hm : mR m = true) : TalkP out now (answerS s now [] m).1 (answerS s now [] m).2 := by
  have hmk := mK_of hm
  unfold answerS
  by_cases h3 : m.kind = 3
  · rw [if_pos h3]
    unfold mK at hmk
    rw [if_neg (by omega), if_neg (by omega), if_pos h3] at hmk
    simp only [Bool.and_eq_true] at hmk
    have hk : ∀ q, mK { mT 2 0 0 m.text with seq := q, time := now } = true := fun q => by
      show (saysB m.text && true) = true
      rw [hmk.1.2]; rfl
    exact say_ok (m := mT 2 0 0 m.text) h hw hk (by show ¬ (2 : Int) = 5; decide)
  · rw [if_neg h3]
    by_cases h4 : m.kind = 4 ∧ m.a < s.out
    · rw [if_pos h4]
      unfold mK at hmk
      rw [if_neg (by omega), if_neg (by omega), if_neg (by omega), if_pos h4.1] at hmk
      simp only [Bool.and_eq_true] at hmk
      obtain ⟨⟨⟨ha, ha0⟩, _⟩, _⟩ := hmk
      obtain ⟨r, ok, sd, o⟩ := h
      have ho := sesR_out r
      have hsa := smallB_iff.1 ha
      have hne : m.a ≠ 0 := bne_iff_ne.1 ha0
      have hmR : mR ⟨5, m.a, now, true, s.out, 0, true, ⟨#[]⟩, ⟨#[]⟩, ⟨#[]⟩, ⟨#[]⟩, ⟨#[]⟩, ⟨#[]⟩, 0, false, 0, 0, 0⟩ = true := by
        show (smallB m.a && (m.a != 0) && whenB now && (smallB s.out && (s.out != 0) && true)) = true
        rw [ha, ha0, hw, smallB_iff.2 (by omega), bne_iff_ne.2 (by omega : s.out ≠ 0)]; rfl
      obtain ⟨a, b⟩ := said_snoc now ⟨5, m.a, now, true, s.out, 0, true, ⟨#[]⟩, ⟨#[]⟩, ⟨#[]⟩, ⟨#[]⟩, ⟨#[]⟩, ⟨#[]⟩, 0, false, 0, 0, 0⟩ [] out sd hmR rfl (fun h => absurd rfl h)
      exact ⟨r, ok, a, by rw [b, if_pos rfl]; exact o⟩
    · rw [if_neg h4]; exact h
theorem come_ok {last out now : Int} {s : Ses} {m : Msg} (hr : sesR s = true) (hok : ∀ y, y ∈ s.hd → okI y) (ho : out + 1 = s.out) (hl : last < s.nx) (hw : whenB now = true) : ActP last out now s ((comeT s m now).1, (comeT s m now).2.1, (comeT s m now).2.2.1) := by
  have hrr := sesR_iff.1 hr
  have hw' := whenB_iff.1 hw
  have base : ActP last out now s (s, [], []) := act_of (talk0 hr hok ho) (Int.le_refl _) trivial hl
  unfold comeT
  by_cases h1 : sesR s = true ∧ mR m = true ∧ whenB now = true
  · rw [if_neg (fun h => h h1)]
    by_cases h2 : s.st = 0 ∨ s.st = 1 ∧ m.kind ≠ 1
    · rw [if_pos h2]; exact base
    · rw [if_neg h2]
      by_cases h3 : m.kind = 5 ∧ m.gap = false
      · rw [if_pos h3]
        exact act_of (talk0 (sesR_iff.2 ⟨by dsimp only; omega, hrr.2.1, hrr.2.2.1, hrr.2.2.2.1, hw', hrr.2.2.2.2.2⟩) hok ho) (Int.le_refl _) trivial hl
      · rw [if_neg h3]
        have hr1 : sesR { s with st := 2, he := now, te := false } = true := sesR_iff.2 ⟨by dsimp only; omega, hrr.2.1, hrr.2.2.1, hrr.2.2.2.1, hw', hrr.2.2.2.2.2⟩
        have hA := answer_ok (m := m) (talk0 (out := out) (now := now) (s := { s with st := 2, he := now, te := false }) hr1 hok ho) hw h1.2.1
        obtain ⟨k1, k2, k3, k4⟩ := answer_keep (rfl : answerS { s with st := 2, he := now, te := false } now [] m = _) (sesR_out hr1)
        obtain ⟨⟨a, said⟩, hAe⟩ : ∃ x, answerS { s with st := 2, he := now, te := false } now [] m = x := ⟨_, rfl⟩
        rw [hAe] at hA k1 k2 k3 k4 ⊢
        dsimp only at hA k1 k2 k3 k4 ⊢
        obtain ⟨⟨⟨N, R⟩, T, c⟩, hS⟩ : ∃ x, comeS a.nx a.hd (itemOf m) = x := ⟨_, rfl⟩
        have har := sesR_iff.1 hA.r
        obtain ⟨c1, c2, _, _, _, _⟩ := come_all har.2.1 hS
        have hmem := come_mem a.nx a.hd (itemOf m)
        rw [hS] at hmem
        dsimp only at hmem
        have hseq := mR_seq h1.2.1
        have hx : okI (itemOf m) := by
          refine ⟨rfl, hseq.2, fun h7 => ?_⟩
          unfold itemOf at h7 ⊢
          dsimp only at h7 ⊢
          rw [if_neg (by omega)]
        have hTok : ∀ y, y ∈ T → okI y := fun y hy => by
          rcases hmem y (.inl hy) with rfl | h
          · exact hx
          · exact hA.ok y h
        have hRok : ∀ y, y ∈ R → okI y := fun y hy => by
          rcases hmem y (.inr hy) with rfl | h
          · exact hx
          · exact hA.ok y h
        have hle := chainT_le T _ _ c2
        obtain ⟨t1, t2⟩ := tell_ok T a.nx last N c2 (by rw [k3]; exact hl) hTok
        have eT : takeS a m = ({ a with nx := N, hd := R }, tellS T) := by unfold takeS; rw [hS]
        rw [eT]
        dsimp only
        have hT : TalkP out now { a with nx := N, hd := R } said := ⟨sesR_iff.2 ⟨har.1, c1, har.2.2⟩, hRok, hA.sd, hA.o⟩
        obtain ⟨hK, hKn⟩ := ask_ok hT hw
        obtain ⟨⟨k, sd⟩, hKe⟩ : ∃ x, askS { a with nx := N, hd := R } now said = x := ⟨_, rfl⟩
        rw [hKe] at hK hKn ⊢
        dsimp only at hK hKn ⊢
        have hkr := sesR_iff.1 hK.r
        by_cases h6 : m.kind = 6
        · rw [if_pos h6]
          refine act_of (n := { k with st := 0 }) ⟨sesR_iff.2 ⟨by dsimp only; omega, hkr.2⟩, hK.ok, hK.sd, hK.o⟩ ?_ ?_ ?_
          · show s.nx ≤ k.nx; rw [hKn]; have : s.nx ≤ N := by rw [k3] at hle; exact hle
            exact this
          · show toldOK last _ k.nx; rw [hKn]; exact t1
          · show _ < k.nx; rw [hKn]; exact t2
        · rw [if_neg h6]
          refine act_of hK ?_ ?_ ?_
          · rw [hKn]; have : s.nx ≤ N := by rw [k3] at hle; exact hle
            exact this
          · rw [hKn]; exact t1
          · rw [hKn]; exact t2
  · rw [if_pos h1]; exact base
theorem tick_ok {last out now : Int} {s : Ses} (hr : sesR s = true) (hok : ∀ y, y ∈ s.hd → okI y) (ho : out + 1 = s.out) (hl : last < s.nx) (hw : whenB now = true) : ActP last out now s ((tickS s now).1, (tickS s now).2.1, []) := by
  have hrr := sesR_iff.1 hr
  have hw' := whenB_iff.1 hw
  have base : ActP last out now s (s, [], []) := act_of (talk0 hr hok ho) (Int.le_refl _) trivial hl
  unfold tickS
  rw [if_neg (fun h => h ⟨hr, hw⟩)]
  by_cases h0 : s.st = 0
  · rw [if_pos h0]; exact base
  · rw [if_neg h0]
    by_cases h1 : s.he ≤ now - 3 * s.ev
    · rw [if_pos h1]
      exact act_of (talk0 (sesR_iff.2 ⟨by dsimp only; omega, hrr.2⟩) hok ho) (Int.le_refl _) trivial hl
    · rw [if_neg h1]
      by_cases h2 : s.st ≠ 2
      · rw [if_pos h2]; exact base
      · rw [if_neg h2]
        have hA : TalkP out now (testS s now).1 (testS s now).2 ∧ (testS s now).1.nx = s.nx := by
          unfold testS
          split
          · obtain ⟨r, ok, sd, o⟩ := say_ok (m := mT 3 0 0 ⟨#[116]⟩) (talk0 (out := out) (now := now) hr hok ho) hw (fun q => by rfl) (by show ¬ (3 : Int) = 5; decide)
            obtain ⟨k1, k2, k3, k4⟩ := say_keep (rfl : sayS s now [] (mT 3 0 0 ⟨#[116]⟩) = _) (sesR_out hr)
            have hr2 := sesR_iff.1 r
            exact ⟨⟨sesR_iff.2 ⟨hr2.1, hr2.2⟩, ok, sd, o⟩, k3⟩
          · exact ⟨talk0 hr hok ho, rfl⟩
        obtain ⟨a, hae⟩ : ∃ a, testS s now = a := ⟨_, rfl⟩
        rw [hae] at hA ⊢
        have hB : TalkP out now (beatS s.ev now a).1 (beatS s.ev now a).2 ∧ (beatS s.ev now a).1.nx = s.nx := by
          unfold beatS
          split
          · have h := say_ok (m := mT 2 0 0 ⟨#[]⟩) hA.1 hw (fun q => by rfl) (by show ¬ (2 : Int) = 5; decide)
            obtain ⟨k1, k2, k3, k4⟩ := say_keep (rfl : sayS a.1 now a.2 (mT 2 0 0 ⟨#[]⟩) = _) (sesR_out hA.1.r)
            exact ⟨h, k3.trans hA.2⟩
          · exact hA
        obtain ⟨b, hbe⟩ : ∃ b, beatS s.ev now a = b := ⟨_, rfl⟩
        rw [hbe] at hB ⊢
        have hC : TalkP out now (againS s.ev now b).1 (againS s.ev now b).2 ∧ (againS s.ev now b).1.nx = s.nx := by
          unfold againS
          split
          · have hbr := sesR_iff.1 hB.1.r
            have h := ask_ok (s := { b.1 with qa := 0 }) (said := b.2) (out := out) ⟨sesR_iff.2 ⟨hbr.1, hbr.2.1, hbr.2.2.1, hbr.2.2.2.1, hbr.2.2.2.2.1, hbr.2.2.2.2.2.1, by dsimp only; omega, hbr.2.2.2.2.2.2.2⟩, hB.1.ok, hB.1.sd, hB.1.o⟩ hw
            exact ⟨h.1, h.2.trans hB.2⟩
          · exact hB
        exact act_of hC.1 (by rw [hC.2]; exact Int.le_refl _) trivial (by rw [hC.2]; exact hl)
theorem act_ok {last out now : Int} {s : Ses} {m : Msg} (k : Int) (hr : sesR s = true) (hok : ∀ y, y ∈ s.hd → okI y) (ho : out + 1 = s.out) (hl : last < s.nx) (hw : whenB now = true) : ActP last out now s (actS k s m now) := by
  have hrr := sesR_iff.1 hr
  unfold actS
  by_cases h0 : k = 0
  · rw [if_pos h0]; exact conn_ok hr hok ho hl hw
  · rw [if_neg h0]
    by_cases h1 : k = 1
    · rw [if_pos h1]; exact come_ok hr hok ho hl hw
    · rw [if_neg h1]
      by_cases h2 : k = 2
      · rw [if_pos h2]; exact tick_ok hr hok ho hl hw
      · rw [if_neg h2]
        unfold dropS
        rw [if_pos hr]
        have hrb := rightB_iff.1 hrr.2.1
        exact act_of (talk0 (sesR_iff.2 ⟨by dsimp only; omega, rightB_iff.2 ⟨hrb.1, hrb.2.1, by simp, rfl⟩, hrr.2.2⟩) (fun y hy => by simp at hy) ho) (Int.le_refl _) trivial hl
end Eng
end Go.Proofs.Ytpmammacnoamkaa
