/- (*table).of: a byte's sum, whether or not the table has been made. -/
import Derived.Test.YtgpjbcgbjpmgaaaC4
set_option autoImplicit false
set_option linter.unusedSimpArgs false
set_option linter.unusedVariables false
set_option maxRecDepth 100000
namespace Go.Proofs.Ytgpjbcgbjpmgaaa
namespace Eng
theorem run_mf (fn : Fn) (first cap : Array Value) (w : World) : (Instr.makeFunc fn first cap).run Try.prog w = .ok (.func fn first cap) w := rfl
theorem sums_get2 (d s : Int) (c : BitVec 8) : (tabC d s 256)[3 + c.toNat]? = some (.v (.x (.int .u32 ((tab c).toNat : Int)))) := by
  rw [Nat.add_comm]
  simp only [List.getElem?_cons_succ]
  have := sums_get c
  rw [List.getD_eq_getElem?_getD] at this
  have hlt : c.toNat < (sumsAt 256).length := by rw [sumsAt_len]; exact c.isLt
  rw [List.getElem?_eq_getElem hlt] at this ⊢
  simpa using this

set_option maxHeartbeats 1600000 in
theorem of_run (c : BitVec 8) (b : Nat) (Q : World → Prop) (w : World)
    (hd : Calls Try.prog 63 #[.pointer (some ⟨b, 0, none⟩), .func (.func 64) #[.pointer (some ⟨b, 0, none⟩)] #[]] w fun e w' => e = .returned (.tuple #[]) ∧ Q w')
    (hq : ∀ w', Q w' → w'.cell? ⟨b, 3 + c.toNat, none⟩ = some (.int .u32 ((tab c).toNat : Int))) :
    Calls Try.prog 61 #[.pointer (some ⟨b, 0, none⟩), .int .u8 (c.toNat : Int)] w fun e w' => e = .returned (.int .u32 ((tab c).toNat : Int)) ∧ Q w' := by
  have hmf := run_mf
  have hlt : (c.toNat : Int) < 256 := by have := c.isLt; omega
  go_enter Try.func61, Try.ntmps61
  go_wp2_with (go_at_call 63; refine hd.mono ?_; rintro e w' ⟨rfl, hQ⟩; have hcell := hq _ hQ)
  go_ret
  exact ⟨rfl, hQ⟩

abbrev U8b (c : BitVec 8) : D := .e (.c (.v (.x (.int .u8 (c.toNat : Int)))))

/-- A byte's sum: the table is made at the first call. -/
theorem of_c (c : BitVec 8) (d : Int) (i : Nat) (h : (d = 0 ∧ i = 0) ∨ (d = 1 ∧ i = 256)) : ACall Try.prog 61 [.loc (tabC d 0 i)] [.p 0 0, U8b c] (W32 (tab c)) [.loc (tabC 1 0 256)] := by
  refine ⟨⟨_, Try.func61, by kernel_rfl, by kernel_rfl⟩, ?_⟩
  intro own0 w ρ vs hm ha
  match vs, ha with
  | [pv, cv], ⟨hpv, hcv, _⟩ =>
  obtain ⟨b, z, cc, hp, rfl⟩ := hpv
  have hz : z = 0 := by
    obtain ⟨b', c', hp', _⟩ := hm.blks 0 _ rfl
    rw [hp] at hp'; cases hp'; rfl
  subst hz
  obtain ⟨rfl, _⟩ := rep_x hcv
  simp only [Nat.add_zero]
  have h0 := one_get (off := 0) hm hp rfl
  have h1 := one_get (off := 1) hm hp rfl
  refine (of_run c b (fun w' => Mem own0 (Hd ρ) w ρ (fun i => [Blk.loc (tabC 1 0 256)][i]?) w') w ?_ ?_).mono ?_
  · rcases h with ⟨rfl, rfl⟩ | ⟨rfl, rfl⟩
    · have hm1 := one_set (v := .int .i32 1) hm hp 1 rfl
      have hf := one_call (fill_c (.int .u32 0) (.int .i32 1) (.int .u32 0)) hm1 hp (vs := [.pointer (some ⟨b, 0, none⟩)]) ⟨⟨b, 0, cc, hp, rfl⟩, trivial⟩
      refine (do_first b _ (fun w' => Mem own0 (Hd ρ) w ρ (fun i => [Blk.loc (tabC 0 1 256)][i]?) w') w h0.1 h1.1 h0.2 h1.2 ?_ ?_ ?_ ?_ ?_).mono ?_
      · refine hf.mono ?_
        rintro e w' ⟨u, rfl, hr, hm2⟩
        obtain ⟨us, rfl, hu⟩ := hr
        match us, hu with
        | [], _ => exact ⟨rfl, hm2⟩
      · exact fun w' hq => (one_get (off := 0) hq hp rfl).1
      · exact fun w' hq => (one_get (off := 1) hq hp rfl).1
      · exact fun w' hq => (one_get (off := 0) hq hp rfl).2
      · exact fun w' hq => (one_get (off := 1) hq hp rfl).2
      · rintro e w' ⟨rfl, w1, hq, rfl⟩
        exact ⟨rfl, one_set (v := .int .i32 0) (one_set (v := .int .u32 1) hq.drew hp 0 rfl) hp 1 rfl⟩
    · refine (do_done ⟨b, 0, none⟩ 1 (by decide) _ w h0.1).mono ?_
      rintro e w' ⟨rfl, rfl⟩
      exact ⟨rfl, hm⟩
  · exact fun w' hq => (one_get hq hp (sums_get2 1 0 c)).1
  · rintro e w' ⟨rfl, hq⟩
    exact ⟨_, ρ, rfl, Sub.refl _, rep_x_mk rfl, hq⟩
end Eng
end Go.Proofs.Ytgpjbcgbjpmgaaa
