/- The table of sums is made once: (*table).of, whether or not it has been made. -/
import Derived.Test.YtgpjbcgbjpmgaaaC1
import Derived.Test.YtgpjbcgbjpmgaaaC3
set_option autoImplicit false
set_option linter.unusedSimpArgs false
set_option linter.unusedVariables false
set_option maxRecDepth 100000
namespace Go.Proofs.Ytgpjbcgbjpmgaaa
namespace Eng

theorem all2_set {α β : Type} {R : α → β → Prop} : ∀ {xs : List α} {ys : List β} {n : Nat} {a : α} {b : β}, All2 R xs ys → R a b → All2 R (xs.set n a) (ys.set n b)
  | [], [], _, _, _, _, _ => trivial
  | _ :: _, _ :: _, 0, _, _, ⟨_, hs⟩, h => ⟨h, hs⟩
  | _ :: _, _ :: _, _ + 1, _, _, ⟨h0, hs⟩, h => ⟨h0, all2_set hs h⟩
  | [], _ :: _, _, _, _, h, _ => h.elim
  | _ :: _, [], _, _, _, h, _ => h.elim

section one
variable {own0 mt : Nat → Prop} {w0 w : World} {ρ : Nat → Option Pl} {cs : List C} {b c : Nat}

theorem one_get (hm : Mem own0 mt w0 ρ (fun i => [Blk.loc cs][i]?) w) (hp : ρ 0 = some (.blk b 0 c)) {off : Nat} {v : Value} (hv : cs[off]? = some (.v (.x v))) :
    w.cell? ⟨b, off, none⟩ = some v ∧ w.frozen? ⟨b, off, none⟩ = false := by
  obtain ⟨b', c', hp', vs, T, fr, hh, hf, ha⟩ := hm.blks 0 _ rfl
  rw [hp] at hp'; cases hp'
  obtain ⟨u, hu, hr⟩ := ha.get hv
  obtain ⟨rfl, _⟩ : u = v ∧ v.oneCell = true := rep_x (show RepD w _ ρ (.x v) u from hr)
  have hlt : off < vs.size := by
    have := (List.getElem?_eq_some_iff.1 hu).1
    simpa using this
  refine ⟨by simp [World.cell?, hh]; simpa using hu, ?_⟩
  have := hf.off off hlt
  simp only [World.frozen?, hh]
  simp only [Bool.and_eq_false_iff, decide_eq_false_iff_not, ge_iff_le, Bool.eq_false_iff]
  simp
  omega

theorem one_set (hm : Mem own0 mt w0 ρ (fun i => [Blk.loc cs][i]?) w) (hp : ρ 0 = some (.blk b 0 c)) (off : Nat) {v : Value} (hv : v.oneCell = true) :
    Mem own0 mt w0 ρ (fun i => [Blk.loc (cs.set off (.v (.x v)))][i]?) (w.setCell ⟨b, off, none⟩ v) := by
  obtain ⟨b', c', hp', vs, T, fr, hh, hf, ha⟩ := hm.blks 0 _ rfl
  rw [hp] at hp'; cases hp'
  rw [setCell_eq hh]
  have hlive : live ((fun i => [Blk.loc cs][i]?) 0) = true := rfl
  have h := (hm.write (blk := .loc (cs.set off (.v (.x v)))) hp hlive rfl (vs.setIfInBounds off v) T fr
    ⟨b, c, hp, _, T, fr, setBlk_heap_same (Array.getElem?_eq_some_iff.1 hh).1, hf.size (by simp), by
      rw [Array.toList_setIfInBounds]
      exact (all2_set (n := off) (a := C.v (.x v)) ha (show RepC w _ ρ (.v (.x v)) v from RepV.x v hv)).mono fun _ _ h => h.mono (Keep.setBlk (.inr ⟨0, _, _, hp, hlive⟩) _) (fun _ _ h => h) (.refl _)⟩).1
  have e : upd (fun i => [Blk.loc cs][i]?) 0 (some (Blk.loc (cs.set off (.v (.x v))))) = fun i => [Blk.loc (cs.set off (.v (.x v)))][i]? := by
    funext i
    cases i with
    | zero => rfl
    | succ i => simp [upd]
  rwa [e] at h

/-- A contract of a function that is handed one block: met in a later world. -/
theorem one_call {f : Nat} {args : List D} {val : D} {cs' : List C} {vs : List Value} (hc : ACall Try.prog f [.loc cs] args val [.loc cs']) (hm : Mem own0 (Hd ρ) w0 ρ (fun i => [Blk.loc cs][i]?) w) (hp : ρ 0 = some (.blk b 0 c))
    (ha : All2 (RepD w (Ow own0 ρ fun i => [Blk.loc cs][i]?) ρ) args vs) :
    Calls Try.prog f vs.toArray w fun e w' => ∃ u, e = .returned u ∧ RepD w' (Ow own0 ρ fun i => [Blk.loc cs'][i]?) ρ val u ∧ Mem own0 (Hd ρ) w0 ρ (fun i => [Blk.loc cs'][i]?) w' := by
  have hm1 : Mem own0 (Hd ρ) w ρ (fun i => [Blk.loc cs][i]?) w := { hm with
    fresh := fun i b c k h => ⟨.inr ⟨i, c, k, h⟩, (hm.fresh i b c k h).2⟩
    keep := KeepM.refl _ _
    own0 := fun b hb => Nat.lt_of_lt_of_le (hm.own0 b hb) hm.keep.size }
  refine (hc.2 own0 w ρ vs hm1 ha).mono ?_
  rintro e w' ⟨u, ρ', rfl, hs, hr, hm2⟩
  have e : ρ' = ρ := by
    funext i
    cases i with
    | zero => rw [hp]; exact hs _ _ hp
    | succ i => rw [hm.defd (i + 1) (by simp), hm2.defd (i + 1) (by simp)]
  subst e
  refine ⟨u, rfl, hr, { hm2 with
    fresh := fun i b c k h => ⟨(hm.fresh i b c k h).1, (hm2.fresh i b c k h).2⟩
    keep := hm.keep.trans hm2.keep
    own0 := hm.own0 }⟩
end one

abbrev tabC (d : Int) (s : Int) (i : Nat) : List C := .v (.x (.int .u32 d)) :: .v (.x (.int .i32 s)) :: .v (.x (.int .u32 0)) :: sumsAt i

theorem run_not (x : Bool) (w : World) : (Op.unary .not (.bool x)).run Try.prog w = .ok (.bool (!x)) w := rfl

set_option maxHeartbeats 1600000 in
/-- (*sync.Once).Do, not yet done, the lock free. -/
theorem do_first (b : Nat) (arg : Value) (Q : World → Prop) (w : World)
    (h0 : w.cell? ⟨b, 0, none⟩ = some (.int .u32 0)) (h1 : w.cell? ⟨b, 1, none⟩ = some (.int .i32 0))
    (f0 : w.frozen? ⟨b, 0, none⟩ = false) (f1 : w.frozen? ⟨b, 1, none⟩ = false)
    (hf : Calls Try.prog 64 #[arg] (w.setCell ⟨b, 1, none⟩ (.int .i32 1)) fun e w' => e = .returned (.tuple #[]) ∧ Q w')
    (hq0 : ∀ w', Q w' → w'.cell? ⟨b, 0, none⟩ = some (.int .u32 0)) (hq1 : ∀ w', Q w' → w'.cell? ⟨b, 1, none⟩ = some (.int .i32 1))
    (hq2 : ∀ w', Q w' → w'.frozen? ⟨b, 0, none⟩ = false) (hq3 : ∀ w', Q w' → w'.frozen? ⟨b, 1, none⟩ = false) :
    Calls Try.prog 63 #[.pointer (some ⟨b, 0, none⟩), .func (.func 64) #[arg] #[]] w fun e w' => e = .returned (.tuple #[]) ∧
      ∃ w1, Q w1 ∧ w' = (w1.drew.setCell ⟨b, 0, none⟩ (.int .u32 1)).setCell ⟨b, 1, none⟩ (.int .i32 0) := by
  have hl := run_call_load (P := Try.prog) Try.func67 (by kernel_rfl) (by kernel_rfl) (by kernel_rfl) .u32 (by kernel_rfl) h0
  have hnot := run_not
  go_enter Try.func63, Try.ntmps63
  go_wp2_with (first | (go_at_call 66; refine (Once.slow_any b 64 arg Q _ h0 h1 f0 f1 hf hq0 hq1 hq2 hq3).mono ?_; rintro e w' ⟨rfl, hQ⟩) | (go_at_call 65; go_in))
  go_end0
  exact ⟨rfl, hQ⟩

/-- (*sync.Once).Do, done already: the function is not called. -/
theorem do_done (a : Addr) (d : Int) (hd : ¬ d = 0) (fv : Value) (w : World) (h0 : w.cell? a = some (.int .u32 d)) :
    Calls Try.prog 63 #[.pointer (some a), fv] w fun e w' => e = .returned (.tuple #[]) ∧ w' = w := by
  have hl := run_call_load (P := Try.prog) Try.func67 (by kernel_rfl) (by kernel_rfl) (by kernel_rfl) .u32 (by kernel_rfl) h0
  have hnot := run_not
  have hd' : (d != 0) = true := by simp [hd]
  go_enter Try.func63, Try.ntmps63
  go_wp2
  go_end0
  exact ⟨rfl, rfl⟩

end Eng
end Go.Proofs.Ytgpjbcgbjpmgaaa
