/- num.Parse, a plain walk. -/
import Derived.Test.YtllfgnhnooonfaaDoorZ3
import Derived.Tactics
import Derived.Tactics2
import Derived.Lib.Walk
import Derived.Lib.Hide
import Derived.Laws.Strings3
import Derived.Laws.Closers25
import Derived.Laws.Closers25b
import Derived.WalkKit
import Derived.BigCall
import Derived.BigGuard
set_option autoImplicit false
set_option linter.unusedSimpArgs false
set_option linter.unusedVariables false
set_option maxRecDepth 100000
namespace Go.Proofs.YtllfgnhnooonfaaDoor
namespace Eng
open Go.RowKit
theorem parse_raw (l : List UInt8) (hl : l.length ≤ 20) (hd : l.all isD = true) (h0 : l ≠ []) (h48 : l.head? ≠ some 48) (hv : 18446744073709551615 < valA 0 l) (w : World) (hG : Glob (fun _ => False) w) :
    Calls Tryd.prog 16 #[.string (str l)] w fun e w' => e = .returned (.tuple #[.int .i64 0, .int .i64 9]) ∧ Below w.heap.size w w' := by
  have hcut : cutM l = (l, false) := by
    cases l with
    | nil => exact absurd rfl h0
    | cons c r =>
      rw [cutM, if_neg]
      rintro rfl
      rw [List.all_cons] at hd
      simp [isD] at hd
  have h24 : ∀ w, Glob (fun _ => False) w → Calls Tryd.prog 24 #[.string (str l), .string (str [45])] w fun e w' => e = .returned (.tuple #[.string (str l), .bool false]) ∧ Below w.heap.size w w' := fun w hG => by
    refine (raw_call (vs := [.string (str l), .string (str [45])]) (cut24_c l (by omega)) hG fun ow ρ => ⟨RepV.x _ rfl, RepV.x _ rfl, trivial⟩).mono ?_
    rintro e w' ⟨u, ow, ρ, rfl, hb, us, rfl, hu⟩
    rw [hcut] at hu
    match us, hu with
    | [a, b], ⟨h1, h2, _⟩ =>
      obtain ⟨rfl, _⟩ := rep_x (v := .string (str l)) h1
      obtain ⟨rfl, _⟩ := rep_x (v := .bool false) h2
      exact ⟨rfl, hb⟩
  obtain ⟨tp, pp, herr⟩ := glob_err hG
  have hlen : l.length ≠ 0 := fun h => h0 (List.eq_nil_of_length_eq_zero h)
  have hne : l.isEmpty = false := by cases l with
    | nil => exact absurd rfl h0
    | cons c r => rfl
  have h25 : ∀ w1, Below w.heap.size w w1 → Calls Tryd.prog 25 #[.string (str l), .int .i64 10, .int .i64 64] w1 fun e w' => (∃ N, e = .returned (.tuple #[.int .u64 18446744073709551615, .iface 59 (.pointer (some ⟨N, 0, none⟩))])) ∧ Below w1.heap.size w1 w' := fun w1 hb => by
    have hp : Lib.parseUintB 64 (str l).data.toList = .range := by
      rw [show (str l).data.toList = l from rfl, parseB_digits h0 hd, if_neg (by omega)]
    have hlt : 1 < w.heap.size := Lib.lt_of_cell herr
    have hcell : w1.cell? ⟨1, 0, none⟩ = some (.iface tp pp) := (hb.cell (show (⟨1, 0, none⟩ : Addr).block < w.heap.size from hlt)).trans herr
    refine (Any.strconv_ParseUint_10_at64_range layPu (str l) (by rw [str_size]; omega) hp (.iface tp pp) w1 hcell (.inr ⟨_, _, rfl⟩)).mono ?_
    rintro e w' ⟨N, rfl, _, _, h⟩
    exact ⟨⟨N, rfl⟩, h⟩
  have hbyte : ∀ k (h : k < l.length), 48 ≤ (l[k]'h).toNat ∧ (l[k]'h).toNat ≤ 57 := fun k h => of_decide_eq_true (List.all_eq_true.1 hd _ (List.getElem_mem h))
  have hb0 : ¬ (((str l)[0]'(by rw [str_size]; omega)).toNat : Int) = 48 := fun e => by
    apply h48
    cases l with
    | nil => exact absurd rfl h0
    | cons c r =>
      have e2 : c.toNat = 48 := by exact_mod_cast e
      rw [List.head?_cons, UInt8.toNat_inj.1 (show c.toNat = (48 : UInt8).toNat from e2)]
  go_enter Tryd.func16, Tryd.ntmps16
  go_wp2_with (first | (go_at_call 24; refine (h24 _ hG).mono ?_; rintro e w1 ⟨rfl, hb1⟩))
  all_goals try (exfalso; first | omega | contradiction | (simp_all; done))
  go_loop [34] (fun vi => ∃ k : Nat, vi = .int .i64 k ∧ k ≤ l.length) (fun vi => l.length - (Go.RowKit.intOf vi).toNat)
  case atStart => exact ⟨0, rfl, by omega⟩
  case round =>
    obtain ⟨k, rfl, hk⟩ := hrel
    by_cases hkn : k < l.length
    · have hbk : 48 ≤ (((str l)[k]'(by rw [str_size]; exact hkn)).toNat : Int) ∧ (((str l)[k]'(by rw [str_size]; exact hkn)).toNat : Int) ≤ 57 := by
        have h := hbyte k hkn
        have e : (str l)[k]'(by rw [str_size]; exact hkn) = l[k]'hkn := rfl
        rw [e]; omega
      go_wp2
      all_goals first | (exfalso; omega) | exact ⟨⟨k + 1, rfl, by omega⟩, by simp [intOf]; omega⟩
    · obtain rfl : k = l.length := by omega
      go_wp2_with (go_at_call 25; refine (h25 _ hb1).mono ?_; rintro e w2 ⟨⟨N, rfl⟩, hb2⟩)
      go_ret2
      exact ⟨rfl, hb1.trans (hb2.mono hb1.size)⟩
end Eng
end Go.Proofs.YtllfgnhnooonfaaDoor
