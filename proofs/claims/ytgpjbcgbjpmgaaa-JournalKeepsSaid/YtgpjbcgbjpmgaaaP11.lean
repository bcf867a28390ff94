/- The plain law of journals, whichever of the two files goes on: Add, Sync, Rotate, Crash, Open. -/
import Derived.Test.YtgpjbcgbjpmgaaaJ5
import Derived.Test.YtgpjbcgbjpmgaaaP10
set_option autoImplicit false
set_option linter.unusedSimpArgs false
set_option linter.unusedVariables false
set_option maxRecDepth 100000
namespace Go.Proofs.Ytgpjbcgbjpmgaaa
namespace Eng
/-- A journal whose file of now is (c1, c2) and whose other one is (o1, o2). -/
abbrev jP (at_ : Int) (c1 c2 o1 o2 : List Int) (g : Int) : List C := jA (pl at_ c1 o1) (pl at_ c2 o2) (pl at_ o1 c1) (pl at_ o2 c2) at_ g
theorem addP (at_ : Int) (c1 c2 o1 o2 : List Int) (g : Int) (b : List Int) (ha : at_ = 0 ∨ at_ = 1) (hc : c1.length + c2.length + (6 + b.length) ≤ 65536) (ho : o1.length + o2.length ≤ 65536) (hg : 1 ≤ g) (hg2 : g ≤ 4611686018427387904) (hb : 1 ≤ b.length) (hb2 : b.length ≤ 4000) :
    ACall Try.prog 47 [] [.e (.a (jP at_ c1 c2 o1 o2 g)), SB b] (jE (jP at_ c1 (c2 ++ put b) o1 o2 g) 0) [] := by
  rcases ha with rfl | rfl
  · exact add0_c c1 c2 o1 o2 g b ⟨by omega, by omega⟩ hg hg2 hb hb2 hc
  · exact add1_c o1 o2 c1 c2 g b ⟨by omega, by omega⟩ hg hg2 hb hb2 hc
theorem addBadP (at_ : Int) (c1 c2 o1 o2 : List Int) (g : Int) (b : List Int) (ha : at_ = 0 ∨ at_ = 1) (hc : c1.length + c2.length ≤ 65536) (ho : o1.length + o2.length ≤ 65536) (hg : 1 ≤ g) (hg2 : g ≤ 4611686018427387904) (hb : b.length < 1) :
    ACall Try.prog 47 [] [.e (.a (jP at_ c1 c2 o1 o2 g)), SB b] (jE (jP at_ c1 c2 o1 o2 g) 1) [] := by
  rcases ha with rfl | rfl
  · exact addBad_c c1 c2 o1 o2 0 g b ⟨by omega, by omega⟩ (.inl rfl) hg hg2 hb
  · exact addBad_c o1 o2 c1 c2 1 g b ⟨by omega, by omega⟩ (.inr rfl) hg hg2 hb
theorem syncP (at_ : Int) (c1 c2 o1 o2 : List Int) (g : Int) (ha : at_ = 0 ∨ at_ = 1) (hc : c1.length + c2.length ≤ 65536) (ho : o1.length + o2.length ≤ 65536) (hg : 1 ≤ g) (hg2 : g ≤ 4611686018427387904) :
    ACall Try.prog 48 [] [.e (.a (jP at_ c1 c2 o1 o2 g))] (jE (jP at_ (c1 ++ c2) [] o1 o2 g) 0) [] := by
  rcases ha with rfl | rfl
  · exact syncJ0_c c1 c2 o1 o2 g ⟨by omega, by omega⟩ hg hg2
  · exact syncJ1_c o1 o2 c1 c2 g ⟨by omega, by omega⟩ hg hg2
theorem rotP (at_ : Int) (c1 c2 o1 o2 : List Int) (g : Int) (snap : List Int) (ha : at_ = 0 ∨ at_ = 1) (hc : c1.length + c2.length ≤ 65536) (ho : o1.length + o2.length ≤ 65536) (hg : 1 ≤ g) (hg2 : g < 4611686018427387904) (hs : snap.length ≤ 4000) :
    ACall Try.prog 49 [] [.e (.a (jP at_ c1 c2 o1 o2 g)), SB snap] (jE (jP (1 - at_) (put (first (g + 1) snap)) [] c1 c2 (g + 1)) 0) [] := by
  rcases ha with rfl | rfl
  · exact rotate0_c c1 c2 o1 o2 g snap ⟨by omega, by omega⟩ hg hg2 hs
  · exact rotate1_c o1 o2 c1 c2 g snap ⟨by omega, by omega⟩ hg hg2 hs
abbrev dP (at_ : Int) (c1 c2 o1 o2 : List Int) : D := diskD (pl at_ c1 o1) (pl at_ c2 o2) (pl at_ o1 c1) (pl at_ o2 c2)
theorem crashP (at_ : Int) (c1 c2 o1 o2 : List Int) (g : Int) (k : Int) (ha : at_ = 0 ∨ at_ = 1) (hc : c1.length + c2.length ≤ 65536) (ho : o1.length + o2.length ≤ 65536) :
    ACall Try.prog 50 [] [.e (.a (jP at_ c1 c2 o1 o2 g)), keepD k k] (dP at_ (c1 ++ c2.take (keepN k c2.length).toNat) [] (o1 ++ o2.take (keepN k o2.length).toNat) []) [] := by
  rcases ha with rfl | rfl
  · exact crashJ_c c1 c2 o1 o2 0 g k k ⟨by omega, by omega⟩
  · exact crashJ_c o1 o2 c1 c2 1 g k k ⟨by omega, by omega⟩
/-- The other file is none, or an older one. -/
def Older (g : Int) (b : List Int) : Prop := lookF b = none ∨ ∃ q, lookF b = some q ∧ q.1 < g
theorem openP (at_ : Int) (c1 c2 o1 o2 : List Int) (g : Int) (sn : List Int) (en : List (List Int)) (lg : Nat) (ha : at_ = 0 ∨ at_ = 1) (hc : c1.length + c2.length ≤ 65536) (ho : o1.length + o2.length ≤ 65536) (hl : lookF (c1 ++ c2) = some (g, sn, en, lg)) (hold : Older g (o1 ++ o2)) (hbc : Byt (c1 ++ c2)) (hbo : Byt (o1 ++ o2)) :
    ACall Try.prog 45 [] [dP at_ c1 c2 o1 o2] (resO (jP at_ ((c1 ++ c2).take lg) [] o1 o2 g) sn en) [] := by
  rcases ha with rfl | rfl
  · have := open_wins 0 c1 c2 o1 o2 g sn en lg (.inl ⟨rfl, hl, hold.imp id fun ⟨q, h1, h2⟩ => ⟨q, h1, Int.le_of_lt h2⟩⟩) hbc hbo ⟨by omega, by omega⟩
    simp only [pl0] at this
    exact this
  · have := open_wins 1 o1 o2 c1 c2 g sn en lg (.inr ⟨rfl, hl, hold⟩) hbo hbc ⟨by omega, by omega⟩
    simp only [pl1] at this
    exact this
/-- A file of a generation: its snapshot, and entries of which the first ones are synced. -/
def c1F (g : Int) (snap : List Int) (ents : List (List Int)) (safe : Nat) : List Int := put (first g snap) ++ (puts (ents.take safe)).flatten
def c2F (ents : List (List Int)) (safe : Nat) : List Int := (puts (ents.drop safe)).flatten
def okE (ents : List (List Int)) : Prop := ∀ r, r ∈ ents → Byt r ∧ 1 ≤ r.length ∧ r.length ≤ 60
theorem flat_len (es : List (List Int)) (h : okE es) : (puts es).flatten.length ≤ 66 * es.length := by
  induction es with
  | nil => simp
  | cons e es ih =>
    have h1 := h e (List.mem_cons_self ..)
    have := ih fun r hr => h r (List.mem_cons_of_mem _ hr)
    rw [show (puts (e :: es)).flatten = put e ++ (puts es).flatten by simp, List.length_append, put_len, List.length_cons]
    omega
theorem okE_take {es : List (List Int)} (h : okE es) (n : Nat) : okE (es.take n) := fun r hr => h r (List.mem_of_mem_take hr)
theorem okE_drop {es : List (List Int)} (h : okE es) (n : Nat) : okE (es.drop n) := fun r hr => h r (List.mem_of_mem_drop hr)
theorem c1_len (g : Int) (snap : List Int) (ents : List (List Int)) (safe : Nat) (h : okE ents) (hs : safe ≤ ents.length) : (c1F g snap ents safe).length ≤ 15 + snap.length + 66 * safe := by
  have := flat_len _ (okE_take h safe)
  rw [List.length_take] at this
  rw [c1F, List.length_append, put_len, first_len]
  omega
theorem c2_len (ents : List (List Int)) (safe : Nat) (h : okE ents) : (c2F ents safe).length ≤ 66 * (ents.length - safe) := by
  have := flat_len _ (okE_drop h safe)
  rw [List.length_drop] at this
  exact this
theorem okE_mem {es : List (List Int)} (h : okE es) : ∀ r, r ∈ es → 1 ≤ r.length ∧ r.length ≤ 4096 := fun r hr => by have := h r hr; omega
theorem all_flat {es : List (List Int)} (h : okE es) : all (puts es).flatten = (es, (puts es).flatten.length) := by
  have := all_puts es [] (okE_mem h)
  rw [List.append_nil, all_nil, List.append_nil, Nat.add_zero] at this
  exact this
theorem byt_flat {es : List (List Int)} (h : okE es) : Byt (puts es).flatten := byt_puts es fun r hr => (h r hr).1
theorem c1_look (g : Int) (snap : List Int) (ents : List (List Int)) (safe : Nat) (h : okE ents) (hg : 1 ≤ g) (hg2 : g ≤ 4611686018427387904) (hs : snap.length ≤ 60) : lookF (c1F g snap ents safe) = some (g, snap, ents.take safe, (c1F g snap ents safe).length) := by
  have h1 := look_first g snap hg hg2 (by omega)
  have := look_add h1 (all_flat (okE_take h safe))
  rw [List.nil_append, ← List.length_append] at this
  exact this
theorem c1_byt (g : Int) (snap : List Int) (ents : List (List Int)) (safe : Nat) (h : okE ents) (hs : Byt snap) : Byt (c1F g snap ents safe) :=
  byt_app (byt_put (byt_first g snap hs)) (byt_flat (okE_take h safe))
theorem c2_byt (ents : List (List Int)) (safe : Nat) (h : okE ents) : Byt (c2F ents safe) := byt_flat (okE_drop h safe)
theorem whole_ex (es : List (List Int)) (k n : Nat) (hn : n ≤ es.length) : ∃ w, w ≤ n ∧ tot (puts es) w ≤ k ∧ (w < n → k < tot (puts es) (w + 1)) := by
  induction n with
  | zero => exact ⟨0, Nat.le_refl _, Nat.zero_le _, fun h => absurd h (Nat.not_lt_zero _)⟩
  | succ n ih =>
    obtain ⟨w, h1, h2, h3⟩ := ih (by omega)
    by_cases hw : w < n
    · exact ⟨w, by omega, h2, fun _ => h3 hw⟩
    · obtain rfl : w = n := by omega
      by_cases hk : k < tot (puts es) (w + 1)
      · exact ⟨w, by omega, h2, fun _ => hk⟩
      · exact ⟨w + 1, Nat.le_refl _, by omega, fun h => absurd h (Nat.lt_irrefl _)⟩
theorem take_sum (ents : List (List Int)) (safe w : Nat) (hs : safe ≤ ents.length) : ents.take safe ++ (ents.drop safe).take w = ents.take (safe + w) := by
  rw [List.take_add]
/-- Behind a crash: what was synced, and the first ones of those behind it. -/
theorem crash_look (g : Int) (snap : List Int) (ents : List (List Int)) (safe k : Nat) (h : okE ents) (hg : 1 ≤ g) (hg2 : g ≤ 4611686018427387904) (hs : snap.length ≤ 60) (hsf : safe ≤ ents.length) (hk : k ≤ (c2F ents safe).length) :
    ∃ n lg, safe ≤ n ∧ n ≤ ents.length ∧ lookF (c1F g snap ents safe ++ (c2F ents safe).take k) = some (g, snap, ents.take n, lg) ∧ (c1F g snap ents safe ++ (c2F ents safe).take k).take lg = c1F g snap (ents.take n) n := by
  obtain ⟨w, h1, h2, h3⟩ := whole_ex (ents.drop safe) k (ents.drop safe).length (Nat.le_refl _)
  have hcut := all_cut (ents.drop safe) w k (okE_mem (okE_drop h safe)) h1 h2 h3 hk
  have hl := look_add (c1_look g snap ents safe h hg hg2 hs) hcut
  rw [List.length_drop] at h1
  rw [take_sum ents safe w hsf] at hl
  refine ⟨safe + w, _, by omega, by omega, hl, ?_⟩
  rw [List.take_length_add_append, List.take_take, Nat.min_eq_left h2]
  have e : (c2F ents safe).take (tot (puts (ents.drop safe)) w) = (puts ((ents.drop safe).take w)).flatten := by
    have hsplit : c2F ents safe = (puts ((ents.drop safe).take w)).flatten ++ (puts ((ents.drop safe).drop w)).flatten := by
      rw [← List.flatten_append, ← List.map_append, List.take_append_drop]; rfl
    have ht : tot (puts (ents.drop safe)) w = (puts ((ents.drop safe).take w)).flatten.length := by rw [tot, puts, puts, List.map_take]
    rw [hsplit, ht, List.take_left]
  rw [e, c1F, c1F, List.append_assoc, ← List.flatten_append, ← List.map_append, take_sum ents safe w hsf, List.take_take, Nat.min_self]
theorem older_cur (g : Int) (snap : List Int) (ents : List (List Int)) (safe : Nat) (h : okE ents) (hg : 1 ≤ g) (hg2 : g ≤ 4611686018427387904) (hs : snap.length ≤ 60) (hsf : safe ≤ ents.length) (m : Nat) : Older (g + 1) (c1F g snap ents safe ++ (c2F ents safe).take m) := by
  rcases Nat.le_total m (c2F ents safe).length with hm | hm
  · obtain ⟨n, lg, _, _, hl, _⟩ := crash_look g snap ents safe m h hg hg2 hs hsf hm
    exact .inr ⟨_, hl, by dsimp only; omega⟩
  · rw [List.take_of_length_le hm]
    obtain ⟨n, lg, _, _, hl, _⟩ := crash_look g snap ents safe _ h hg hg2 hs hsf (Nat.le_refl _)
    rw [List.take_length] at hl
    exact .inr ⟨_, hl, by dsimp only; omega⟩
end Eng
end Go.Proofs.Ytgpjbcgbjpmgaaa
