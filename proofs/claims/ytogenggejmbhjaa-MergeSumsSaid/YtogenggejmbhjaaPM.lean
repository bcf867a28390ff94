/- All positions of one name together, plainly: what merge.All tells, and what the laws want of it. -/
import Derived.Test.YtogenggejmbhjaaQ9
import Derived.Test.YtogenggejmbhjaaS3
set_option autoImplicit false
set_option linter.unusedSimpArgs false
set_option linter.unusedVariables false
namespace Go.Proofs.Ytogenggejmbhjaa
namespace Eng
theorem cmpP_congr {a b c : Pos} (h1 : a.acc = b.acc) (h2 : a.sym = b.sym) : cmpP a c = cmpP b c := by unfold cmpP; rw [h1, h2]
def nm (a s : ByteArray) (x : Pos) : Bool := (x.acc.data.toList == a.data.toList) && (x.sym.data.toList == s.data.toList)
theorem nm_iff {a s : ByteArray} {x : Pos} : nm a s x = true ↔ x.acc = a ∧ x.sym = s := by
  rw [nm, Bool.and_eq_true, beq_iff_eq, beq_iff_eq]
  exact ⟨fun h => ⟨ba_eq h.1, ba_eq h.2⟩, fun h => by rw [h.1, h.2]; exact ⟨rfl, rfl⟩⟩
theorem nm_self (x : Pos) : nm x.acc x.sym x = true := nm_iff.2 ⟨rfl, rfl⟩
theorem nm_cmp {x y : Pos} : nm x.acc x.sym y = true ↔ cmpP x y = 0 := by
  rw [nm_iff, cmpP_eq]
  exact ⟨fun h => ⟨h.1.symm, h.2.symm⟩, fun h => ⟨h.1.symm, h.2.symm⟩⟩
/-- Sums. -/
theorem foldl_sum : ∀ (l : List Int) (a : Int), l.foldl (· + ·) a = a + l.sum
  | [], a => by simp
  | x :: l, a => by rw [List.foldl_cons, foldl_sum l, List.sum_cons]; omega
theorem sumS_yes {l : List Int} (h1 : ∀ x, x ∈ l → okN x) (h2 : okN l.sum) : sumS l = (l.sum, true) := by
  have e : sumT l l.length = l.sum := by rw [sumT, List.take_length, foldl_sum]; omega
  rw [sumS, e, if_pos]
  exact ⟨fun j hj => h1 _ (by rw [List.getD_eq_getElem?_getD, List.getElem?_eq_getElem hj]; exact List.getElem_mem hj), h2⟩
theorem sumS_no {l : List Int} (h : ¬ ((∀ x, x ∈ l → okN x) ∧ okN l.sum)) : sumS l = (0, false) := by
  have e : sumT l l.length = l.sum := by rw [sumT, List.take_length, foldl_sum]; omega
  rw [sumS, e, if_neg]
  rintro ⟨h1, h2⟩
  refine h ⟨fun x hx => ?_, h2⟩
  obtain ⟨j, hj, rfl⟩ := List.getElem_of_mem hx
  have := h1 j hj
  rw [List.getD_eq_getElem?_getD, List.getElem?_eq_getElem hj] at this
  exact this
theorem sum_perm {l m : List Int} (h : l.Perm m) : l.sum = m.sum := by
  induction h with
  | nil => rfl
  | cons x _ ih => rw [List.sum_cons, List.sum_cons, ih]
  | swap x y l => rw [List.sum_cons, List.sum_cons, List.sum_cons, List.sum_cons]; omega
  | trans _ _ ih1 ih2 => rw [ih1, ih2]
theorem sumS_perm {l m : List Int} (h : l.Perm m) : sumS l = sumS m := by
  by_cases hl : (∀ x, x ∈ l → okN x) ∧ okN l.sum
  · rw [sumS_yes hl.1 hl.2, sumS_yes (fun x hx => hl.1 x (h.mem_iff.2 hx)) (by rw [← sum_perm h]; exact hl.2), sum_perm h]
  · rw [sumS_no hl, sumS_no]
    rintro ⟨h1, h2⟩
    exact hl ⟨fun x hx => h1 x (h.mem_iff.1 hx), by rw [sum_perm h]; exact h2⟩
/-- Positions of one name together. -/
def anyO (l : List Pos) : Bool := l.any (fun x => x.over)
noncomputable def togP (a s : ByteArray) (l : List Pos) : Pos :=
  if anyO l = false ∧ (sumS (l.map (fun x => x.qty))).2 = true ∧ (sumS (l.map (fun x => x.value))).2 = true then ⟨a, s, (sumS (l.map (fun x => x.qty))).1, (sumS (l.map (fun x => x.value))).1, false⟩ else ⟨a, s, 0, 0, true⟩
theorem togP_acc (a s : ByteArray) (l : List Pos) : (togP a s l).acc = a := by unfold togP; split <;> rfl
theorem togP_sym (a s : ByteArray) (l : List Pos) : (togP a s l).sym = s := by unfold togP; split <;> rfl
theorem anyO_perm {l m : List Pos} (h : l.Perm m) : anyO l = anyO m := by
  unfold anyO
  rw [Bool.eq_iff_iff, List.any_eq_true, List.any_eq_true]
  exact ⟨fun ⟨x, h1, h2⟩ => ⟨x, h.mem_iff.1 h1, h2⟩, fun ⟨x, h1, h2⟩ => ⟨x, h.mem_iff.2 h1, h2⟩⟩
theorem togP_perm {l m : List Pos} (a s : ByteArray) (h : l.Perm m) : togP a s l = togP a s m := by
  unfold togP
  rw [anyO_perm h, sumS_perm (h.map fun x => x.qty), sumS_perm (h.map fun x => x.value)]
theorem togP_over {a s : ByteArray} {l : List Pos} (h : anyO l = true) : togP a s l = ⟨a, s, 0, 0, true⟩ := by
  unfold togP; rw [if_neg]; rintro ⟨h1, _⟩; rw [h] at h1; cases h1
theorem togP_over' {a s : ByteArray} {l : List Pos} {x : Pos} (hx : x ∈ l) (h : x.over = true) : (togP a s l).over = true := by
  rw [togP_over (List.any_eq_true.2 ⟨x, hx, h⟩)]
/-- A position is right. -/
def goodP (p : Pos) : Prop := okN p.qty ∧ okN p.value ∧ (p.over = true → p.qty = 0 ∧ p.value = 0)
theorem okN0 : okN 0 := by unfold okN; omega
theorem sumS_ok (l : List Int) : okN (sumS l).1 := by
  by_cases hl : (∀ x, x ∈ l → okN x) ∧ okN l.sum
  · rw [sumS_yes hl.1 hl.2]; exact hl.2
  · rw [sumS_no hl]; exact okN0
theorem togP_good (a s : ByteArray) (l : List Pos) : goodP (togP a s l) := by
  unfold togP
  split
  · exact ⟨sumS_ok _, sumS_ok _, fun h => by cases h⟩
  · exact ⟨okN0, okN0, fun _ => ⟨rfl, rfl⟩⟩
theorem sumS_one {n : Int} (h : okN n) : sumS [n] = (n, true) := by
  rw [sumS_yes (fun x hx => by rw [List.mem_singleton.1 hx]; exact h) (by rw [List.sum_cons, List.sum_nil, Int.add_zero]; exact h), List.sum_cons, List.sum_nil, Int.add_zero]
theorem togP_one {p : Pos} (h : goodP p) : togP p.acc p.sym [p] = p := by
  obtain ⟨a, s, q, v, o⟩ := p
  obtain ⟨h1, h2, h3⟩ := h
  cases o with
  | true =>
    obtain ⟨e1, e2⟩ := h3 rfl
    dsimp only at e1 e2
    rw [togP_over rfl, e1, e2]
  | false =>
    unfold togP
    simp only [List.map_cons, List.map_nil, sumS_one h1, sumS_one h2]
    rw [if_pos ⟨rfl, trivial, trivial⟩]
/-- All of a list of positions together. -/
structure IsAll (F out : List Pos) : Prop where
  so : out.Pairwise fun x y => cmpP x y < 0
  val : ∀ p, p ∈ out → p = togP p.acc p.sym (F.filter (nm p.acc p.sym))
  cov : ∀ x, x ∈ F → ∃ p, p ∈ out ∧ nm x.acc x.sym p = true
  inc : ∀ p, p ∈ out → ∃ x, x ∈ F ∧ nm p.acc p.sym x = true
theorem cmpP_irr {x y : Pos} (h1 : cmpP x y < 0) (h2 : cmpP y x < 0) : False := by
  have := cmpP_swap x y; omega
theorem sorted_ext : ∀ (l m : List Pos), l.Pairwise (fun x y => cmpP x y < 0) → m.Pairwise (fun x y => cmpP x y < 0) → (∀ x, x ∈ l ↔ x ∈ m) → l = m
  | [], [], _, _, _ => rfl
  | [], b :: m, _, _, h => absurd ((h b).2 (List.mem_cons_self ..)) (List.not_mem_nil)
  | a :: l, [], _, _, h => absurd ((h a).1 (List.mem_cons_self ..)) (List.not_mem_nil)
  | a :: l, b :: m, h1, h2, h => by
    rw [List.pairwise_cons] at h1 h2
    have e : a = b := by
      rcases List.mem_cons.1 ((h a).1 (List.mem_cons_self ..)) with e | e
      · exact e
      · rcases List.mem_cons.1 ((h b).2 (List.mem_cons_self ..)) with e2 | e2
        · exact e2.symm
        · exact (cmpP_irr (h1.1 b e2) (h2.1 a e)).elim
    subst e
    have irr : ¬ cmpP a a < 0 := fun hh => cmpP_irr hh hh
    rw [sorted_ext l m h1.2 h2.2 fun x => ⟨fun hx => by
      rcases List.mem_cons.1 ((h x).1 (List.mem_cons_of_mem _ hx)) with e | e
      · subst e; exact absurd (h1.1 x hx) irr
      · exact e, fun hx => by
      rcases List.mem_cons.1 ((h x).2 (List.mem_cons_of_mem _ hx)) with e | e
      · subst e; exact absurd (h2.1 x hx) irr
      · exact e⟩]
theorem IsAll.mem {F G out res : List Pos} (h1 : IsAll F out) (h2 : IsAll G res) (hv : ∀ a s, togP a s (F.filter (nm a s)) = togP a s (G.filter (nm a s))) (hm : ∀ x, x ∈ F → ∃ y, y ∈ G ∧ nm x.acc x.sym y = true) : ∀ x, x ∈ out → x ∈ res := fun x hx => by
  obtain ⟨y, hy, e⟩ := h1.inc x hx
  obtain ⟨z, hz, e2⟩ := hm y hy
  obtain ⟨p, hp, e3⟩ := h2.cov z hz
  obtain ⟨a1, a2⟩ := nm_iff.1 e
  obtain ⟨b1, b2⟩ := nm_iff.1 e2
  obtain ⟨c1, c2⟩ := nm_iff.1 e3
  have : p = x := by
    rw [h2.val p hp, h1.val x hx, c1, c2, b1, b2, a1, a2]
    exact (hv _ _).symm
  rw [← this]; exact hp
theorem IsAll.uniq {F G out res : List Pos} (h1 : IsAll F out) (h2 : IsAll G res) (hv : ∀ a s, togP a s (F.filter (nm a s)) = togP a s (G.filter (nm a s))) (hm : ∀ x, x ∈ F → ∃ y, y ∈ G ∧ nm x.acc x.sym y = true) (hm2 : ∀ x, x ∈ G → ∃ y, y ∈ F ∧ nm x.acc x.sym y = true) : out = res :=
  sorted_ext _ _ h1.so h2.so fun _ => ⟨h1.mem h2 hv hm _, h2.mem h1 (fun a s => (hv a s).symm) hm2 _⟩
theorem IsAll.perm {F G out : List Pos} (h : IsAll F out) (hp : F.Perm G) : IsAll G out :=
  ⟨h.so, fun p hp' => by rw [← togP_perm _ _ (hp.filter _)]; exact h.val p hp', fun x hx => h.cov x (hp.mem_iff.2 hx), fun p hp' => by
    obtain ⟨x, h1, h2⟩ := h.inc p hp'
    exact ⟨x, hp.mem_iff.1 h1, h2⟩⟩
theorem IsAll.det {F G out res : List Pos} (h1 : IsAll F out) (h2 : IsAll G res) (hp : F.Perm G) : out = res :=
  h1.uniq h2 (fun a s => togP_perm _ _ (hp.filter _)) (fun x hx => ⟨x, hp.mem_iff.1 hx, nm_self x⟩) (fun x hx => ⟨x, hp.mem_iff.2 hx, nm_self x⟩)
/-- Groups of a sorted list. -/
noncomputable def grpF : List Pos → List Pos
  | [] => []
  | x :: l => togP x.acc x.sym (x :: l.takeWhile (nm x.acc x.sym)) :: grpF (l.dropWhile (nm x.acc x.sym))
termination_by l => l.length
decreasing_by
  have := (List.dropWhile_sublist (nm x.acc x.sym) (l := l)).length_le
  simp only [List.length_cons]; omega
theorem cmpP_lt_le {x y z : Pos} (h1 : cmpP x y < 0) (h2 : leP y z) : cmpP x z < 0 := by
  have := cmpP_swap z x
  by_cases h : cmpP y z = 0
  · have e := leP_trans (lt_le h1) h2
    unfold leP at e
    by_cases h0 : cmpP x z = 0
    · obtain ⟨a, b⟩ := cmpP_eq.1 h
      obtain ⟨c, d⟩ := cmpP_eq.1 h0
      have : cmpP x y = 0 := cmpP_eq.2 ⟨by rw [c, a], by rw [d, b]⟩
      omega
    · omega
  · unfold leP at h2
    exact cmpP_trans h1 (by omega)
theorem drop_gt : ∀ (x : Pos) (l : List Pos), (x :: l).Pairwise leP → ∀ y, y ∈ l.dropWhile (nm x.acc x.sym) → cmpP x y < 0
  | x, [], _, y, hy => absurd hy (by simp)
  | x, z :: l, h, y, hy => by
    rw [List.pairwise_cons, List.pairwise_cons] at h
    rw [List.dropWhile_cons] at hy
    split at hy
    · exact drop_gt x l (List.pairwise_cons.2 ⟨fun w hw => h.1 w (List.mem_cons_of_mem _ hw), h.2.2⟩) y hy
    · rename_i hne
      have hxz : cmpP x z < 0 := by
        have h1 := h.1 z (List.mem_cons_self ..)
        unfold leP at h1
        have h2 : cmpP x z ≠ 0 := fun h0 => hne (nm_cmp.2 h0)
        omega
      rcases List.mem_cons.1 hy with rfl | hy
      · exact hxz
      · exact cmpP_lt_le hxz (h.2.1 y hy)
theorem filter_none {a s : ByteArray} {l : List Pos} (h : ∀ y, y ∈ l → nm a s y = false) : l.filter (nm a s) = [] := by
  rw [List.filter_eq_nil_iff]; intro y hy; rw [h y hy]; decide
theorem mem_takeW {f : Pos → Bool} : ∀ {l : List Pos} {y : Pos}, y ∈ l.takeWhile f → f y = true
  | [], y, h => absurd h (by simp)
  | x :: l, y, h => by
    rw [List.takeWhile_cons] at h
    split at h
    · rename_i hx
      rcases List.mem_cons.1 h with rfl | h
      · exact hx
      · exact mem_takeW h
    · exact absurd h (by simp)
theorem grpF_all : ∀ (n : Nat) (l : List Pos), l.length ≤ n → l.Pairwise leP → IsAll l (grpF l) := by
  intro n
  induction n with
  | zero =>
    intro l hl _
    obtain rfl : l = [] := List.eq_nil_of_length_eq_zero (by omega)
    rw [grpF]
    exact ⟨.nil, fun p hp => absurd hp (by simp), fun x hx => absurd hx (by simp), fun p hp => absurd hp (by simp)⟩
  | succ n ih =>
    intro l hl hs
    cases l with
    | nil => rw [grpF]; exact ⟨.nil, fun p hp => absurd hp (by simp), fun x hx => absurd hx (by simp), fun p hp => absurd hp (by simp)⟩
    | cons x l =>
      rw [grpF]
      have hgt := drop_gt x l hs
      have hsplit : l = l.takeWhile (nm x.acc x.sym) ++ l.dropWhile (nm x.acc x.sym) := (List.takeWhile_append_dropWhile ..).symm
      have htw : ∀ y, y ∈ l.takeWhile (nm x.acc x.sym) → nm x.acc x.sym y = true := fun y hy => mem_takeW hy
      have hlen := (List.dropWhile_sublist (nm x.acc x.sym) (l := l)).length_le
      have hso : (l.dropWhile (nm x.acc x.sym)).Pairwise leP := List.Pairwise.sublist (List.dropWhile_sublist _) (List.pairwise_cons.1 hs).2
      simp only [List.length_cons] at hl
      have ia := ih (l.dropWhile (nm x.acc x.sym)) (by omega) hso
      generalize l.takeWhile (nm x.acc x.sym) = T at *
      generalize l.dropWhile (nm x.acc x.sym) = R at *
      subst hsplit
      have hout : ∀ p, p ∈ grpF R → cmpP x p < 0 := fun p hp => by
        obtain ⟨y, hy, e⟩ := ia.inc p hp
        have h1 := hgt y hy
        obtain ⟨a, b⟩ := nm_iff.1 e
        rw [cmpP_swap] at h1 ⊢
        rw [cmpP_congr (a := p) (b := y) a.symm b.symm]
        exact h1
      have fx : (x :: (T ++ R)).filter (nm x.acc x.sym) = x :: T := by
        rw [List.filter_cons, if_pos (nm_self x), List.filter_append, List.filter_eq_self.2 htw, filter_none, List.append_nil]
        intro y hy
        cases e : nm x.acc x.sym y with
        | false => rfl
        | true => have := hgt y hy; rw [nm_cmp.1 e] at this; omega
      have fp : ∀ p, p ∈ grpF R → (x :: (T ++ R)).filter (nm p.acc p.sym) = R.filter (nm p.acc p.sym) := fun p hp => by
        have hno : ∀ y, y ∈ x :: T → nm p.acc p.sym y = false := fun y hy => by
          cases e : nm p.acc p.sym y with
          | false => rfl
          | true =>
            have h1 := hout p hp
            have h2 : nm x.acc x.sym y = true := by
              rcases List.mem_cons.1 hy with rfl | hy
              · exact nm_self _
              · exact htw y hy
            obtain ⟨a, b⟩ := nm_iff.1 e
            obtain ⟨c, d⟩ := nm_iff.1 h2
            have : cmpP x p = 0 := cmpP_eq.2 ⟨by rw [← c, a], by rw [← d, b]⟩
            omega
        rw [← List.cons_append, List.filter_append, filter_none hno, List.nil_append]
      refine ⟨?_, fun p hp => ?_, fun y hy => ?_, fun p hp => ?_⟩
      · rw [List.pairwise_cons]
        refine ⟨fun p hp => ?_, ia.so⟩
        have h1 := hout p hp
        rw [cmpP_congr (a := togP x.acc x.sym (x :: T)) (b := x) (togP_acc ..) (togP_sym ..)]
        exact h1
      · rcases List.mem_cons.1 hp with rfl | hp
        · rw [togP_acc, togP_sym, fx]
        · rw [fp p hp]; exact ia.val p hp
      · rw [← List.cons_append] at hy
        rcases List.mem_append.1 hy with hy | hy
        · have h2 : nm x.acc x.sym y = true := by
            rcases List.mem_cons.1 hy with rfl | hy
            · exact nm_self _
            · exact htw y hy
          obtain ⟨c, d⟩ := nm_iff.1 h2
          exact ⟨_, List.mem_cons_self .., nm_iff.2 ⟨by rw [togP_acc, c], by rw [togP_sym, d]⟩⟩
        · obtain ⟨p, h1, h2⟩ := ia.cov y hy
          exact ⟨p, List.mem_cons_of_mem _ h1, h2⟩
      · rcases List.mem_cons.1 hp with rfl | hp
        · exact ⟨x, List.mem_cons_self .., nm_iff.2 ⟨by rw [togP_acc], by rw [togP_sym]⟩⟩
        · obtain ⟨y, h1, h2⟩ := ia.inc p hp
          exact ⟨y, List.mem_cons_of_mem _ (List.mem_append_right _ h1), h2⟩
/-- The document's way. -/
def insP : List Pos → Pos → List Pos
  | [], p => [p]
  | x :: l, p => if cmpP p x < 0 then p :: x :: l else x :: insP l p
def putP (l : List Pos) (p : Pos) : List Pos := if l.any (nm p.acc p.sym) = true then l else insP l p
theorem mem_insP {p y : Pos} : ∀ {l : List Pos}, y ∈ insP l p ↔ y = p ∨ y ∈ l
  | [] => by simp [insP]
  | x :: l => by
    unfold insP
    split
    · rw [List.mem_cons]
    · rw [List.mem_cons, mem_insP, List.mem_cons]
      constructor
      · rintro (h | h | h)
        · exact .inr (.inl h)
        · exact .inl h
        · exact .inr (.inr h)
      · rintro (h | h | h)
        · exact .inr (.inl h)
        · exact .inl h
        · exact .inr (.inr h)
theorem insP_so {p : Pos} : ∀ {l : List Pos}, l.Pairwise (fun x y => cmpP x y < 0) → (∀ y, y ∈ l → nm p.acc p.sym y = false) → (insP l p).Pairwise (fun x y => cmpP x y < 0)
  | [], _, _ => by unfold insP; exact List.pairwise_singleton ..
  | x :: l, h, hn => by
    have hxn := hn x (List.mem_cons_self ..)
    rw [List.pairwise_cons] at h
    unfold insP
    split
    · rename_i hlt
      rw [List.pairwise_cons]
      refine ⟨fun y hy => ?_, List.pairwise_cons.2 h⟩
      rcases List.mem_cons.1 hy with rfl | hy
      · exact hlt
      · exact cmpP_trans hlt (h.1 y hy)
    · rename_i hlt
      rw [List.pairwise_cons]
      refine ⟨fun y hy => ?_, insP_so h.2 (fun y hy => hn y (List.mem_cons_of_mem _ hy))⟩
      rcases mem_insP.1 hy with rfl | hy
      · have h0 : cmpP y x ≠ 0 := fun h0 => by rw [nm_cmp.2 h0] at hxn; cases hxn
        have := cmpP_swap y x
        omega
      · exact h.1 y hy
noncomputable def docF (F : List Pos) (xs out : List Pos) : List Pos := xs.foldl (fun out x => putP out (togP x.acc x.sym (F.filter (nm x.acc x.sym)))) out
theorem doc_step {F pre out : List Pos} {x : Pos} (hx : x ∈ F) (so : out.Pairwise fun x y => cmpP x y < 0) (val : ∀ p, p ∈ out → p = togP p.acc p.sym (F.filter (nm p.acc p.sym))) (cov : ∀ x, x ∈ pre → ∃ p, p ∈ out ∧ nm x.acc x.sym p = true) (inc : ∀ p, p ∈ out → ∃ x, x ∈ F ∧ nm p.acc p.sym x = true) :
    (putP out (togP x.acc x.sym (F.filter (nm x.acc x.sym)))).Pairwise (fun x y => cmpP x y < 0) ∧ (∀ p, p ∈ putP out (togP x.acc x.sym (F.filter (nm x.acc x.sym))) → p = togP p.acc p.sym (F.filter (nm p.acc p.sym))) ∧ (∀ y, y ∈ pre ++ [x] → ∃ p, p ∈ putP out (togP x.acc x.sym (F.filter (nm x.acc x.sym))) ∧ nm y.acc y.sym p = true) ∧ (∀ p, p ∈ putP out (togP x.acc x.sym (F.filter (nm x.acc x.sym))) → ∃ x, x ∈ F ∧ nm p.acc p.sym x = true) := by
  obtain ⟨t, ht⟩ : ∃ t, togP x.acc x.sym (F.filter (nm x.acc x.sym)) = t := ⟨_, rfl⟩
  have e1 : t.acc = x.acc := by rw [← ht, togP_acc]
  have e2 : t.sym = x.sym := by rw [← ht, togP_sym]
  rw [ht]
  unfold putP
  rw [e1, e2]
  by_cases h : out.any (nm x.acc x.sym) = true
  · rw [if_pos h]
    refine ⟨so, val, fun y hy => ?_, inc⟩
    rcases List.mem_append.1 hy with hy | hy
    · exact cov y hy
    · rw [List.mem_singleton.1 hy]
      obtain ⟨p, hp, h2⟩ := List.any_eq_true.1 h
      exact ⟨p, hp, h2⟩
  · rw [if_neg h]
    have hn : ∀ y, y ∈ out → nm t.acc t.sym y = false := fun y hy => by
      rw [e1, e2]
      cases e : nm x.acc x.sym y with
      | false => rfl
      | true => exact absurd (List.any_eq_true.2 ⟨y, hy, e⟩) h
    refine ⟨insP_so so hn, fun p hp => ?_, fun y hy => ?_, fun p hp => ?_⟩
    · rcases mem_insP.1 hp with rfl | hp
      · rw [e1, e2, ht]
      · exact val p hp
    · rcases List.mem_append.1 hy with hy | hy
      · obtain ⟨p, h1, h2⟩ := cov y hy
        exact ⟨p, mem_insP.2 (.inr h1), h2⟩
      · rw [List.mem_singleton.1 hy]
        exact ⟨t, mem_insP.2 (.inl rfl), nm_iff.2 ⟨e1, e2⟩⟩
    · rcases mem_insP.1 hp with rfl | hp
      · exact ⟨x, hx, by rw [e1, e2]; exact nm_self x⟩
      · exact inc p hp
theorem docF_all (F : List Pos) : ∀ (xs pre out : List Pos), pre ++ xs = F → (out.Pairwise fun x y => cmpP x y < 0) → (∀ p, p ∈ out → p = togP p.acc p.sym (F.filter (nm p.acc p.sym))) → (∀ x, x ∈ pre → ∃ p, p ∈ out ∧ nm x.acc x.sym p = true) → (∀ p, p ∈ out → ∃ x, x ∈ F ∧ nm p.acc p.sym x = true) → IsAll F (docF F xs out)
  | [], pre, out, hF, so, val, cov, inc => by
    rw [List.append_nil] at hF
    subst hF
    exact ⟨so, val, cov, inc⟩
  | x :: xs, pre, out, hF, so, val, cov, inc => by
    have hx : x ∈ F := by rw [← hF]; exact List.mem_append_right _ (List.mem_cons_self ..)
    obtain ⟨a, b, c, d⟩ := doc_step hx so val cov inc
    exact docF_all F xs (pre ++ [x]) _ (by rw [List.append_assoc]; exact hF) a b c d
theorem docF_is (F : List Pos) : IsAll F (docF F F []) := docF_all F F [] [] rfl .nil (fun p hp => absurd hp (by simp)) (fun p hp => absurd hp (by simp)) (fun p hp => absurd hp (by simp))
noncomputable def allF (F : List Pos) : List Pos := grpF (sortF F)
theorem allF_is (F : List Pos) : IsAll F (allF F) := (grpF_all _ _ (Nat.le_refl _) (sortF_sorts F)).perm (sortF_perm F)
theorem docF_eq (F : List Pos) : docF F F [] = allF F := (docF_is F).det (allF_is F) (List.Perm.refl _)
theorem allF_perm {F G : List Pos} (h : F.Perm G) : allF F = allF G := (allF_is F).det (allF_is G) h
def stepOk (l : List Pos) (i : Nat) : Prop := (0 < i → cmpP (l.getD (i - 1) default) (l.getD i default) < 0) ∧ goodP (l.getD i default)
def rgtP (l : List Pos) : Prop := ∀ i, i < l.length → stepOk l i
theorem gp_el {l : List Pos} {i : Nat} (h : i < l.length) : l.getD i default = l[i] := by
  rw [List.getD_eq_getElem?_getD, List.getElem?_eq_getElem h]; rfl
theorem rgtP_iff {l : List Pos} : rgtP l ↔ (∀ p, p ∈ l → goodP p) ∧ l.Pairwise fun x y => cmpP x y < 0 := by
  constructor
  · intro h
    refine ⟨fun p hp => ?_, ?_⟩
    · obtain ⟨i, hi, rfl⟩ := List.getElem_of_mem hp
      have := (h i hi).2
      rw [gp_el hi] at this; exact this
    · rw [List.pairwise_iff_getElem]
      intro i j hi hj hij
      obtain ⟨k, rfl⟩ : ∃ k, j = i + 1 + k := ⟨j - i - 1, by omega⟩
      clear hij
      induction k with
      | zero =>
        have := (h (i + 1) hj).1 (by omega)
        rw [gp_el hj, gp_el (show i + 1 - 1 < l.length by omega)] at this
        exact this
      | succ k ih =>
        have := (h (i + 1 + k + 1) hj).1 (by omega)
        rw [gp_el (show i + 1 + k + 1 < l.length from hj), gp_el (show i + 1 + k + 1 - 1 < l.length by omega)] at this
        exact cmpP_trans (ih (by omega)) this
  · rintro ⟨h1, h2⟩ i hi
    refine ⟨fun h0 => ?_, by rw [gp_el hi]; exact h1 _ (List.getElem_mem hi)⟩
    rw [gp_el hi, gp_el (show i - 1 < l.length by omega)]
    exact List.pairwise_iff_getElem.1 h2 _ _ _ _ (by omega)
theorem filter_one {p : Pos} : ∀ {out : List Pos}, out.Pairwise (fun x y => cmpP x y < 0) → p ∈ out → out.filter (nm p.acc p.sym) = [p]
  | [], _, h => absurd h (by simp)
  | x :: l, so, h => by
    rw [List.pairwise_cons] at so
    have key : ∀ y, y ∈ l → cmpP p y < 0 → nm p.acc p.sym y = false := fun y _ hlt => by
      cases e : nm p.acc p.sym y with
      | false => rfl
      | true => rw [nm_cmp.1 e] at hlt; omega
    rcases List.mem_cons.1 h with rfl | h
    · rw [List.filter_cons, if_pos (nm_self _), filter_none fun y hy => key y hy (so.1 y hy)]
    · have hx := so.1 p h
      rw [List.filter_cons, if_neg, filter_one so.2 h]
      intro e
      have := cmpP_swap x p
      rw [nm_cmp.1 e] at this
      omega
theorem all_self {l : List Pos} (h : rgtP l) : IsAll l l := by
  obtain ⟨h1, h2⟩ := rgtP_iff.1 h
  exact ⟨h2, fun p hp => by rw [filter_one h2 hp, togP_one (h1 p hp)], fun x hx => ⟨x, hx, nm_self x⟩, fun x hx => ⟨x, hx, nm_self x⟩⟩
theorem allF_self {l : List Pos} (h : rgtP l) : allF l = l := (allF_is l).det (all_self h) (List.Perm.refl _)
theorem allF_right (F : List Pos) : rgtP (allF F) := rgtP_iff.2 ⟨fun p hp => by rw [(allF_is F).val p hp]; exact togP_good _ _ _, (allF_is F).so⟩
theorem all_none {F out : List Pos} (h : IsAll F out) {a s : ByteArray} (hn : ∀ x, x ∈ F → nm a s x = false) : ∀ p, p ∈ out → nm a s p = false := fun p hp => by
  cases e : nm a s p with
  | false => rfl
  | true =>
    obtain ⟨x, hx, e2⟩ := h.inc p hp
    obtain ⟨c, d⟩ := nm_iff.1 e
    rw [c, d] at e2
    rw [hn x hx] at e2; cases e2
theorem all_some {F out : List Pos} (h : IsAll F out) {a s : ByteArray} {x : Pos} (hx : x ∈ F) (e : nm a s x = true) : togP a s (F.filter (nm a s)) ∈ out ∧ out.filter (nm a s) = [togP a s (F.filter (nm a s))] := by
  obtain ⟨p, hp, e2⟩ := h.cov x hx
  obtain ⟨a1, a2⟩ := nm_iff.1 e
  obtain ⟨b1, b2⟩ := nm_iff.1 e2
  have f := filter_one h.so hp
  have v := h.val p hp
  rw [b1, b2, a1, a2] at f v
  rw [← v]
  exact ⟨hp, f⟩
theorem togP_eq {a s : ByteArray} {l m : List Pos} (h1 : anyO l = false) (h2 : anyO m = false) (g1 : ∀ p, p ∈ l → goodP p) (g2 : ∀ p, p ∈ m → goodP p) (e1 : (l.map fun x => x.qty).sum = (m.map fun x => x.qty).sum) (e2 : (l.map fun x => x.value).sum = (m.map fun x => x.value).sum) : togP a s l = togP a s m := by
  have aux : ∀ (f : Pos → Int), (∀ p, goodP p → okN (f p)) → (l.map f).sum = (m.map f).sum → sumS (l.map f) = sumS (m.map f) := fun f hf e => by
    have o1 : ∀ x, x ∈ l.map f → okN x := fun x hx => by obtain ⟨p, hp, rfl⟩ := List.mem_map.1 hx; exact hf p (g1 p hp)
    have o2 : ∀ x, x ∈ m.map f → okN x := fun x hx => by obtain ⟨p, hp, rfl⟩ := List.mem_map.1 hx; exact hf p (g2 p hp)
    by_cases h : okN (l.map f).sum
    · rw [sumS_yes o1 h, sumS_yes o2 (by rw [← e]; exact h), e]
    · rw [sumS_no (fun hh => h hh.2), sumS_no (fun hh => h (by rw [e]; exact hh.2))]
  unfold togP
  rw [h1, h2, aux _ (fun p h => h.1) e1, aux _ (fun p h => h.2.1) e2]
theorem togP_fine {a s : ByteArray} {l : List Pos} (h : (togP a s l).over = false) : anyO l = false ∧ (togP a s l).qty = (l.map fun x => x.qty).sum ∧ (togP a s l).value = (l.map fun x => x.value).sum := by
  unfold togP at h ⊢
  split at h
  · rename_i hc
    rw [if_pos hc]
    refine ⟨hc.1, ?_, ?_⟩
    · by_cases hl : (∀ x, x ∈ l.map (fun x => x.qty) → okN x) ∧ okN (l.map fun x => x.qty).sum
      · rw [sumS_yes hl.1 hl.2]
      · rw [sumS_no hl] at hc; exact absurd hc.2.1 (by decide)
    · by_cases hl : (∀ x, x ∈ l.map (fun x => x.value) → okN x) ∧ okN (l.map fun x => x.value).sum
      · rw [sumS_yes hl.1 hl.2]
      · rw [sumS_no hl] at hc; exact absurd hc.2.2 (by decide)
  · cases h
theorem part_sums {F : List Pos} (hg : ∀ p, p ∈ allF F → p.over = false) (a s : ByteArray) : anyO (F.filter (nm a s)) = false ∧ anyO ((allF F).filter (nm a s)) = false ∧ (((allF F).filter (nm a s)).map fun x => x.qty).sum = ((F.filter (nm a s)).map fun x => x.qty).sum ∧ (((allF F).filter (nm a s)).map fun x => x.value).sum = ((F.filter (nm a s)).map fun x => x.value).sum := by
  by_cases h : ∀ x, x ∈ F → nm a s x = false
  · rw [filter_none h, filter_none (all_none (allF_is F) h)]
    exact ⟨rfl, rfl, rfl, rfl⟩
  · obtain ⟨x, hx⟩ := Classical.not_forall.1 h
    obtain ⟨hx, e⟩ := Classical.not_imp.1 hx
    obtain ⟨h1, h2⟩ := all_some (allF_is F) hx (by simpa using e)
    have ho := hg _ h1
    obtain ⟨f1, f2, f3⟩ := togP_fine ho
    rw [h2]
    refine ⟨f1, ?_, ?_, ?_⟩
    · unfold anyO; rw [List.any_cons, List.any_nil, ho]; rfl
    · rw [List.map_cons, List.map_nil, List.sum_cons, List.sum_nil, f2, Int.add_zero]
    · rw [List.map_cons, List.map_nil, List.sum_cons, List.sum_nil, f3, Int.add_zero]
theorem parts_eq {F G : List Pos} (hF : ∀ p, p ∈ F → goodP p) (hG : ∀ p, p ∈ G → goodP p) (ha : ∀ p, p ∈ allF F → p.over = false) (hb : ∀ p, p ∈ allF G → p.over = false) : allF (allF F ++ allF G) = allF (F ++ G) := by
  have any_app : ∀ l m : List Pos, anyO l = false → anyO m = false → anyO (l ++ m) = false := fun l m h1 h2 => by
    unfold anyO at *; rw [List.any_append, h1, h2]; rfl
  have gd : ∀ H : List Pos, ∀ p, p ∈ allF H → goodP p := fun H p hp => (rgtP_iff.1 (allF_right H)).1 p hp
  refine (allF_is _).uniq (allF_is _) (fun a s => ?_) (fun x hx => ?_) (fun x hx => ?_)
  · obtain ⟨a1, a2, a3, a4⟩ := part_sums ha a s
    obtain ⟨b1, b2, b3, b4⟩ := part_sums hb a s
    rw [List.filter_append, List.filter_append]
    refine togP_eq (any_app _ _ a2 b2) (any_app _ _ a1 b1) (fun p hp => ?_) (fun p hp => ?_) ?_ ?_
    · rcases List.mem_append.1 hp with h | h
      · exact gd F p (List.mem_filter.1 h).1
      · exact gd G p (List.mem_filter.1 h).1
    · rcases List.mem_append.1 hp with h | h
      · exact hF p (List.mem_filter.1 h).1
      · exact hG p (List.mem_filter.1 h).1
    · rw [List.map_append, List.map_append, List.sum_append, List.sum_append, a3, b3]
    · rw [List.map_append, List.map_append, List.sum_append, List.sum_append, a4, b4]
  · rcases List.mem_append.1 hx with h | h
    · obtain ⟨y, h1, h2⟩ := (allF_is F).inc x h
      exact ⟨y, List.mem_append_left _ h1, h2⟩
    · obtain ⟨y, h1, h2⟩ := (allF_is G).inc x h
      exact ⟨y, List.mem_append_right _ h1, h2⟩
  · rcases List.mem_append.1 hx with h | h
    · obtain ⟨y, h1, h2⟩ := (allF_is F).cov x h
      exact ⟨y, List.mem_append_left _ h1, h2⟩
    · obtain ⟨y, h1, h2⟩ := (allF_is G).cov x h
      exact ⟨y, List.mem_append_right _ h1, h2⟩
open Classical in
/-- What all lists come to. -/
noncomputable def allS (ls : List (List Pos)) : List Pos × Int := if ∀ l, l ∈ ls → rgtP l then (allF ls.flatten, 0) else ([], 1)
theorem allS_yes {ls : List (List Pos)} (h : ∀ l, l ∈ ls → rgtP l) : allS ls = (allF ls.flatten, 0) := by rw [allS, if_pos h]
theorem allS_no {ls : List (List Pos)} (h : ¬ ∀ l, l ∈ ls → rgtP l) : allS ls = ([], 1) := by rw [allS, if_neg h]
theorem good_flat {ls : List (List Pos)} (h : ∀ l, l ∈ ls → rgtP l) : ∀ p, p ∈ ls.flatten → goodP p := fun p hp => by
  obtain ⟨l, hl, hp⟩ := List.mem_flatten.1 hp
  exact (rgtP_iff.1 (h l hl)).1 p hp
theorem allF_len : ∀ (F : List Pos), (allF F).length ≤ F.length := fun F => by
  have : ∀ (n : Nat) (l : List Pos), l.length ≤ n → (grpF l).length ≤ l.length := fun n => by
    induction n with
    | zero =>
      intro l hl
      obtain rfl : l = [] := List.eq_nil_of_length_eq_zero (by omega)
      rw [grpF]; simp
    | succ n ih =>
      intro l hl
      cases l with
      | nil => rw [grpF]; simp
      | cons x l =>
        rw [grpF]
        have h1 := (List.dropWhile_sublist (nm x.acc x.sym) (l := l)).length_le
        simp only [List.length_cons] at hl ⊢
        have := ih (l.dropWhile (nm x.acc x.sym)) (by omega)
        omega
  have h := this _ (sortF F) (Nat.le_refl _)
  rw [(sortF_perm F).length_eq] at h
  exact h
/-- The order of lists, with empty ones between. -/
def turnL (ls : List (List Pos)) (k : Nat) : Nat → List (List Pos)
  | 0 => []
  | n + 1 => turnL ls k n ++ [ls.getD ((n + k) % ls.length) default, []]
theorem turn_flat (ls : List (List Pos)) (k : Nat) (hk : k < ls.length) : ∀ n, n ≤ ls.length → (turnL ls k n).flatten = (((ls.drop k) ++ (ls.take k)).take n).flatten
  | 0, _ => by rw [List.take_zero]; rfl
  | n + 1, h => by
    rw [turnL, List.flatten_append, turn_flat ls k hk n (by omega), List.take_add_one, List.flatten_append]
    congr 1
    have e : (ls.drop k ++ ls.take k)[n]? = some (ls.getD ((n + k) % ls.length) default) := by
      by_cases hn : n + k < ls.length
      · rw [Nat.mod_eq_of_lt hn, List.getElem?_append_left (by rw [List.length_drop]; omega), List.getElem?_drop, List.getD_eq_getElem?_getD, List.getElem?_eq_getElem (show k + n < ls.length by omega), List.getElem?_eq_getElem hn, Option.getD_some]
        congr 2; omega
      · have em : (n + k) % ls.length = n + k - ls.length := by
          rw [Nat.mod_eq_sub_mod (by omega), Nat.mod_eq_of_lt (by omega)]
        rw [em, List.getElem?_append_right (by rw [List.length_drop]; omega), List.length_drop, List.getElem?_take_of_lt (by omega), List.getD_eq_getElem?_getD, List.getElem?_eq_getElem (show n + k - ls.length < ls.length by omega), List.getElem?_eq_getElem (show n - (ls.length - k) < ls.length by omega), Option.getD_some]
        congr 2; omega
    rw [e]
    simp
theorem turn_perm (ls : List (List Pos)) (k : Nat) (hk : k < ls.length) : (turnL ls k ls.length).flatten.Perm ls.flatten := by
  rw [turn_flat ls k hk _ (Nat.le_refl _), List.take_of_length_le (by simp; omega), List.flatten_append]
  refine List.perm_append_comm.trans ?_
  rw [← List.flatten_append, List.take_append_drop]
theorem turn_mem (ls : List (List Pos)) (k : Nat) (hk : k < ls.length) : ∀ n l, l ∈ turnL ls k n → l = [] ∨ l ∈ ls
  | 0, l, h => absurd h (by simp [turnL])
  | n + 1, l, h => by
    rw [turnL] at h
    rcases List.mem_append.1 h with h | h
    · exact turn_mem ls k hk n l h
    · rcases List.mem_cons.1 h with h | h
      · right
        have hm : (n + k) % ls.length < ls.length := Nat.mod_lt _ (by omega)
        rw [h, List.getD_eq_getElem?_getD, List.getElem?_eq_getElem hm]
        exact List.getElem_mem hm
      · left; exact List.mem_singleton.1 h
theorem turn_mem2 (ls : List (List Pos)) (k : Nat) (hk : k < ls.length) {l : List Pos} (h : l ∈ ls) : l ∈ turnL ls k ls.length := by
  obtain ⟨j, hj, rfl⟩ := List.getElem_of_mem h
  have key : ∀ n i, i < n → ls.getD ((i + k) % ls.length) default ∈ turnL ls k n := fun n => by
    induction n with
    | zero => intro i hi; omega
    | succ n ih =>
      intro i hi
      rw [turnL]
      rcases Nat.lt_or_ge i n with h | h
      · exact List.mem_append_left _ (ih i h)
      · obtain rfl : i = n := by omega
        exact List.mem_append_right _ (List.mem_cons_self ..)
  by_cases hjk : k ≤ j
  · have := key ls.length (j - k) (by omega)
    rw [show j - k + k = j by omega, Nat.mod_eq_of_lt hj, List.getD_eq_getElem?_getD, List.getElem?_eq_getElem hj] at this
    exact this
  · have := key ls.length (j + ls.length - k) (by omega)
    rw [show j + ls.length - k + k = j + ls.length by omega, Nat.add_mod_right, Nat.mod_eq_of_lt hj, List.getD_eq_getElem?_getD, List.getElem?_eq_getElem hj] at this
    exact this
theorem rgt_nil : rgtP [] := fun i hi => absurd hi (by simp)
theorem turn_all (ls : List (List Pos)) (k : Nat) (hk : k < ls.length) : allS (turnL ls k ls.length) = allS ls := by
  by_cases h : ∀ l, l ∈ ls → rgtP l
  · rw [allS_yes h, allS_yes, allF_perm (turn_perm ls k hk)]
    intro l hl
    rcases turn_mem ls k hk _ l hl with rfl | hl
    · exact rgt_nil
    · exact h l hl
  · rw [allS_no h, allS_no]
    exact fun hh => h fun l hl => hh l (turn_mem2 ls k hk hl)
theorem allS_one {l : List Pos} (h : rgtP l) : allS [l] = (l, 0) := by
  rw [allS_yes (fun m hm => by rw [List.mem_singleton.1 hm]; exact h), List.flatten_cons, List.flatten_nil, List.append_nil, allF_self h]
theorem allS_bad {l : List Pos} (h : ¬ rgtP l) : allS [l] = ([], 1) := allS_no fun hh => h (hh l (List.mem_cons_self ..))
theorem allS_right (ls : List (List Pos)) : rgtP (allS ls).1 := by
  by_cases h : ∀ l, l ∈ ls → rgtP l
  · rw [allS_yes h]; exact allF_right _
  · rw [allS_no h]; exact rgt_nil
theorem allS_len (ls : List (List Pos)) : (allS ls).1.length ≤ ls.flatten.length := by
  by_cases h : ∀ l, l ∈ ls → rgtP l
  · rw [allS_yes h]; exact allF_len _
  · rw [allS_no h]; exact Nat.zero_le _
/-- What is got. -/
def getP (l : List Pos) (a s : ByteArray) : Pos := match l.find? (nm a s) with
  | some x => x
  | none => ⟨a, s, 0, 0, false⟩
theorem getP_none {l : List Pos} {a s : ByteArray} (h : ∀ x, x ∈ l → nm a s x = false) : getP l a s = ⟨a, s, 0, 0, false⟩ := by
  have : l.find? (nm a s) = none := by rw [List.find?_eq_none]; intro x hx; rw [h x hx]; decide
  rw [getP, this]
theorem getP_all {F : List Pos} {x : Pos} (hx : x ∈ F) : getP (allF F) x.acc x.sym = togP x.acc x.sym (F.filter (nm x.acc x.sym)) := by
  obtain ⟨h1, h2⟩ := all_some (allF_is F) hx (nm_self x)
  have : (allF F).find? (nm x.acc x.sym) = some (togP x.acc x.sym (F.filter (nm x.acc x.sym))) := by
    rw [← List.head?_filter, h2]; rfl
  rw [getP, this]
def cntP (l : List Pos) (a s : ByteArray) : Nat := (l.filter (nm a s)).length
theorem cntP_all {F : List Pos} {x : Pos} (hx : x ∈ F) : cntP (allF F) x.acc x.sym = 1 := by
  rw [cntP, (all_some (allF_is F) hx (nm_self x)).2]; rfl
theorem cntP_succ {l : List Pos} {a s : ByteArray} {j : Nat} (hj : j < l.length) : cntP (l.take (j + 1)) a s = cntP (l.take j) a s + if nm a s (l.getD j default) = true then 1 else 0 := by
  rw [cntP, cntP, List.take_add_one, List.filter_append, List.length_append, gp_el hj, List.getElem?_eq_getElem hj]
  congr 1
  rw [Option.toList_some, List.filter_cons]
  split <;> rfl
theorem names_ok {F : List Pos} {x : Pos} (hx : x ∈ F) : (getP (allF F) x.acc x.sym).acc = x.acc ∧ (getP (allF F) x.acc x.sym).sym = x.sym ∧ (x.over = true → (getP (allF F) x.acc x.sym).over = true) := by
  rw [getP_all hx]
  exact ⟨togP_acc .., togP_sym .., fun h => togP_over' (List.mem_filter.2 ⟨hx, nm_self x⟩) h⟩
theorem names_none {F : List Pos} {a s : ByteArray} (h : ∀ x, x ∈ F → nm a s x = false) : getP (allF F) a s = ⟨a, s, 0, 0, false⟩ := getP_none (all_none (allF_is F) h)
end Eng
end Go.Proofs.Ytogenggejmbhjaa
