/- From a contract of a law's function to the statement: what is read of the arguments, and that it stays. -/
import Derived.ProofKit
import Derived.Test.YtllfgnhnooonfaaDoorEngZ
set_option autoImplicit false
set_option linter.unusedSimpArgs false
set_option linter.unusedVariables false
namespace Go.Proofs.YtllfgnhnooonfaaDoor
namespace Eng
open Go.ChangeShapes Go.WideShapes Go.ChangeAt Go.RowKit

/-- What is read of cells of a type. -/
def Rd (P : Program) (t : TypeId) (Pred : List V → Prop) : Prop :=
  ∀ (W : World) (H : Type) (enc : TypeId × Value → H) (fuel : Nat) (cs : List Value) (x : DataW H × List MemPlace), DataW.trod enc P W 0 (fun _ => true) true fuel t cs = some x → ∃ vs, Pred vs ∧ All2 (RepV W fun _ => False) vs cs

theorem Rd.imp {P : Program} {t : TypeId} {A B : List V → Prop} (h : Rd P t A) (hi : ∀ vs, A vs → B vs) : Rd P t B := fun W H enc fuel cs x hx => let ⟨vs, ha, hr⟩ := h W H enc fuel cs x hx; ⟨vs, hi _ ha, hr⟩

theorem rd_int {P : Program} {t : TypeId} {k : IntKind} (hu : P.underlying t = some (.int k)) : Rd P t fun vs => ∃ n : Int, k.min ≤ n ∧ n ≤ k.max ∧ vs = [.x (.int k n)] := by
  intro W H enc fuel cs x h
  obtain ⟨n, rfl, _, hw⟩ := DataW.trod_int hu h
  simp only [Lit.wf, Bool.and_eq_true, decide_eq_true_eq] at hw
  exact ⟨_, ⟨n, hw.1, hw.2, rfl⟩, RepV.x _ rfl, trivial⟩

theorem rd_bool {P : Program} {t : TypeId} (hu : P.underlying t = some .bool) : Rd P t fun vs => ∃ b : Bool, vs = [.x (.bool b)] := by
  intro W H enc fuel cs x h
  obtain ⟨b, rfl, _⟩ := DataW.trod_bool hu h
  exact ⟨_, ⟨b, rfl⟩, RepV.x _ rfl, trivial⟩

theorem rd_string {P : Program} {t : TypeId} (hu : P.underlying t = some .string) : Rd P t fun vs => ∃ s : ByteArray, s.size ≤ maxLen ∧ vs = [.x (.string s)] := by
  intro W H enc fuel cs x h
  obtain ⟨s, rfl, _, hs⟩ := DataW.trod_string hu h
  exact ⟨_, ⟨s, hs, rfl⟩, RepV.x _ rfl, trivial⟩

theorem list_of {α : Type} {n : Nat} {p : Nat → α → Prop} (h : ∀ i, i < n → ∃ a, p i a) : ∃ l : List α, l.length = n ∧ ∀ i a, l[i]? = some a → p i a := by
  induction n with
  | zero => exact ⟨[], rfl, fun i a h => by simp at h⟩
  | succ n ih =>
    obtain ⟨l, hl, hp⟩ := ih fun i hi => h i (by omega)
    obtain ⟨a, ha⟩ := h n (by omega)
    refine ⟨l ++ [a], by simp [hl], fun i x hx => ?_⟩
    by_cases hi : i < l.length
    · rw [List.getElem?_append_left hi] at hx; exact hp i x hx
    · rw [List.getElem?_append_right (by omega)] at hx
      have : i - l.length = 0 := by
        have := (List.getElem?_eq_some_iff.1 hx).1; simp at this; omega
      rw [this] at hx; simp at hx; subst hx
      rw [show i = n by omega]; exact ha

theorem rd_slice {P : Program} {t e : TypeId} {Pe : List V → Prop} (hu : P.underlying t = some (.slice e)) (he : Rd P e Pe) : Rd P t fun vs => ∃ rows : List (List V), (∀ r, r ∈ rows → Pe r) ∧ rows.length ≤ maxLen ∧ vs = [.s (P.cellsOf e) rows] := by
  intro W H enc fuel cs x h
  rcases DataW.trod_slice hu h with ⟨rfl, _⟩ | ⟨a, len, cap, elems, rest, n, rfl, rfl, rfl, _, hlc, hcm, hel, hi, _⟩
  · exact ⟨_, ⟨[], by simp, by simp [maxLen], rfl⟩, empty_s, trivial⟩
  · obtain ⟨rows, hl, hr⟩ := list_of (n := len) (p := fun i (r : List V) => Pe r ∧ ∃ cs : List Value, W.cells? 0 (a.add (i * P.cellsOf e)) (P.cellsOf e) = some cs ∧ All2 (RepV W fun _ => False) r cs) fun i hlt => by
      have h1 := hi i hlt
      have h2 : elems[i]? = some (elems[i]'(by omega)) := List.getElem?_eq_getElem (by omega)
      rw [h2] at h1
      cases hc : W.cells? 0 (a.add (i * P.cellsOf e)) (P.cellsOf e) with
      | none => rw [hc] at h1; simp at h1
      | some cs =>
        rw [hc] at h1
        obtain ⟨vs, hp, ha⟩ := he W H enc n cs _ h1
        exact ⟨vs, hp, cs, rfl, ha⟩
    refine ⟨_, ⟨rows, fun r hm => ?_, by omega, rfl⟩, ?_, trivial⟩
    · obtain ⟨i, hi⟩ := List.getElem?_of_mem hm
      exact (hr i r hi).1
    · refine mk_s hl.symm (fun i r hi => ?_) (fun ha => by cases ha) hlc (fun ad had i r j v hi hj => ?_)
      · obtain ⟨_, cs, hc, ha⟩ := hr i r hi
        obtain ⟨_, hlen, _⟩ := World.cells?_some hc
        rw [ha.length, hlen]
      · cases had
        obtain ⟨_, cs, hc, ha⟩ := hr i r hi
        obtain ⟨_, hlen, hcell⟩ := World.cells?_some hc
        obtain ⟨u, hu, hv⟩ := ha.get hj
        have hjl := (List.getElem?_eq_some_iff.1 hu).1
        refine ⟨u, ?_, hv, fun h => h⟩
        rw [← Addr.add_add, hcell j (by omega)]; exact hu

/-- Fields, one behind the other. -/
inductive RdF (P : Program) : Nat → List Field → (List V → Prop) → Prop
  | nil (off : Nat) : RdF P off [] fun vs => vs = []
  | cons {off : Nat} {f : Field} {fs : List Field} {A B : List V → Prop} (ho : f.offset = off) (h : Rd P f.type A) (hs : RdF P (off + P.cellsOf f.type) fs B) : RdF P off (f :: fs) fun vs => ∃ a b, A a ∧ B b ∧ vs = a ++ b

def sumF (P : Program) (fs : List Field) : Nat := (fs.map fun f => P.cellsOf f.type).sum

theorem rdF_spec {P : Program} {off : Nat} {fs : List Field} {Pred : List V → Prop} (h : RdF P off fs Pred) {W : World} {H : Type} {enc : TypeId × Value → H} {n : Nat} {cs : List Value} (hl : cs.length = off + sumF P fs)
    (hx : ∀ (i : Nat) (f : Field), fs[i]? = some f → ∃ x, DataW.trod enc P W 0 (fun _ => true) true n f.type ((cs.drop f.offset).take (P.cellsOf f.type)) = some x) : ∃ vs, Pred vs ∧ All2 (RepV W fun _ => False) vs (cs.drop off) := by
  induction h with
  | nil off =>
    refine ⟨[], rfl, ?_⟩
    rw [List.drop_of_length_le (by simp [sumF] at hl; omega)]; trivial
  | @cons off f fs A B ho h hs ih =>
    subst ho
    obtain ⟨x, hx0⟩ := hx 0 f rfl
    obtain ⟨a, ha, hra⟩ := h W H enc n _ _ hx0
    obtain ⟨b, hb, hrb⟩ := ih (by simp [sumF] at hl ⊢; omega) fun i g hg => hx (i + 1) g hg
    refine ⟨a ++ b, ⟨a, b, ha, hb, rfl⟩, ?_⟩
    have : cs.drop f.offset = (cs.drop f.offset).take (P.cellsOf f.type) ++ cs.drop (f.offset + P.cellsOf f.type) := by
      rw [← List.drop_drop, List.take_append_drop]
    rw [this]
    exact hra.append hrb

theorem rd_struct {P : Program} {t : TypeId} {fs : Array Field} {Pred : List V → Prop} (hu : P.underlying t = some (.struct fs)) (hsum : P.cellsOf t = sumF P fs.toList) (h : RdF P 0 fs.toList Pred) : Rd P t Pred := by
  intro W H enc fuel cs x hx
  obtain ⟨xs, n, rfl, _, hl, hxl, hi⟩ := DataW.trod_struct hu hx
  have := rdF_spec h (cs := cs) (W := W) (enc := enc) (n := n) (by omega) fun i f hf => by
    have hlt := (List.getElem?_eq_some_iff.1 hf).1
    have h1 := hi i f (by simpa using hf)
    rw [List.getElem?_eq_getElem (by simp at hlt; omega)] at h1
    exact ⟨_, h1⟩
  simpa using this

theorem all2_rows {R : V → Value → Prop} {ce : Nat} {cs : List Value} : ∀ (rows : List (List V)) (off : Nat), (∀ (i : Nat) (r : List V), rows[i]? = some r → All2 R r ((cs.drop ((off + i) * ce)).take ce)) → All2 R rows.flatten ((cs.drop (off * ce)).take (rows.length * ce))
  | [], off, _ => by simp [All2]
  | r :: rows, off, h => by
    have h0 := h 0 r rfl
    have ih := all2_rows (R := R) (ce := ce) (cs := cs) rows (off + 1) fun i r' hi => by
      have := h (i + 1) r' (by simpa using hi)
      rwa [show off + (i + 1) = off + 1 + i by omega] at this
    rw [List.flatten_cons, List.length_cons, Nat.add_mul, Nat.one_mul, Nat.add_comm, List.take_add, List.drop_drop]
    rw [show (off + 1) * ce = off * ce + ce by rw [Nat.add_mul]; omega] at ih
    exact All2.append (by simpa using h0) ih

theorem rd_array {P : Program} {t e : TypeId} {n : Nat} {A : List V → Prop} (hu : P.underlying t = some (.array n e)) (hsz : P.cellsOf t = n * P.cellsOf e) (he : Rd P e A) : Rd P t fun vs => ∃ rows : List (List V), rows.length = n ∧ (∀ r, r ∈ rows → A r) ∧ vs = rows.flatten := by
  intro W H enc fuel cs x h
  cases fuel with
  | zero => simp [DataW.trod] at h
  | succ m =>
    have key : cs.length = P.cellsOf t ∧ ∃ xs : List (DataW H × List MemPlace), xs.length = n ∧ ∀ i, i < n → DataW.trod enc P W 0 (fun _ => true) true m e ((cs.drop (i * P.cellsOf e)).take (P.cellsOf e)) = xs[i]? := by
      unfold DataW.trod at h
      rw [hu] at h
      split at h <;> simp_all
      obtain ⟨hl, xs, hp, hd⟩ := h
      exact ⟨xs, by simpa using mapM_some_length hp, fun i hi => by simpa using mapM_some_get hp i i (by simp [hi])⟩
    obtain ⟨hl, xs, hxl, hx⟩ := key
    obtain ⟨rows, hr, hp⟩ := list_of (n := n) (p := fun i (r : List V) => A r ∧ All2 (RepV W fun _ => False) r ((cs.drop (i * P.cellsOf e)).take (P.cellsOf e))) fun i hi => by
      have h1 := hx i hi
      rw [List.getElem?_eq_getElem (by omega)] at h1
      obtain ⟨vs, ha, hv⟩ := he W H enc m _ _ h1
      exact ⟨vs, ha, hv⟩
    refine ⟨rows.flatten, ⟨rows, hr, fun r hm => ?_, rfl⟩, ?_⟩
    · obtain ⟨i, hi⟩ := List.getElem?_of_mem hm
      exact (hp i r hi).1
    · have := all2_rows (R := RepV W fun _ => False) (ce := P.cellsOf e) (cs := cs) rows 0 fun i r hi => by rw [Nat.zero_add]; exact (hp i r hi).2
      rw [hr, ← hsz, ← hl, Nat.zero_mul, List.drop_zero, List.take_length] at this
      exact this

theorem rows_map {α : Type} {Q : α → Prop} {f : α → List V} : ∀ {rows : List (List V)}, (∀ r, r ∈ rows → ∃ a, Q a ∧ r = f a) → ∃ xs : List α, (∀ x, x ∈ xs → Q x) ∧ rows = xs.map f ∧ xs.length = rows.length
  | [], _ => ⟨[], by simp, rfl, rfl⟩
  | r :: rows, h => by
    obtain ⟨a, ha, rfl⟩ := h r (by simp)
    obtain ⟨xs, h1, rfl, h2⟩ := rows_map (f := f) (Q := Q) (rows := rows) fun r hr => h r (by simp [hr])
    refine ⟨a :: xs, fun x hx => ?_, rfl, by simp⟩
    rcases List.mem_cons.1 hx with rfl | hx
    · exact ha
    · exact h1 x hx

/-- What is read of an argument. -/
def ArgRd (P : Program) (t : TypeId) (Pred : D → Prop) : Prop :=
  ∀ (W : World) (base : Nat) (v : Value) (H : Type) (enc : TypeId × Value → H) (d : DataW H) (p : List MemPlace), Value.okWide P W .any base t v → DataW.Trod enc P W 0 (fun _ => true) true t v d p → ∃ x, Pred x ∧ RepD W (fun _ => False) (fun _ => none) x v

theorem ArgRd.imp {P : Program} {t : TypeId} {A B : D → Prop} (h : ArgRd P t A) (hi : ∀ x, A x → B x) : ArgRd P t B := fun W base v H enc d p hok hx => let ⟨x, ha, hr⟩ := h W base v H enc d p hok hx; ⟨x, hi _ ha, hr⟩

theorem arg_one {P : Program} {t : TypeId} {ds : TypeDesc} {Pred : List V → Prop} (hu : P.underlying t = some ds) (hd : isAggD ds = false) (h : Rd P t Pred) (h1 : ∀ vs, Pred vs → vs.length = 1) : ArgRd P t fun x => ∃ a, Pred [a] ∧ x = .e (.c (.v a)) := by
  intro W base v H enc d p hok ⟨fuel, hx⟩
  obtain ⟨vs, hp, ha⟩ := h W H enc fuel _ _ hx
  have hc : v.cells.toList = [v] := by
    unfold Value.okWide at hok
    have key : Cell.okWide P W .any base t v → v.cells.toList = [v] := by
      intro hc
      unfold Cell.okWide Cell.ok at hc
      rw [hu] at hc
      cases v <;> first | rfl | (cases ds <;> first | exact hc.elim | cases hd)
    rw [hu] at hok
    cases ds <;> first | exact key hok | cases hd
  rw [hc] at ha
  match vs, h1 vs hp, ha with
  | [a], _, ⟨hr, _⟩ => exact ⟨_, ⟨a, hp, rfl⟩, hr⟩

theorem arg_agg {P : Program} {t : TypeId} {ds : TypeDesc} {Pred : List V → Prop} (hu : P.underlying t = some ds) (hd : isAggD ds = true) (h : Rd P t Pred) : ArgRd P t fun x => ∃ vs, Pred vs ∧ x = .e (.a (vs.map .v)) := by
  intro W base v H enc d p hok ⟨fuel, hx⟩
  obtain ⟨vs, hp, ha⟩ := h W H enc fuel _ _ hx
  have hc : ∃ cs, v = .agg cs := by
    unfold Value.okWide at hok
    rw [hu] at hok
    cases ds <;> first | (obtain ⟨cs, h, _⟩ := hok; exact ⟨cs, h⟩) | cases hd
  obtain ⟨cs, rfl⟩ := hc
  have ha' : All2 (RepV W fun _ => False) vs cs.toList := by simpa [Value.cells] using ha
  exact ⟨_, ⟨vs, hp, rfl⟩, cs.toList, by simp, All2.map_left ha'⟩

/-- A struct's fields: where each lies, and of which type. -/
def structL (P : Program) (t : TypeId) : Option (List (Nat × TypeId)) :=
  match P.underlying t with
  | some (.struct fs) => some (fs.toList.map fun f => (f.offset, f.type))
  | _ => none

inductive RdL (P : Program) : Nat → List (Nat × TypeId) → (List V → Prop) → Prop
  | nil (off : Nat) : RdL P off [] fun vs => vs = []
  | cons {off : Nat} {t : TypeId} {fs : List (Nat × TypeId)} {A B : List V → Prop} (h : Rd P t A) (hs : RdL P (off + P.cellsOf t) fs B) : RdL P off ((off, t) :: fs) fun vs => ∃ a b, A a ∧ B b ∧ vs = a ++ b

theorem RdL.toF {P : Program} {off : Nat} {l : List (Nat × TypeId)} {Pred : List V → Prop} (h : RdL P off l Pred) : ∀ {fs : List Field}, fs.map (fun f => (f.offset, f.type)) = l → RdF P off fs Pred := by
  induction h with
  | nil off =>
    intro fs hf
    have : fs = [] := by simpa using hf
    subst this; exact .nil _
  | @cons off t l A B h hs ih =>
    intro fs hf
    cases fs with
    | nil => simp at hf
    | cons f fs =>
      simp only [List.map_cons, List.cons.injEq, Prod.mk.injEq] at hf
      obtain ⟨⟨rfl, rfl⟩, hf⟩ := hf
      exact .cons rfl h (ih hf)

theorem structL_spec {P : Program} {t : TypeId} {l : List (Nat × TypeId)} (h : structL P t = some l) : ∃ fs : Array Field, P.underlying t = some (.struct fs) ∧ fs.toList.map (fun f => (f.offset, f.type)) = l := by
  unfold structL at h
  split at h
  · rename_i fs hu; cases h; exact ⟨fs, hu, rfl⟩
  · cases h

theorem rd_structL {P : Program} {t : TypeId} {l : List (Nat × TypeId)} {Pred : List V → Prop} (hu : structL P t = some l) (hsum : P.cellsOf t = (l.map fun f => P.cellsOf f.2).sum) (h : RdL P 0 l Pred) : Rd P t Pred := by
  obtain ⟨fs, h1, rfl⟩ := structL_spec hu
  exact rd_struct h1 (by rw [hsum, sumF, List.map_map]; rfl) (h.toF rfl)

theorem arg_struct {P : Program} {t : TypeId} {l : List (Nat × TypeId)} {Pred : List V → Prop} (hu : structL P t = some l) (h : Rd P t Pred) : ArgRd P t fun x => ∃ vs, Pred vs ∧ x = .e (.a (vs.map .v)) := by
  obtain ⟨fs, h1, _⟩ := structL_spec hu
  exact arg_agg h1 rfl h

/-- What is read of all arguments. -/
inductive ArgsRd (P : Program) : List TypeId → (List D → Prop) → Prop
  | nil : ArgsRd P [] fun ds => ds = []
  | cons {t : TypeId} {ts : List TypeId} {A : D → Prop} {B : List D → Prop} (h : ArgRd P t A) (hs : ArgsRd P ts B) : ArgsRd P (t :: ts) fun ds => ∃ x xs, A x ∧ B xs ∧ ds = x :: xs

theorem argsRd_spec {P : Program} {ts : List TypeId} {Pred : List D → Prop} (h : ArgsRd P ts Pred) {W : World} {base : Nat} {H : Type} {enc : TypeId × Value → H} : ∀ {vs : List Value} {ds : List (DataW H)} {p : List MemPlace},
    (∀ (j : Nat) t v, ts[j]? = some t → vs[j]? = some v → Value.okWide P W .any base t v) → DataW.TrodAll enc P W 0 (fun _ => true) true ts vs ds p → ∃ Ds, Pred Ds ∧ All2 (RepD W (fun _ => False) fun _ => none) Ds vs := by
  induction h with
  | nil =>
    intro vs ds p _ h
    obtain ⟨rfl, _, _⟩ := trodAll_nil h
    exact ⟨[], rfl, trivial⟩
  | @cons t ts A B h hs ih =>
    intro vs ds p hok hx
    obtain ⟨v, vs1, d, ds1, a, b, rfl, rfl, rfl, h1, h2⟩ := trodAll_cons hx
    obtain ⟨x, ha, hr⟩ := h W base v H enc d a (hok 0 t v rfl rfl) h1
    obtain ⟨xs, hb, hrs⟩ := ih (fun j t v ht hv => hok (j + 1) t v ht hv) h2
    exact ⟨x :: xs, ⟨x, xs, ha, hb, rfl⟩, hr, hrs⟩

theorem trodAll_stays {P : Program} (hl : laidOutB P = true) {W W' : World} (hb : Below W.heap.size W W') {H : Type} {enc : TypeId × Value → H} : ∀ {ts : List TypeId} {vs : List Value} {ds : List (DataW H)} {p : List MemPlace}, (∀ t, t ∈ ts → P.readableRec t = true ∧ t < P.types.size) →
    DataW.TrodAll enc P W 0 (fun _ => true) true ts vs ds p → (∀ x, x ∈ p → x.block < W.heap.size) → ∀ sp : Nat → Bool, (∀ x, x ∈ p → sp x.block = true) → DataW.TrodAll enc P W' 0 sp true ts vs ds p
  | [], vs, ds, p, _, h, _, sp, _ => by
    obtain ⟨rfl, rfl, rfl⟩ := trodAll_nil h
    exact rfl
  | t :: ts, vs, ds, p, ht, h, hlt, sp, hsp => by
    obtain ⟨v, vs1, d, ds1, a, b, rfl, rfl, rfl, h1, h2⟩ := trodAll_cons h
    have := ht t (by simp)
    exact ⟨a, b, WideElems.Trod_stays hl this.1 this.2 h1 (fun x hx => hb.same (hlt x (by simp [hx]))) (fun x hx => hsp x (by simp [hx])),
      trodAll_stays hl hb (fun t ht' => ht t (by simp [ht'])) h2 (fun x hx => hlt x (by simp [hx])) sp (fun x hx => hsp x (by simp [hx])), rfl⟩

theorem post_of_below {H : Type} {enc : TypeId × Value → H} {P : Program} {f : Func} {s : ChangeSpec} {apart fresh handsOn again : Bool} {W W' : World} {args : Array Value} {v : Value} {ds gs : List (DataW H)} {before pa pv : List MemPlace}
    (hW : DataW.Whole enc P f.params.toList s.vars apart W args.toList ds gs before)
    (hres : ∀ (b : Nat) (sp : Nat → Bool) (hd : Bool), DataW.TrodAll enc P W' b sp hd f.resultTypes.toList (v.resultList f.resultTypes.size) (s.fn H (ds ++ gs)).results [])
    (hargs : ∀ sp : Nat → Bool, (∀ p ∈ before, sp p.block = true) → DataW.TrodAll enc P W' 0 sp true f.params.toList args.toList (s.fn H (ds ++ gs)).args pa)
    (hvars : ∀ sp : Nat → Bool, (∀ p ∈ before, sp p.block = true) → DataW.TrodVars enc P W' sp s.vars (s.fn H (ds ++ gs)).vars pv)
    (hps : before = pa ++ pv) (hb : Below W.heap.size W W')
    (hok : ∀ (j : Nat) (t : TypeId) (r : Value), f.resultTypes[j]? = some t → (v.resultList f.resultTypes.size)[j]? = some r → Value.okWide P W' .any 0 t r) :
    s.post enc P f apart fresh handsOn again W args v W' := by
  have hlt : ∀ p ∈ before, p.block < W.heap.size := fun p hp => hW.lt p hp
  have hold : ∀ p ∈ before, (fun b => decide (b < W.heap.size)) p.block = true := fun p hp => by simpa using hlt p hp
  refine ⟨ds, gs, before, [], pa, pv, hW, hres _ _ _, hargs _ hold, hvars _ hold, World.keptBut_mono (fun p hp => ⟨hp, ?_⟩) (hb.frame (· ∈ before)), fun _ => ?_⟩
  · rw [hps, List.mem_append] at hp
    exact Or.inr hp
  · obtain ⟨_, _, _, _, _, hz, hn⟩ := hW
    refine ⟨hok, _, _, ([] ++ pa) ++ pv, ⟨[] ++ pa, pv, trodAll_append (hargs _ (fun _ _ => rfl)) (hres _ _ _), hvars _ (fun _ _ => rfl), rfl, ?_, ?_⟩, ?_⟩
    · intro b off hp
      have hin : MemPlace.cell b off ∈ before := by rw [hps]; simpa using hp
      rw [hb.frozen (hlt _ hin)]
      exact hz b off hin
    · intro ha
      have := hn ha
      rw [hps] at this
      simpa using this
    · intro p hp _
      rw [hps]
      simpa using hp

/-- A law's contract gives what the row asks of a call. -/
theorem law_contract {P : Program} {f : FuncId} {fn : Func} {s : ChangeSpec} {apart fresh handsOn again : Bool} {tb : TypeId} {Pred : List D → Prop} (hl : laidOutB P = true) (hv : s.vars = []) (hres : fn.resultTypes = #[tb]) (htb : P.underlying tb = some .bool)
    (hpar : ∀ t, t ∈ fn.params.toList → P.readableRec t = true ∧ t < P.types.size) (hspec : ∀ (H : Type) (ds : List (DataW H)), ds.length = fn.params.size → (s.fn H ds).results = [.lit (.bool true)] ∧ (s.fn H ds).args = ds ∧ (s.fn H ds).vars = [])
    (hrd : ArgsRd P fn.params.toList Pred) (law : ∀ Ds, Pred Ds → ACall P f [] Ds (B true) []) {H : Type} {enc : TypeId × Value → H} (W : World) (base : Nat) (args : Array Value) (ds gs : List (DataW H)) (before : List MemPlace)
    (hok : ∀ (j : Nat) t v, fn.params[j]? = some t → args[j]? = some v → Value.okWide P W .any base t v) (hW : DataW.Whole enc P fn.params.toList s.vars apart W args.toList ds gs before) (hG : Glob (Hd fun _ => none) W := by intro x hx; cases hx) :
    Calls P f args W fun e W' => ∃ v, e = .returned v ∧ s.post enc P fn apart fresh handsOn again W args v W' := by
  have hlt : ∀ p ∈ before, p.block < W.heap.size := fun p hp => hW.lt p hp
  obtain ⟨p, q, hA, hV, hpq, hfz, hnd⟩ := id hW
  have hq : gs = [] ∧ q = [] := by rw [hv] at hV; exact trodVars_none hV
  obtain ⟨rfl, rfl⟩ := hq
  obtain ⟨Ds, hp, ha⟩ := argsRd_spec hrd (base := base) (fun j t v ht hv => hok j t v (by simpa using ht) (by simpa using hv)) hA
  have hmem : Mem (fun _ => False) (Hd fun _ => none) W (fun _ => none) (fun i => ([] : List Blk)[i]?) W :=
    { blks := fun i b h => by simp at h
      defd := fun _ _ => rfl
      inj := fun _ _ _ _ _ _ _ _ h _ => by simp [solid] at h
      fresh := fun _ _ _ _ h => by cases h
      keep := KeepM.refl _ _
      own0 := fun _ h => h.elim
      glob := hG }
  have how : ∀ b, ¬ Ow (fun _ => False) (fun _ => none) (fun i => ([] : List Blk)[i]?) b := by
    rintro b (h | ⟨i, _, _, h, _⟩)
    · exact h
    · cases h
  have hcall := (law Ds hp).2 (fun _ => False) W (fun _ => none) args.toList hmem (ha.mono fun _ _ h => h.mono (Keep.refl _ _) (fun b _ h => (how b h).elim) (.refl _))
  rw [Array.toArray_toList] at hcall
  refine hcall.mono ?_
  rintro e W' ⟨u, ρ', rfl, _, hd, hm⟩
  obtain ⟨rfl, _⟩ := rep_x (v := .bool true) hd
  have hb : Below W.heap.size W W' := ⟨hm.keep.os, hm.keep.tape, hm.keep.output, hm.keep.size, fun k hk => hm.keep.block k hk fun ⟨_, _, _, h⟩ => by cases h⟩
  have hlen : ds.length = fn.params.size := by
    have : ∀ {ts : List TypeId} {vs : List Value} {ds : List (DataW H)} {p : List MemPlace}, DataW.TrodAll enc P W 0 (fun _ => true) true ts vs ds p → ds.length = ts.length := by
      intro ts
      induction ts with
      | nil => intro vs ds p h; obtain ⟨_, rfl, _⟩ := trodAll_nil h; rfl
      | cons t ts ih =>
        intro vs ds p h
        obtain ⟨v, vs1, d, ds1, a, b, rfl, rfl, rfl, h1, h2⟩ := trodAll_cons h
        simp [ih h2]
    rw [this hA]; simp
  obtain ⟨s1, s2, s3⟩ := hspec H (ds ++ []) (by simpa using hlen)
  refine ⟨_, rfl, post_of_below (pa := p) (pv := []) hW (fun b sp hd => ?_) (fun sp hsp => ?_) (fun sp _ => ?_) (by rw [hpq]) hb ?_⟩
  · rw [s1, hres]
    exact trodAll_mk1 ⟨1, by simp [DataW.trod, htb, Value.cells]⟩
  · rw [s2, List.append_nil]
    exact trodAll_stays hl hb hpar hA (fun x hx => hlt x (by rw [hpq]; simpa using hx)) sp fun x hx => hsp x (by rw [hpq]; simpa using hx)
  · rw [s3, hv]; exact rfl
  · exact ok_one hres rfl (by simp [Value.okWide, htb, Cell.okWide, Cell.ok])

end Eng
end Go.Proofs.YtllfgnhnooonfaaDoor
