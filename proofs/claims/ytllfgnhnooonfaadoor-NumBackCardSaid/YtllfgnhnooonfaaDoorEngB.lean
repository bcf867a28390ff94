/- The abstract evaluator's data, and what it means that memory holds such data. -/
import Derived.Orders
import Derived.Wp
import Derived.Below
import Derived.WalkKit
set_option autoImplicit false
set_option linter.unusedSimpArgs false
set_option linter.unusedVariables false
namespace Go.Proofs.YtllfgnhnooonfaaDoor
namespace Eng

/-- A pure value: one cell that is no slice with memory, a slice that nobody writes (k cells an element), or a function with pointers to cells that nobody writes. -/
inductive V where
  | x (v : Value)
  | s (k : Nat) (rows : List (List V))
  | f (fn : Nat) (caps : List (List V))
deriving Inhabited

/-- What a cell of a local block or a temporary holds: a pure value, or a slice of n elements of the own row r. -/
inductive C where
  | v (a : V)
  | o (r n : Nat)
deriving Inhabited

inductive E where
  | c (a : C)
  | a (cs : List C)
deriving Inhabited

inductive D where
  | e (a : E)
  | t (es : List E)
  | p (b off : Nat)
  | q (cs : List V)
  | w (r k i off : Nat)
  | u (r k off n : Nat)
  | g (b : Bool) (d : D)
  | top
deriving Inhabited

inductive Blk where
  | loc (cs : List C)
  | row (k : Nat) (rows : List (List V))
  | ice (k : Nat) (rows : List (List V))
  | full (k : Nat) (rows : List (List V)) (c : Nat)
  | gone
deriving Inhabited

/-- Where an own thing lies: nowhere (a slice without room), or in a block, from a cell on, with room for so many elements. -/
inductive Pl where
  | nil
  | blk (b base cap : Nat)

def All2 {α β : Type} (R : α → β → Prop) : List α → List β → Prop
  | [], [] => True
  | a :: as, b :: bs => R a b ∧ All2 R as bs
  | _, _ => False

theorem All2.mono {α β : Type} {R R' : α → β → Prop} (hr : ∀ a b, R a b → R' a b) : ∀ {as : List α} {bs : List β}, All2 R as bs → All2 R' as bs
  | [], [], _ => trivial
  | _ :: _, _ :: _, ⟨h, hs⟩ => ⟨hr _ _ h, All2.mono hr hs⟩
  | [], _ :: _, h => h.elim
  | _ :: _, [], h => h.elim

theorem All2.length {α β : Type} {R : α → β → Prop} : ∀ {as : List α} {bs : List β}, All2 R as bs → as.length = bs.length
  | [], [], _ => rfl
  | _ :: _, _ :: _, ⟨_, hs⟩ => by simp [All2.length hs]
  | [], _ :: _, h => h.elim
  | _ :: _, [], h => h.elim

theorem All2.get {α β : Type} {R : α → β → Prop} : ∀ {as : List α} {bs : List β}, All2 R as bs → ∀ {i : Nat} {a : α}, as[i]? = some a → ∃ b, bs[i]? = some b ∧ R a b
  | [], [], _, i, a, h => by simp at h
  | x :: as, y :: bs, ⟨h0, hs⟩, i, a, h => by
    cases i with
    | zero => simp at h; subst h; exact ⟨y, rfl, h0⟩
    | succ i => simp at h; simpa using All2.get hs h
  | [], _ :: _, h, _, _, _ => h.elim
  | _ :: _, [], h, _, _, _ => h.elim

theorem All2.of_get {α β : Type} {R : α → β → Prop} : ∀ {as : List α} {bs : List β}, as.length = bs.length → (∀ (i : Nat) (a : α) (b : β), as[i]? = some a → bs[i]? = some b → R a b) → All2 R as bs
  | [], [], _, _ => trivial
  | x :: as, y :: bs, hl, h => ⟨h 0 x y rfl rfl, All2.of_get (by simpa using hl) fun i a b ha hb => h (i + 1) a b (by simpa using ha) (by simpa using hb)⟩
  | [], _ :: _, hl, _ => by simp at hl
  | _ :: _, [], hl, _ => by simp at hl

theorem All2.append {α β : Type} {R : α → β → Prop} : ∀ {as as' : List α} {bs bs' : List β}, All2 R as bs → All2 R as' bs' → All2 R (as ++ as') (bs ++ bs')
  | [], _, [], _, _, h => h
  | _ :: _, _, _ :: _, _, ⟨h, hs⟩, h' => ⟨h, All2.append hs h'⟩
  | [], _, _ :: _, _, h, _ => h.elim
  | _ :: _, _, [], _, h, _ => h.elim

theorem All2.take {α β : Type} {R : α → β → Prop} : ∀ {as : List α} {bs : List β} (n : Nat), All2 R as bs → All2 R (as.take n) (bs.take n)
  | [], [], n, _ => by simp [All2]
  | x :: as, y :: bs, 0, _ => by simp [All2]
  | x :: as, y :: bs, n + 1, ⟨h, hs⟩ => ⟨h, All2.take n hs⟩
  | [], _ :: _, _, h => h.elim
  | _ :: _, [], _, h => h.elim

theorem All2.drop {α β : Type} {R : α → β → Prop} : ∀ {as : List α} {bs : List β} (n : Nat), All2 R as bs → All2 R (as.drop n) (bs.drop n)
  | [], [], n, _ => by simp [All2]
  | x :: as, y :: bs, 0, h => by simpa using h
  | x :: as, y :: bs, n + 1, ⟨h, hs⟩ => by simpa using All2.drop n hs
  | [], _ :: _, _, h => h.elim
  | _ :: _, [], _, h => h.elim

theorem All2.map_left {α β γ : Type} {R : α → β → Prop} {f : γ → α} : ∀ {as : List γ} {bs : List β}, All2 (fun a b => R (f a) b) as bs → All2 R (as.map f) bs
  | [], [], _ => trivial
  | _ :: _, _ :: _, ⟨h, hs⟩ => ⟨h, All2.map_left hs⟩
  | [], _ :: _, h => h.elim
  | _ :: _, [], h => h.elim

/-- The pure value v lies in u; nothing that it reads is in a block of 'ow'. -/
inductive RepV (w : World) (ow : Nat → Prop) : V → Value → Prop
  | x (v : Value) (h : v.oneCell = true) : RepV w ow (.x v) v
  | s (k : Nat) (rows : List (List V)) (a : Option Addr) (n c : Nat) (g : Nat → Nat → Value) (hn : n = rows.length)
      (hk : ∀ (i : Nat) (r : List V), rows[i]? = some r → r.length = k) (hz : a = none → rows = []) (hcap : n ≤ c)
      (hc : ∀ ad, a = some ad → ∀ (i : Nat) (r : List V) (j : Nat) (v : V), rows[i]? = some r → r[j]? = some v → w.cell? (ad.add (i * k + j)) = some (g i j) ∧ ¬ ow ad.block)
      (hr : ∀ (i : Nat) (r : List V) (j : Nat) (v : V), rows[i]? = some r → r[j]? = some v → RepV w ow v (g i j)) : RepV w ow (.s k rows) (.slice a n c)
  | f (fn : Nat) (caps : List (List V)) (ads : List Addr) (g : Nat → Nat → Value) (hn : ads.length = caps.length)
      (hc : ∀ (i : Nat) (ad : Addr) (r : List V) (j : Nat) (v : V), ads[i]? = some ad → caps[i]? = some r → r[j]? = some v → w.cell? (ad.add j) = some (g i j) ∧ ¬ ow ad.block)
      (hr : ∀ (i : Nat) (r : List V) (j : Nat) (v : V), caps[i]? = some r → r[j]? = some v → RepV w ow v (g i j)) : RepV w ow (.f fn caps) (.func (.func fn) #[] (ads.map fun a => Value.pointer (some a)).toArray)

/-- From w to w' no block changed but those of 'ow' (and new ones). -/
structure Keep (w : World) (ow : Nat → Prop) (w' : World) : Prop where
  size : w.heap.size ≤ w'.heap.size
  block : ∀ b, b < w.heap.size → ¬ ow b → w'.heap[b]? = w.heap[b]?

theorem Keep.refl (w : World) (ow : Nat → Prop) : Keep w ow w := ⟨Nat.le_refl _, fun _ _ _ => rfl⟩

theorem addr_add_block (a : Addr) (n : Nat) : (a.add n).block = a.block := by
  unfold Addr.add; split <;> rfl

theorem Keep.cell {w w' : World} {ow : Nat → Prop} (hk : Keep w ow w') {a : Addr} {x : Value} (h : w.cell? a = some x) (ho : ¬ ow a.block) : w'.cell? a = some x := by
  rw [← h]
  exact World.cell?_of_block (hk.block _ (World.block_lt_of_cell? _ _ h) ho)

theorem RepV.mono {w w' : World} {ow ow' : Nat → Prop} {v : V} {u : Value} (h : RepV w ow v u) (hk : Keep w ow w')
    (ho : ∀ b, b < w.heap.size → ow' b → ow b) : RepV w' ow' v u := by
  induction h with
  | x v h => exact .x v h
  | s k rows a n c g hn hk' hz hcap hc hr ih =>
    refine .s k rows a n c g hn hk' hz hcap (fun ad ha i r j v hi hj => ?_) (fun i r j v hi hj => ih i r j v hi hj)
    obtain ⟨h1, h2⟩ := hc ad ha i r j v hi hj
    have hlt : ad.block < w.heap.size := by have := World.block_lt_of_cell? _ _ h1; rwa [addr_add_block] at this
    exact ⟨hk.cell h1 (by rwa [addr_add_block]), fun h => h2 (ho _ hlt h)⟩
  | f fn caps ads g hn hc hr ih =>
    refine .f fn caps ads g hn (fun i ad r j v ha hi hj => ?_) (fun i r j v hi hj => ih i r j v hi hj)
    obtain ⟨h1, h2⟩ := hc i ad r j v ha hi hj
    have hlt : ad.block < w.heap.size := by have := World.block_lt_of_cell? _ _ h1; rwa [addr_add_block] at this
    exact ⟨hk.cell h1 (by rwa [addr_add_block]), fun h => h2 (ho _ hlt h)⟩

theorem RepV.oneCell {w : World} {ow : Nat → Prop} {v : V} {u : Value} (h : RepV w ow v u) : u.oneCell = true := by
  cases h with
  | x _ h => exact h
  | s => rfl
  | f => rfl

def RepC (w : World) (ow : Nat → Prop) (ρ : Nat → Option Pl) : C → Value → Prop
  | .v a, u => RepV w ow a u
  | .o r n, u => ∃ m, ρ r = some m ∧ match m with
    | .nil => n = 0 ∧ ∃ a, u = .slice a 0 0
    | .blk b base cap => u = .slice (some ⟨b, base, none⟩) n cap ∧ n ≤ cap

def RepE (w : World) (ow : Nat → Prop) (ρ : Nat → Option Pl) : E → Value → Prop
  | .c a, u => RepC w ow ρ a u
  | .a cs, u => ∃ us : List Value, u = .agg us.toArray ∧ All2 (RepC w ow ρ) cs us

def RepD (w : World) (ow : Nat → Prop) (ρ : Nat → Option Pl) : D → Value → Prop
  | .e a, u => RepE w ow ρ a u
  | .t es, u => ∃ us : List Value, u = .tuple us.toArray ∧ All2 (RepE w ow ρ) es us
  | .p b off, u => ∃ bn z c, ρ b = some (.blk bn z c) ∧ u = .pointer (some ⟨bn, z + off, none⟩)
  | .q cs, u => ∃ ad, u = .pointer (some ad) ∧ ∀ (j : Nat) (v : V), cs[j]? = some v → ∃ x, w.cell? (ad.add j) = some x ∧ RepV w ow v x ∧ ¬ ow ad.block
  | .w r k i off, u => ∃ b base cap, ρ r = some (.blk b base cap) ∧ u = .pointer (some ⟨b, base + i * k + off, none⟩)
  | .u r k off n, u => ∃ m, ρ r = some m ∧ match m with
    | .nil => n = 0 ∧ ∃ a, u = .slice a 0 0
    | .blk b base cap => off + n ≤ cap ∧ ∃ a c, u = .slice a n c ∧ n ≤ c ∧ (0 < n → a = some ⟨b, base + off * k, none⟩)
  | .g b d, u => (b = true → RepD w ow ρ d u) ∧ (b = false → u = undef)
  | .top, _ => True

/-- No cell of the row is a string's. -/
def NoFr (vs : Array Value) (fr : Nat × Nat) : Prop := fr.1 = fr.2 ∨ vs.size ≤ fr.1
theorem NoFr.off {vs : Array Value} {fr : Nat × Nat} (h : NoFr vs fr) (off : Nat) (ho : off < vs.size) : ¬ (fr.1 ≤ off ∧ off < fr.2) := by
  rcases h with h | h <;> omega
theorem NoFr.size {vs vs' : Array Value} {fr : Nat × Nat} (h : NoFr vs fr) (e : vs'.size = vs.size) : NoFr vs' fr := by
  rcases h with h | h
  · exact .inl h
  · exact .inr (by omega)
/-- .. nor any mark of a string, where an element has not one cell. -/
def RFr (k : Nat) (vs : Array Value) (fr : Nat × Nat) : Prop := NoFr vs fr ∧ (k = 1 ∨ fr.1 = fr.2)
theorem RFr.size {k : Nat} {vs vs' : Array Value} {fr : Nat × Nat} (h : RFr k vs fr) (e : vs'.size = vs.size) : RFr k vs' fr := ⟨h.1.size e, h.2⟩
/-- The room of a place. -/
def roomOf : Pl → Nat
  | .nil => 0
  | .blk _ _ cap => cap

def RepB (w : World) (ow : Nat → Prop) (ρ : Nat → Option Pl) (i : Nat) : Blk → Prop
  | .loc cs => ∃ b c, ρ i = some (.blk b 0 c) ∧ ∃ vs T fr, w.heap[b]? = some (.cells vs T fr) ∧ NoFr vs fr ∧ All2 (RepC w ow ρ) cs vs.toList
  | .row k rows | .ice k rows => (∀ r, r ∈ rows → r.length = k) ∧ ∃ m, ρ i = some m ∧ match m with
    | .nil => rows = []
    | .blk b base cap => rows.length ≤ cap ∧ ∃ vs T fr, w.heap[b]? = some (.cells vs T fr) ∧ RFr k vs fr ∧ base + cap * k ≤ vs.size ∧
        ∀ (i : Nat) (r : List V) (j : Nat) (v : V), rows[i]? = some r → r[j]? = some v → ∃ x, vs[base + i * k + j]? = some x ∧ RepV w ow v x
  | .full k rows c => ((∀ r, r ∈ rows → r.length = k) ∧ ∃ m, ρ i = some m ∧ match m with
    | .nil => rows = []
    | .blk b base cap => rows.length ≤ cap ∧ ∃ vs T fr, w.heap[b]? = some (.cells vs T fr) ∧ RFr k vs fr ∧ base + cap * k ≤ vs.size ∧
        ∀ (i : Nat) (r : List V) (j : Nat) (v : V), rows[i]? = some r → r[j]? = some v → ∃ x, vs[base + i * k + j]? = some x ∧ RepV w ow v x) ∧ ∀ m, ρ i = some m → roomOf m = c
  | .gone => True

/-- A row whose room is known is a row. -/
theorem RepB.row_of_full {w : World} {ow : Nat → Prop} {ρ : Nat → Option Pl} {i k : Nat} {rows : List (List V)} {c : Nat} (h : RepB w ow ρ i (.full k rows c)) : RepB w ow ρ i (.row k rows) := h.1

def live : Option Blk → Bool
  | some (.loc _) => true
  | some (.row _ _) => true
  | some (.full _ _ _) => true
  | _ => false

def solid : Option Blk → Bool
  | some (.loc _) => true
  | some (.row _ _) => true
  | some (.ice _ _) => true
  | some (.full _ _ _) => true
  | _ => false

def Ow (own0 : Nat → Prop) (ρ : Nat → Option Pl) (H : Nat → Option Blk) (b : Nat) : Prop :=
  own0 b ∨ ∃ i base cap, ρ i = some (.blk b base cap) ∧ live (H i) = true

def Sub (ρ ρ' : Nat → Option Pl) : Prop := ∀ i m, ρ i = some m → ρ' i = some m
theorem Sub.refl (ρ : Nat → Option Pl) : Sub ρ ρ := fun _ _ h => h
theorem Sub.trans {a b c : Nat → Option Pl} (h : Sub a b) (k : Sub b c) : Sub a c := fun i m hm => k i m (h i m hm)

section mono
variable {w w' : World} {ow ow' : Nat → Prop} {ρ ρ' : Nat → Option Pl}

theorem RepC.mono (hk : Keep w ow w') (ho : ∀ b, b < w.heap.size → ow' b → ow b) (hs : Sub ρ ρ') {c : C} {u : Value} (h : RepC w ow ρ c u) : RepC w' ow' ρ' c u := by
  cases c with
  | v a => exact RepV.mono h hk ho
  | o r n => obtain ⟨m, hm, h⟩ := h; exact ⟨m, hs _ _ hm, h⟩

theorem RepE.mono (hk : Keep w ow w') (ho : ∀ b, b < w.heap.size → ow' b → ow b) (hs : Sub ρ ρ') {e : E} {u : Value} (h : RepE w ow ρ e u) : RepE w' ow' ρ' e u := by
  cases e with
  | c a => exact RepC.mono hk ho hs h
  | a cs => obtain ⟨us, hu, h⟩ := h; exact ⟨us, hu, h.mono fun _ _ => RepC.mono hk ho hs⟩

theorem RepD.mono (hk : Keep w ow w') (ho : ∀ b, b < w.heap.size → ow' b → ow b) (hs : Sub ρ ρ') {d : D} {u : Value} (h : RepD w ow ρ d u) : RepD w' ow' ρ' d u := by
  induction d generalizing u with
  | e a => exact RepE.mono hk ho hs h
  | t es => obtain ⟨us, hu, h⟩ := h; exact ⟨us, hu, h.mono fun _ _ => RepE.mono hk ho hs⟩
  | p b off => obtain ⟨bn, z, c, hb, hu⟩ := h; exact ⟨bn, z, c, hs _ _ hb, hu⟩
  | q cs =>
    obtain ⟨ad, hu, h⟩ := h
    refine ⟨ad, hu, fun j v hj => ?_⟩
    obtain ⟨x, hx, hv, hn⟩ := h j v hj
    have hlt : ad.block < w.heap.size := by have := World.block_lt_of_cell? _ _ hx; rwa [addr_add_block] at this
    exact ⟨x, hk.cell hx (by rwa [addr_add_block]), hv.mono hk ho, fun h => hn (ho _ hlt h)⟩
  | w r k i off => obtain ⟨b, base, cap, hb, hu⟩ := h; exact ⟨b, base, cap, hs _ _ hb, hu⟩
  | u r k off n => obtain ⟨m, hm, h⟩ := h; exact ⟨m, hs _ _ hm, h⟩
  | g b d ih => exact ⟨fun hb => ih (h.1 hb), h.2⟩
  | top => trivial

theorem RepB.mono (hk : Keep w ow w') (ho : ∀ b, b < w.heap.size → ow' b → ow b) (hs : Sub ρ ρ') {i : Nat} {blk : Blk} (h : RepB w ow ρ i blk)
    (hb : ∀ b base c, ρ i = some (.blk b base c) → solid (some blk) = true → w'.heap[b]? = w.heap[b]?) : RepB w' ow' ρ' i blk := by
  cases blk with
  | loc cs =>
    obtain ⟨b, c, hp, vs, T, fr, hh, hf, ha⟩ := h
    exact ⟨b, c, hs _ _ hp, vs, T, fr, by rw [hb _ _ _ hp rfl, hh], hf, ha.mono fun _ _ => RepC.mono hk ho hs⟩
  | row k rows =>
    obtain ⟨hl, m, hm, h⟩ := h
    refine ⟨hl, m, hs _ _ hm, ?_⟩
    cases m with
    | nil => exact h
    | blk b base cap =>
      obtain ⟨h1, vs, T, fr, hh, hf, h2, h3⟩ := h
      refine ⟨h1, vs, T, fr, by rw [hb _ _ _ hm rfl, hh], hf, h2, fun i r j v hi hj => ?_⟩
      obtain ⟨x, hx, hv⟩ := h3 i r j v hi hj
      exact ⟨x, hx, hv.mono hk ho⟩
  | ice k rows =>
    obtain ⟨hl, m, hm, h⟩ := h
    refine ⟨hl, m, hs _ _ hm, ?_⟩
    cases m with
    | nil => exact h
    | blk b base cap =>
      obtain ⟨h1, vs, T, fr, hh, hf, h2, h3⟩ := h
      refine ⟨h1, vs, T, fr, by rw [hb _ _ _ hm rfl, hh], hf, h2, fun i r j v hi hj => ?_⟩
      obtain ⟨x, hx, hv⟩ := h3 i r j v hi hj
      exact ⟨x, hx, hv.mono hk ho⟩
  | full k rows c =>
    obtain ⟨⟨hl, m, hm, h⟩, hc⟩ := h
    refine ⟨⟨hl, m, hs _ _ hm, ?_⟩, fun m' hm' => hc m' (by rw [hm]; rw [hs _ _ hm] at hm'; exact hm')⟩
    cases m with
    | nil => exact h
    | blk b base cap =>
      obtain ⟨h1, vs, T, fr, hh, hf, h2, h3⟩ := h
      refine ⟨h1, vs, T, fr, by rw [hb _ _ _ hm rfl, hh], hf, h2, fun i r j v hi hj => ?_⟩
      obtain ⟨x, hx, hv⟩ := h3 i r j v hi hj
      exact ⟨x, hx, hv.mono hk ho⟩
  | gone => trivial
end mono

/-- The world w is as w0 was but for the blocks of 'mt' and new ones. -/
structure KeepM (mt : Nat → Prop) (w w' : World) : Prop where
  os : w'.os = w.os
  tape : w'.tape = w.tape
  output : w'.output = w.output
  size : w.heap.size ≤ w'.heap.size
  block : ∀ b, b < w.heap.size → ¬ mt b → w'.heap[b]? = w.heap[b]?

theorem KeepM.refl (mt : Nat → Prop) (w : World) : KeepM mt w w := ⟨rfl, rfl, rfl, Nat.le_refl _, fun _ _ _ => rfl⟩

/-- What a contract may lean on: what some package-level variables hold; nobody writes them. -/
def globs : List (Nat × (Option Obj → Prop)) := [(1, fun o => ∃ tp p t z, o = some (.cells #[.iface tp p] t z)), (2, fun o => ∃ t z, o = some (.cells (((List.range 20).map fun i => ((10 ^ i : Nat) : Int)).map fun z => Value.int .u64 z).toArray t z))]
def Glob (mt : Nat → Prop) (w0 : World) : Prop := ∀ x, x ∈ globs → x.1 < w0.heap.size ∧ ¬ mt x.1 ∧ x.2 w0.heap[x.1]?
theorem Glob.next {mt mt' : Nat → Prop} {w w' : World} (h : Glob mt w) (k : KeepM mt w w') (hm : ∀ b, mt' b → w.heap.size ≤ b ∨ mt b) : Glob mt' w' := fun x hx => by
  obtain ⟨h1, h2, h3⟩ := h x hx
  exact ⟨Nat.lt_of_lt_of_le h1 k.size, fun e => by rcases hm _ e with e | e; omega; exact h2 e, by rw [k.block _ h1 h2]; exact h3⟩

structure Mem (own0 mt : Nat → Prop) (w0 : World) (ρ : Nat → Option Pl) (H : Nat → Option Blk) (w : World) : Prop where
  blks : ∀ i b, H i = some b → RepB w (Ow own0 ρ H) ρ i b
  defd : ∀ i, H i = none → ρ i = none
  inj : ∀ i j b c k b' c' k', solid (H i) = true → solid (H j) = true → ρ i = some (.blk b c k) → ρ j = some (.blk b' c' k') → i ≠ j → b ≠ b'
  fresh : ∀ i b c k, ρ i = some (.blk b c k) → (w0.heap.size ≤ b ∨ mt b) ∧ b < w.heap.size ∧ ¬ own0 b
  keep : KeepM mt w0 w
  own0 : ∀ b, own0 b → b < w0.heap.size
  glob : Glob mt w0

structure Rel (own0 mt : Nat → Prop) (w0 : World) (ρ0 : Nat → Option Pl) (N : Nat) (ρ : Nat → Option Pl) (En : Nat → D) (H : Nat → Option Blk) (a : Act) (w : World) : Prop where
  defers : a.defers = []
  base : Sub ρ0 ρ
  size : a.tmps.size = N
  tmps : ∀ t, RepD w (Ow own0 ρ H) ρ (En t) (a.tmps.getD t undef)
  mem : Mem own0 mt w0 ρ H w

def upd {α : Type} (f : Nat → α) (i : Nat) (v : α) : Nat → α := fun j => if j = i then v else f j
@[simp] theorem upd_same {α : Type} (f : Nat → α) (i : Nat) (v : α) : upd f i v i = v := by simp [upd]
def updL (H : Nat → Option Blk) : List (Nat × Blk) → Nat → Option Blk
  | [] => H
  | (i, b) :: r => updL (upd H i (some b)) r

theorem upd_other {α : Type} (f : Nat → α) {i j : Nat} (v : α) (h : j ≠ i) : upd f i v j = f j := by simp [upd, h]

end Eng
end Go.Proofs.YtllfgnhnooonfaaDoor

/-! What memory does: a new block, a write into an own block, a row given up. -/
namespace Go.Proofs.YtllfgnhnooonfaaDoor
namespace Eng

variable {own0 mt : Nat → Prop} {w0 w w' : World} {ρ ρ' : Nat → Option Pl} {H : Nat → Option Blk} {N : Nat} {En : Nat → D} {a : Act}

theorem KeepM.trans {a b c : World} (h : KeepM mt a b) (k : KeepM mt b c) : KeepM mt a c :=
  ⟨k.os.trans h.os, k.tape.trans h.tape, k.output.trans h.output, Nat.le_trans h.size k.size,
   fun i hi hm => (k.block i (Nat.lt_of_lt_of_le hi h.size) hm).trans (h.block i hi hm)⟩

theorem KeepM.alloc (h : KeepM mt w0 w) (o : Obj) : KeepM mt w0 (w.alloc o) :=
  h.trans ⟨rfl, rfl, rfl, by simp, fun b hb _ => Go.RowKit.Below.heap_alloc _ _ _ hb⟩

theorem KeepM.drew (h : KeepM mt w0 w) : KeepM mt w0 w.drew := h.trans ⟨rfl, rfl, rfl, by simp, fun b hb _ => rfl⟩

theorem Keep.alloc (w : World) (ow : Nat → Prop) (o : Obj) : Keep w ow (w.alloc o) := ⟨by simp, fun b hb _ => Go.RowKit.Below.heap_alloc _ _ _ hb⟩
theorem Keep.drew (w : World) (ow : Nat → Prop) : Keep w ow w.drew := ⟨by simp, fun b hb _ => rfl⟩

theorem Mem.drew (h : Mem own0 mt w0 ρ H w) : Mem own0 mt w0 ρ H w.drew where
  blks i b hb := (h.blks i b hb).mono (Keep.drew _ _) (fun _ _ h => h) (.refl _) fun _ _ _ _ _ => rfl
  defd := h.defd
  inj := h.inj
  fresh := h.fresh
  keep := h.keep.drew
  own0 := h.own0
  glob := h.glob

theorem Mem.ltOw (h : Mem own0 mt w0 ρ H w) {b : Nat} (hb : Ow own0 ρ H b) : b < w.heap.size := by
  rcases hb with hb | ⟨i, base, cap, hi, _⟩
  · exact Nat.lt_of_lt_of_le (h.own0 _ hb) h.keep.size
  · exact (h.fresh i _ _ _ hi).2.1

theorem sub_upd {i : Nat} {m : Pl} (hi : ρ i = none) : Sub ρ (upd ρ i (some m)) := fun j m' hj => by
  by_cases e : j = i
  · subst e; rw [hi] at hj; cases hj
  · rw [upd_other _ _ e]; exact hj

/-- The own blocks behind a new one: the old ones and that. -/
theorem ow_alloc (hm : Mem own0 mt w0 ρ H w) {i c : Nat} (hi : H i = none) (blk : Blk) {b : Nat} (hb : b < w.heap.size)
    (h : Ow own0 (upd ρ i (some (.blk w.heap.size 0 c))) (upd H i (some blk)) b) : Ow own0 ρ H b := by
  rcases h with h | ⟨j, base, cap, hj, hl⟩
  · exact .inl h
  · by_cases e : j = i
    · subst e; simp only [upd_same] at hj; cases hj; omega
    · rw [upd_other _ _ e] at hj hl; exact .inr ⟨j, base, cap, hj, hl⟩

/-- A new block, with what it holds. -/
theorem Mem.new (hm : Mem own0 mt w0 ρ H w) {i c : Nat} (hi : H i = none) (blk : Blk) (vs : Array Value) (T : TypeId) (fr : Nat × Nat)
    (hb : RepB (w.alloc (.cells vs T fr)) (Ow own0 (upd ρ i (some (.blk w.heap.size 0 c))) (upd H i (some blk))) (upd ρ i (some (.blk w.heap.size 0 c))) i blk) :
    Mem own0 mt w0 (upd ρ i (some (.blk w.heap.size 0 c))) (upd H i (some blk)) (w.alloc (.cells vs T fr)) where
  blks j bl hj := by
    by_cases e : j = i
    · subst e; simp only [upd_same, Option.some.injEq] at hj; subst hj; exact hb
    · rw [upd_other _ _ e] at hj
      exact (hm.blks j bl hj).mono (Keep.alloc _ _ _) (fun b hlt h => ow_alloc hm hi blk hlt h) (sub_upd (hm.defd i hi))
        fun b base c' hp _ => Go.RowKit.Below.heap_alloc _ _ _ (hm.fresh j _ _ _ hp).2.1
  defd j hj := by
    by_cases e : j = i
    · subst e; simp at hj
    · rw [upd_other _ _ e] at hj ⊢; exact hm.defd j hj
  inj j j' b c1 k b' c' k' hl hl' hj hj' hne := by
    by_cases e : j = i
    · subst e
      have e' : j' ≠ j := fun e => hne e.symm
      rw [upd_other _ _ e'] at hj'
      simp only [upd_same] at hj
      cases hj
      have := (hm.fresh j' _ _ _ hj').2.1
      omega
    · rw [upd_other _ _ e] at hj hl
      by_cases e' : j' = i
      · subst e'
        simp only [upd_same] at hj'
        cases hj'
        have := (hm.fresh j _ _ _ hj).2.1
        omega
      · rw [upd_other _ _ e'] at hj' hl'
        exact hm.inj j j' _ _ _ _ _ _ hl hl' hj hj' hne
  fresh j b c' k hj := by
    by_cases e : j = i
    · subst e
      simp only [upd_same] at hj
      cases hj
      exact ⟨.inl hm.keep.size, by simp, fun h => by have := hm.own0 _ h; have := hm.keep.size; omega⟩
    · rw [upd_other _ _ e] at hj
      obtain ⟨h1, h2, h3⟩ := hm.fresh j _ _ _ hj
      exact ⟨h1, by simp; omega, h3⟩
  keep := hm.keep.alloc _
  own0 := hm.own0
  glob := hm.glob

/-- The temporaries behind a change of memory. -/
theorem RepD.step (hk : Keep w (Ow own0 ρ H) w') {ow' : Nat → Prop} (ho : ∀ b, b < w.heap.size → ow' b → Ow own0 ρ H b) (hs : Sub ρ ρ')
    {d : D} {u : Value} (h : RepD w (Ow own0 ρ H) ρ d u) : RepD w' ow' ρ' d u := h.mono hk ho hs

/-- The world with another row of cells in one block. -/
def setBlk (w : World) (b : Nat) (o : Obj) : World := { w with heap := w.heap.setIfInBounds b o }

theorem setBlk_heap_other {b b' : Nat} {o : Obj} (h : b' ≠ b) : (setBlk w b o).heap[b']? = w.heap[b']? := by
  simp only [setBlk]; rw [Array.getElem?_setIfInBounds_ne (by omega)]
theorem setBlk_heap_same {b : Nat} {o : Obj} (h : b < w.heap.size) : (setBlk w b o).heap[b]? = some o := by
  simp only [setBlk]; rw [Array.getElem?_setIfInBounds_self_of_lt h]
@[simp] theorem setBlk_size {b : Nat} {o : Obj} : (setBlk w b o).heap.size = w.heap.size := by simp [setBlk]

theorem Keep.setBlk {ow : Nat → Prop} {b : Nat} (hb : ow b) (o : Obj) : Keep w ow (setBlk w b o) :=
  ⟨by simp, fun b' _ hn => setBlk_heap_other fun e => hn (e ▸ hb)⟩

/-- A live block's cells are replaced; its id keeps its place and stays live. -/
theorem Mem.write (hm : Mem own0 mt w0 ρ H w) {i b base c : Nat} (hp : ρ i = some (.blk b base c)) (hl : live (H i) = true) {blk : Blk} (hl' : live (some blk) = true) (vs : Array Value) (T : TypeId) (fr : Nat × Nat)
    (hb : RepB (setBlk w b (.cells vs T fr)) (Ow own0 ρ H) ρ i blk) :
    Mem own0 mt w0 ρ (upd H i (some blk)) (setBlk w b (.cells vs T fr)) ∧ (∀ x, Ow own0 ρ (upd H i (some blk)) x ↔ Ow own0 ρ H x) := by
  have hso : solid (H i) = true := by cases h : H i with | none => simp [h, live] at hl | some x => cases x <;> simp_all [live, solid]
  have how : ∀ x, Ow own0 ρ (upd H i (some blk)) x ↔ Ow own0 ρ H x := by
    intro x
    constructor
    · rintro (h | ⟨j, bs, cp, hj, hjl⟩)
      · exact .inl h
      · refine .inr ⟨j, bs, cp, hj, ?_⟩
        by_cases e : j = i
        · subst e; exact hl
        · rwa [upd_other _ _ e] at hjl
    · rintro (h | ⟨j, bs, cp, hj, hjl⟩)
      · exact .inl h
      · refine .inr ⟨j, bs, cp, hj, ?_⟩
        by_cases e : j = i
        · subst e; simpa using hl'
        · rwa [upd_other _ _ e]
  have hown : Ow own0 ρ H b := .inr ⟨i, base, c, hp, hl⟩
  have hlt := (hm.fresh i _ _ _ hp).2.1
  refine ⟨?_, how⟩
  exact {
    blks := fun j bl hj => by
      by_cases e : j = i
      · subst e; simp only [upd_same, Option.some.injEq] at hj; subst hj
        exact hb.mono (Keep.refl _ _) (fun x _ hx => (how x).1 hx) (.refl _) fun _ _ _ _ _ => rfl
      · rw [upd_other _ _ e] at hj
        refine (hm.blks j bl hj).mono (Keep.setBlk hown _) (fun x _ hx => (how x).1 hx) (.refl _) fun b' base' c' hp' hs => ?_
        exact setBlk_heap_other (hm.inj j i _ _ _ _ _ _ (by rw [hj]; exact hs) hso hp' hp e)
    defd := fun j hj => by
      by_cases e : j = i
      · subst e; simp at hj
      · rw [upd_other _ _ e] at hj; exact hm.defd j hj
    inj := fun j j' b1 c1 k1 b2 c2 k2 h1 h2 h3 h4 hne => by
      have fix : ∀ {j : Nat}, solid (upd H i (some blk) j) = true → solid (H j) = true := fun {j} h => by
        by_cases e : j = i
        · subst e; exact hso
        · rwa [upd_other _ _ e] at h
      exact hm.inj j j' _ _ _ _ _ _ (fix h1) (fix h2) h3 h4 hne
    fresh := fun j b' c' k' hj => by obtain ⟨h1, h2, h3⟩ := hm.fresh j _ _ _ hj; exact ⟨h1, by simpa using h2, h3⟩
    keep := ⟨hm.keep.os, hm.keep.tape, hm.keep.output, by simpa using hm.keep.size, fun x hx hn => by
      rw [setBlk_heap_other fun e => ?_]
      · exact hm.keep.block x hx hn
      · subst e
        rcases (hm.fresh i _ _ _ hp).1 with h | h
        · omega
        · exact hn h⟩
    own0 := hm.own0
    glob := hm.glob }

theorem ow_relax {i : Nat} {blk : Blk} (h : live (some blk) = true → live (H i) = true) {b : Nat} (hb : Ow own0 ρ (upd H i (some blk)) b) : Ow own0 ρ H b := by
  rcases hb with hb | ⟨j, bs, cp, hj, hl⟩
  · exact .inl hb
  · refine .inr ⟨j, bs, cp, hj, ?_⟩
    by_cases e : j = i
    · subst e; exact h (by simpa using hl)
    · rwa [upd_other _ _ e] at hl

/-- A block is seen as less: a row as one that nobody writes, anything as gone. -/
theorem Mem.relax (hm : Mem own0 mt w0 ρ H w) {i : Nat} {blk : Blk} (hl : live (some blk) = true → live (H i) = true) (hso : solid (some blk) = true → solid (H i) = true)
    (hb : RepB w (Ow own0 ρ (upd H i (some blk))) ρ i blk) : Mem own0 mt w0 ρ (upd H i (some blk)) w where
  blks j bl hj := by
    by_cases e : j = i
    · subst e; simp only [upd_same, Option.some.injEq] at hj; subst hj; exact hb
    · rw [upd_other _ _ e] at hj
      exact (hm.blks j bl hj).mono (Keep.refl _ _) (fun b _ h => ow_relax hl h) (.refl _) fun _ _ _ _ _ => rfl
  defd j hj := by
    by_cases e : j = i
    · subst e; simp at hj
    · rw [upd_other _ _ e] at hj; exact hm.defd j hj
  inj j j' b1 c1 k1 b2 c2 k2 h1 h2 h3 h4 hne := by
    have fix : ∀ {j : Nat}, solid (upd H i (some blk) j) = true → solid (H j) = true := fun {j} h => by
      by_cases e : j = i
      · subst e; exact hso (by simpa using h)
      · rwa [upd_other _ _ e] at h
    exact hm.inj j j' _ _ _ _ _ _ (fix h1) (fix h2) h3 h4 hne
  fresh := hm.fresh
  keep := hm.keep
  own0 := hm.own0
  glob := hm.glob

theorem Mem.freeze (hm : Mem own0 mt w0 ρ H w) {i k : Nat} {rows : List (List V)} (h : H i = some (.row k rows)) : Mem own0 mt w0 ρ (upd H i (some (.ice k rows))) w :=
  hm.relax (by simp [live]) (by simp [h, solid]) (by
    have := (hm.blks i _ h).mono (Keep.refl _ _) (fun b _ hb => ow_relax (by simp [live]) hb) (.refl _) (fun _ _ _ _ _ => rfl) (ow' := Ow own0 ρ (upd H i (some (.ice k rows))))
    exact this)

theorem Mem.kill (hm : Mem own0 mt w0 ρ H w) (i : Nat) : Mem own0 mt w0 ρ (upd H i (some .gone)) w :=
  hm.relax (by simp [live]) (by simp [solid]) trivial

/-- What is read of a row: as a pure slice, once nobody writes it. -/
theorem RepC.pure {ow ow' : Nat → Prop} {r n k : Nat} {rows : List (List V)} {u : Value} (hc : RepC w ow ρ (.o r n) u) {blk : Blk} (hblk : blk = .row k rows ∨ blk = .ice k rows) (hb : RepB w ow ρ r blk)
    (hn : n ≤ rows.length) (hs : ∀ b, ow' b → ow b) (ho : ∀ b base c, ρ r = some (.blk b base c) → ¬ ow' b) : RepV w ow' (.s k (rows.take n)) u := by
  have hb' : (∀ r, r ∈ rows → r.length = k) ∧ ∃ m, ρ r = some m ∧ match m with
    | .nil => rows = []
    | .blk b base cap => rows.length ≤ cap ∧ ∃ vs T fr, w.heap[b]? = some (.cells vs T fr) ∧ RFr k vs fr ∧ base + cap * k ≤ vs.size ∧
        ∀ (i : Nat) (r : List V) (j : Nat) (v : V), rows[i]? = some r → r[j]? = some v → ∃ x, vs[base + i * k + j]? = some x ∧ RepV w ow v x := by
    rcases hblk with rfl | rfl <;> exact hb
  obtain ⟨hlen, m, hm, hb'⟩ := hb'
  obtain ⟨m', hm', hc⟩ := hc
  rw [hm] at hm'; cases hm'
  cases m with
  | nil =>
    simp only at hb' hc
    obtain ⟨rfl, a, rfl⟩ := hc
    refine .s k _ a 0 0 (fun _ _ => undef) (by simp) (by simp) (by simp) (Nat.le_refl _) ?_ ?_ <;> simp
  | blk b base cap =>
    simp only at hb' hc
    obtain ⟨rfl, hle⟩ := hc
    obtain ⟨h1, vs, T, fr, hh, hf, h2, h3⟩ := hb'
    have get : ∀ (i : Nat) (r : List V) (j : Nat) (v : V), (rows.take n)[i]? = some r → r[j]? = some v → rows[i]? = some r := fun i r j v hi hj => by
      rw [List.getElem?_take] at hi; split at hi
      · exact hi
      · cases hi
    refine .s k _ (some ⟨b, base, none⟩) n cap (fun i j => (vs[base + i * k + j]?).getD undef) (by simp; omega) (fun i r hi => hlen r (List.mem_of_mem_take (List.mem_of_getElem? hi))) (by simp) hle ?_ ?_
    · intro ad had i r j v hi hj
      cases had
      obtain ⟨x, hx, _⟩ := h3 i r j v (get i r j v hi hj) hj
      refine ⟨?_, ?_⟩
      · have : (Addr.add ⟨b, base, none⟩ (i * k + j)) = ⟨b, base + i * k + j, none⟩ := by
          unfold Addr.add; split
          · rename_i h0; simp [Nat.add_assoc, h0]
          · simp [Nat.add_assoc]
        rw [this]
        simp [World.cell?, hh, hx]
      · exact ho _ _ _ hm
    · intro i r j v hi hj
      obtain ⟨x, hx, hv⟩ := h3 i r j v (get i r j v hi hj) hj
      simp only [hx, Option.getD_some]
      exact hv.mono (Keep.refl _ _) fun b _ h => hs b h

end Eng
end Go.Proofs.YtllfgnhnooonfaaDoor
