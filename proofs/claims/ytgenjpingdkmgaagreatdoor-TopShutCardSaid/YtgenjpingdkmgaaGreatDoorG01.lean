/- Contracts of functions that this seat's law calls. No condition. -/
import Derived.Orders
import Derived.Wp
import Derived.Below
import Derived.WalkKit
set_option maxRecDepth 100000
set_option linter.unusedSimpArgs false
set_option linter.unusedVariables false
namespace Go.Proofs.YtgenjpingdkmgaaGreatDoor
namespace Eng
inductive V where
 | x (v:Value)
 | s (k:Nat) (rows:List (List V))
 | f (fn:Nat) (caps:List (List V))
deriving Inhabited
inductive C where
 | v (a:V)
 | o (r n:Nat)
deriving Inhabited
inductive E where
 | c (a:C)
 | a (cs:List C)
deriving Inhabited
inductive D where
 | e (a:E)
 | t (es:List E)
 | p (b off:Nat)
 | q (cs:List V)
 | w (r k i off:Nat)
 | u (r k off n:Nat)
 | g (b:Bool) (d:D)
 | top
deriving Inhabited
inductive Blk where
 | loc (cs:List C)
 | row (k:Nat) (rows:List (List V))
 | ice (k:Nat) (rows:List (List V))
 | full (k:Nat) (rows:List (List V)) (c:Nat)
 | rowx (k:Nat) (rows:List (List V)) (n:Nat) (cs:List C)
 | gone
deriving Inhabited
inductive Pl where
 | nil
 | blk (b base cap:Nat)
def All2 {α β:Type} (R:α->β->Prop):List α->List β->Prop
 | [],[]=>True
 | a::as,b::bs=>R a b/\All2 R as bs
 | _,_=>False
theorem All2.mono {α β:Type} {R R':α->β->Prop} (hr:∀a b,R a b->R' a b):∀ {as:List α} {bs:List β},All2 R as bs->All2 R' as bs
 | [],[],_=>trivial
 | _::_,_::_,⟨h,hs⟩=>⟨hr _ _ h,All2.mono hr hs⟩
 | [],_::_,h=>h.elim
 | _::_,[],h=>h.elim
theorem All2.length {α β:Type} {R:α->β->Prop}:∀ {as:List α} {bs:List β},All2 R as bs->as.length=bs.length
 | [],[],_=>rfl
 | _::_,_::_,⟨_,hs⟩=>by simp[All2.length hs]
 | [],_::_,h=>h.elim
 | _::_,[],h=>h.elim
theorem All2.get {α β:Type} {R:α->β->Prop}:∀ {as:List α} {bs:List β},All2 R as bs->∀ {i:Nat} {a:α},as[i]?=some a->∃b,bs[i]?=some b/\R a b
 | [],[],_,i,a,h=>by simp at h
 | x::as,y::bs,⟨h0,hs⟩,i,a,h=>by
  cases i with
  | zero=>simp at h;subst h;exact ⟨y,rfl,h0⟩
  | succ i=>simp at h;simpa using All2.get hs h
 | [],_::_,h,_,_,_=>h.elim
 | _::_,[],h,_,_,_=>h.elim
theorem All2.of_get {α β:Type} {R:α->β->Prop}:∀ {as:List α} {bs:List β},as.length=bs.length->(∀(i:Nat) (a:α) (b:β),as[i]?=some a->bs[i]?=some b->R a b)->All2 R as bs
 | [],[],_,_=>trivial
 | x::as,y::bs,hl,h=>⟨h 0 x y rfl rfl,All2.of_get (by simpa using hl) fun i a b ha hb=>h (i+1) a b (by simpa using ha) (by simpa using hb)⟩
 | [],_::_,hl,_=>by simp at hl
 | _::_,[],hl,_=>by simp at hl
theorem All2.append {α β:Type} {R:α->β->Prop}:∀ {as as':List α} {bs bs':List β},All2 R as bs->All2 R as' bs'->All2 R (as++as') (bs++bs')
 | [],_,[],_,_,h=>h
 | _::_,_,_::_,_,⟨h,hs⟩,h'=>⟨h,All2.append hs h'⟩
 | [],_,_::_,_,h,_=>h.elim
 | _::_,_,[],_,h,_=>h.elim
theorem All2.take {α β:Type} {R:α->β->Prop}:∀ {as:List α} {bs:List β} (n:Nat),All2 R as bs->All2 R (as.take n) (bs.take n)
 | [],[],n,_=>by simp[All2]
 | x::as,y::bs,0,_=>by simp[All2]
 | x::as,y::bs,n+1,⟨h,hs⟩=>⟨h,All2.take n hs⟩
 | [],_::_,_,h=>h.elim
 | _::_,[],_,h=>h.elim
theorem All2.drop {α β:Type} {R:α->β->Prop}:∀ {as:List α} {bs:List β} (n:Nat),All2 R as bs->All2 R (as.drop n) (bs.drop n)
 | [],[],n,_=>by simp[All2]
 | x::as,y::bs,0,h=>by simpa using h
 | x::as,y::bs,n+1,⟨h,hs⟩=>by simpa using All2.drop n hs
 | [],_::_,_,h=>h.elim
 | _::_,[],_,h=>h.elim
theorem All2.map_left {α β γ:Type} {R:α->β->Prop} {f:γ->α}:∀ {as:List γ} {bs:List β},All2 (fun a b=>R (f a) b) as bs->All2 R (as.map f) bs
 | [],[],_=>trivial
 | _::_,_::_,⟨h,hs⟩=>⟨h,All2.map_left hs⟩
 | [],_::_,h=>h.elim
 | _::_,[],h=>h.elim
inductive RepV (w:World) (ow:Nat->Prop):V->Value->Prop
 | x (v:Value) (h:v.oneCell=true):RepV w ow (.x v) v
 | s (k:Nat) (rows:List (List V)) (a:Option Addr) (n c:Nat) (g:Nat->Nat->Value) (hn:n=rows.length)
  (hk:∀(i:Nat) (r:List V),rows[i]?=some r->r.length=k) (hz:a=none->rows=[]) (hcap:n<=c)
  (hc:∀ad,a=some ad->∀(i:Nat) (r:List V) (j:Nat) (v:V),rows[i]?=some r->r[j]?=some v->w.cell? (ad.add (i*k+j))=some (g i j)/\¬ow ad.block)
  (hr:∀(i:Nat) (r:List V) (j:Nat) (v:V),rows[i]?=some r->r[j]?=some v->RepV w ow v (g i j)):RepV w ow (.s k rows) (.slice a n c)
 | f (fn:Nat) (caps:List (List V)) (ads:List Addr) (g:Nat->Nat->Value) (hn:ads.length=caps.length)
  (hc:∀(i:Nat) (ad:Addr) (r:List V) (j:Nat) (v:V),ads[i]?=some ad->caps[i]?=some r->r[j]?=some v->w.cell? (ad.add j)=some (g i j)/\¬ow ad.block)
  (hr:∀(i:Nat) (r:List V) (j:Nat) (v:V),caps[i]?=some r->r[j]?=some v->RepV w ow v (g i j)):RepV w ow (.f fn caps) (.func (.func fn) #[] (ads.map fun a=>Value.pointer (some a)).toArray)
structure Keep (w:World) (ow:Nat->Prop) (w':World):Prop where
 size:w.heap.size<=w'.heap.size
 block:∀b,b<w.heap.size->¬ow b->w'.heap[b]?=w.heap[b]?
theorem Keep.refl (w:World) (ow:Nat->Prop):Keep w ow w:=⟨Nat.le_refl _,fun _ _ _=>rfl⟩
theorem Yg (a:Addr) (n:Nat):(a.add n).block=a.block:=by
 unfold Addr.add;split<;>rfl
theorem Keep.cell {w w':World} {ow:Nat->Prop} (hk:Keep w ow w') {a:Addr} {x:Value} (h:w.cell? a=some x) (ho:¬ow a.block):w'.cell? a=some x:=by
 rw[<-h];exact World.cell?_of_block (hk.block _ (World.block_lt_of_cell? _ _ h) ho)
theorem RepV.mono {w w':World} {ow ow':Nat->Prop} {v:V} {u:Value} (h:RepV w ow v u) (hk:Keep w ow w')
 (ho:∀b,b<w.heap.size->ow' b->ow b):RepV w' ow' v u:=by
 induction h with
 | x v h=>exact .x v h
 | s k rows a n c g hn hk' hz hcap hc hr ih =>
  refine .s k rows a n c g hn hk' hz hcap (fun ad ha i r j v hi hj=>?_) (fun i r j v hi hj=>ih i r j v hi hj);obtain ⟨h1,h2⟩:=hc ad ha i r j v hi hj;have hlt:ad.block<w.heap.size:=by have:=World.block_lt_of_cell? _ _ h1;rwa [Yg]at this
  exact ⟨hk.cell h1 (by rwa [Yg]),fun h=>h2 (ho _ hlt h)⟩
 | f fn caps ads g hn hc hr ih =>
  refine .f fn caps ads g hn (fun i ad r j v ha hi hj=>?_) (fun i r j v hi hj=>ih i r j v hi hj);obtain ⟨h1,h2⟩:=hc i ad r j v ha hi hj;have hlt:ad.block<w.heap.size:=by have:=World.block_lt_of_cell? _ _ h1;rwa [Yg]at this
  exact ⟨hk.cell h1 (by rwa [Yg]),fun h=>h2 (ho _ hlt h)⟩
theorem RepV.oneCell {w:World} {ow:Nat->Prop} {v:V} {u:Value} (h:RepV w ow v u):u.oneCell=true:=by
 cases h with
 | x _ h=>exact h
 | s=>rfl
 | f=>rfl
def RepC (w:World) (ow:Nat->Prop) (ρ:Nat->Option Pl):C->Value->Prop
 | .v a,u=>RepV w ow a u
 | .o r n,u=>∃m,ρ r=some m/\match m with
  | .nil=>n=0/\∃a,u=.slice a 0 0
  | .blk b base cap=>u=.slice (some ⟨b,base,none⟩) n cap/\n<=cap
def RepE (w:World) (ow:Nat->Prop) (ρ:Nat->Option Pl):E->Value->Prop
 | .c a,u=>RepC w ow ρ a u
 | .a cs,u=>∃us:List Value,u=.agg us.toArray/\All2 (RepC w ow ρ) cs us
def RepD (w:World) (ow:Nat->Prop) (ρ:Nat->Option Pl):D->Value->Prop
 | .e a,u=>RepE w ow ρ a u
 | .t es,u=>∃us:List Value,u=.tuple us.toArray/\All2 (RepE w ow ρ) es us
 | .p b off,u=>∃bn z c,ρ b=some (.blk bn z c)/\u=.pointer (some ⟨bn,z+off,none⟩)
 | .q cs,u=>∃ad,u=.pointer (some ad)/\∀(j:Nat) (v:V),cs[j]?=some v->∃x,w.cell? (ad.add j)=some x/\RepV w ow v x/\¬ow ad.block
 | .w r k i off,u=>∃b base cap,ρ r=some (.blk b base cap)/\u=.pointer (some ⟨b,base+i*k+off,none⟩)
 | .u r k off n,u=>∃m,ρ r=some m/\match m with
  | .nil=>n=0/\∃a,u=.slice a 0 0
  | .blk b base cap=>off+n<=cap/\∃a c,u=.slice a n c/\n<=c/\(0<n->a=some ⟨b,base+off*k,none⟩)
 | .g b d,u=>(b=true->RepD w ow ρ d u)/\(b=false->u=undef)
 | .top,_=>True
def NoFr (vs:Array Value) (fr:Nat×Nat):Prop:=fr.1=fr.2\/vs.size<=fr.1
theorem NoFr.off {vs:Array Value} {fr:Nat×Nat} (h:NoFr vs fr) (off:Nat) (ho:off<vs.size):¬(fr.1<=off/\off<fr.2):=by
 rcases h with h|h<;>omega
theorem NoFr.size {vs vs':Array Value} {fr:Nat×Nat} (h:NoFr vs fr) (e:vs'.size=vs.size):NoFr vs' fr:=by
 rcases h with h|h
 .exact .inl h
 .exact .inr (by omega)
def RFr (k:Nat) (vs:Array Value) (fr:Nat×Nat):Prop:=NoFr vs fr/\(k=1\/fr.1=fr.2)
theorem RFr.size {k:Nat} {vs vs':Array Value} {fr:Nat×Nat} (h:RFr k vs fr) (e:vs'.size=vs.size):RFr k vs' fr:=⟨h.1.size e,h.2⟩
def LFr (c:Nat) (vs:Array Value) (fr:Nat×Nat):Prop:=NoFr vs fr/\c=1/\fr.1=fr.2
theorem LFr.size {c:Nat} {vs vs':Array Value} {fr:Nat×Nat} (h:LFr c vs fr) (e:vs'.size=vs.size):LFr c vs' fr:=⟨h.1.size e,h.2⟩
def roomOf:Pl->Nat
 | .nil=>0
 | .blk _ _ cap=>cap
def RepB (w:World) (ow:Nat->Prop) (ρ:Nat->Option Pl) (i:Nat):Blk->Prop
 | .loc cs=>∃b c,ρ i=some (.blk b 0 c)/\∃vs T fr,w.heap[b]?=some (.cells vs T fr)/\LFr c vs fr/\All2 (RepC w ow ρ) cs vs.toList
 | .row k rows|.ice k rows=>(∀r,r∈rows->r.length=k)/\∃m,ρ i=some m/\match m with
  | .nil=>rows=[]
  | .blk b base cap=>rows.length<=cap/\∃vs T fr,w.heap[b]?=some (.cells vs T fr)/\RFr k vs fr/\base+cap*k<=vs.size /\
   ∀(i:Nat) (r:List V) (j:Nat) (v:V),rows[i]?=some r->r[j]?=some v->∃x,vs[base+i*k+j]?=some x/\RepV w ow v x
 | .full k rows c=>((∀r,r∈rows->r.length=k)/\∃m,ρ i=some m/\match m with
  | .nil=>rows=[]
  | .blk b base cap=>rows.length<=cap/\∃vs T fr,w.heap[b]?=some (.cells vs T fr)/\RFr k vs fr/\base+cap*k<=vs.size /\
   ∀(i:Nat) (r:List V) (j:Nat) (v:V),rows[i]?=some r->r[j]?=some v->∃x,vs[base+i*k+j]?=some x/\RepV w ow v x)/\∀m,ρ i=some m->roomOf m=c
 | .rowx k rows n cs=>(∀r,r∈rows->r.length=k)/\n<rows.length/\cs.length=k/\∃b base cap,ρ i=some (.blk b base cap)/\rows.length<=cap/\∃vs T fr,w.heap[b]?=some (.cells vs T fr)/\RFr k vs fr/\base+cap*k<=vs.size /\
  (∀(m:Nat) (r:List V) (j:Nat) (v:V),m≠n->rows[m]?=some r->r[j]?=some v->∃x,vs[base+m*k+j]?=some x/\RepV w ow v x) /\
  ∀(j:Nat) (c:C),cs[j]?=some c->∃x,vs[base+n*k+j]?=some x/\RepC w ow ρ c x
 | .gone=>True
theorem RepB.row_of_full {w:World} {ow:Nat->Prop} {ρ:Nat->Option Pl} {i k:Nat} {rows:List (List V)} {c:Nat} (h:RepB w ow ρ i (.full k rows c)):RepB w ow ρ i (.row k rows):=h.1
def live:Option Blk->Bool
 | some (.loc _)=>true
 | some (.row _ _)=>true
 | some (.full _ _ _)=>true
 | some (.rowx _ _ _ _)=>true
 | _=>false
def solid:Option Blk->Bool
 | some (.loc _)=>true
 | some (.row _ _)=>true
 | some (.ice _ _)=>true
 | some (.full _ _ _)=>true
 | some (.rowx _ _ _ _)=>true
 | _=>false
def Ow (own0:Nat->Prop) (ρ:Nat->Option Pl) (H:Nat->Option Blk) (b:Nat):Prop :=
 own0 b\/∃i base cap,ρ i=some (.blk b base cap)/\live (H i)=true
def Sub (ρ ρ':Nat->Option Pl):Prop:=∀i m,ρ i=some m->ρ' i=some m
theorem Sub.refl (ρ:Nat->Option Pl):Sub ρ ρ:=fun _ _ h=>h
theorem Sub.trans {a b c:Nat->Option Pl} (h:Sub a b) (k:Sub b c):Sub a c:=fun i m hm=>k i m (h i m hm)
section mono
variable {w w':World} {ow ow':Nat->Prop} {ρ ρ':Nat->Option Pl}
theorem RepC.mono (hk:Keep w ow w') (ho:∀b,b<w.heap.size->ow' b->ow b) (hs:Sub ρ ρ') {c:C} {u:Value} (h:RepC w ow ρ c u):RepC w' ow' ρ' c u:=by
 cases c with
 | v a=>exact RepV.mono h hk ho
 | o r n=>obtain ⟨m,hm,h⟩:=h;exact ⟨m,hs _ _ hm,h⟩
theorem RepE.mono (hk:Keep w ow w') (ho:∀b,b<w.heap.size->ow' b->ow b) (hs:Sub ρ ρ') {e:E} {u:Value} (h:RepE w ow ρ e u):RepE w' ow' ρ' e u:=by
 cases e with
 | c a=>exact RepC.mono hk ho hs h
 | a cs=>obtain ⟨us,hu,h⟩:=h;exact ⟨us,hu,h.mono fun _ _=>RepC.mono hk ho hs⟩
theorem RepD.mono (hk:Keep w ow w') (ho:∀b,b<w.heap.size->ow' b->ow b) (hs:Sub ρ ρ') {d:D} {u:Value} (h:RepD w ow ρ d u):RepD w' ow' ρ' d u:=by
 induction d generalizing u with
 | e a=>exact RepE.mono hk ho hs h
 | t es=>obtain ⟨us,hu,h⟩:=h;exact ⟨us,hu,h.mono fun _ _=>RepE.mono hk ho hs⟩
 | p b off=>obtain ⟨bn,z,c,hb,hu⟩:=h;exact ⟨bn,z,c,hs _ _ hb,hu⟩
 | q cs =>
  obtain ⟨ad,hu,h⟩:=h;refine ⟨ad,hu,fun j v hj=>?_⟩;obtain ⟨x,hx,hv,hn⟩:=h j v hj;have hlt:ad.block<w.heap.size:=by have:=World.block_lt_of_cell? _ _ hx;rwa [Yg]at this
  exact ⟨x,hk.cell hx (by rwa [Yg]),hv.mono hk ho,fun h=>hn (ho _ hlt h)⟩
 | w r k i off=>obtain ⟨b,base,cap,hb,hu⟩:=h;exact ⟨b,base,cap,hs _ _ hb,hu⟩
 | u r k off n=>obtain ⟨m,hm,h⟩:=h;exact ⟨m,hs _ _ hm,h⟩
 | g b d ih=>exact ⟨fun hb=>ih (h.1 hb),h.2⟩
 | top=>trivial
theorem RepB.mono (hk:Keep w ow w') (ho:∀b,b<w.heap.size->ow' b->ow b) (hs:Sub ρ ρ') {i:Nat} {blk:Blk} (h:RepB w ow ρ i blk)
 (hb:∀b base c,ρ i=some (.blk b base c)->solid (some blk)=true->w'.heap[b]?=w.heap[b]?):RepB w' ow' ρ' i blk:=by
 cases blk with
 | loc cs =>
  obtain ⟨b,c,hp,vs,T,fr,hh,hf,ha⟩:=h
  exact ⟨b,c,hs _ _ hp,vs,T,fr,by rw[hb _ _ _ hp rfl,hh],hf,ha.mono fun _ _=>RepC.mono hk ho hs⟩
 | row k rows =>
  obtain ⟨hl,m,hm,h⟩:=h;refine ⟨hl,m,hs _ _ hm,?_⟩
  cases m with
  | nil=>exact h
  | blk b base cap =>
   obtain ⟨h1,vs,T,fr,hh,hf,h2,h3⟩:=h;refine ⟨h1,vs,T,fr,by rw[hb _ _ _ hm rfl,hh],hf,h2,fun i r j v hi hj=>?_⟩;obtain ⟨x,hx,hv⟩:=h3 i r j v hi hj
   exact ⟨x,hx,hv.mono hk ho⟩
 | ice k rows =>
  obtain ⟨hl,m,hm,h⟩:=h;refine ⟨hl,m,hs _ _ hm,?_⟩
  cases m with
  | nil=>exact h
  | blk b base cap =>
   obtain ⟨h1,vs,T,fr,hh,hf,h2,h3⟩:=h;refine ⟨h1,vs,T,fr,by rw[hb _ _ _ hm rfl,hh],hf,h2,fun i r j v hi hj=>?_⟩;obtain ⟨x,hx,hv⟩:=h3 i r j v hi hj
   exact ⟨x,hx,hv.mono hk ho⟩
 | full k rows c =>
  obtain ⟨⟨hl,m,hm,h⟩,hc⟩:=h;refine ⟨⟨hl,m,hs _ _ hm,?_⟩,fun m' hm'=>hc m' (by rw[hm];rw[hs _ _ hm]at hm';exact hm')⟩
  cases m with
  | nil=>exact h
  | blk b base cap =>
   obtain ⟨h1,vs,T,fr,hh,hf,h2,h3⟩:=h;refine ⟨h1,vs,T,fr,by rw[hb _ _ _ hm rfl,hh],hf,h2,fun i r j v hi hj=>?_⟩;obtain ⟨x,hx,hv⟩:=h3 i r j v hi hj
   exact ⟨x,hx,hv.mono hk ho⟩
 | rowx k rows n cs =>
  obtain ⟨hl,hn,hk',b,base,cap,hm,h1,vs,T,fr,hh,hf,h2,h3,h4⟩:=h;refine ⟨hl,hn,hk',b,base,cap,hs _ _ hm,h1,vs,T,fr,by rw[hb _ _ _ hm rfl,hh],hf,h2,fun m r j v hne hi hj=>?_,fun j c hj=>?_⟩
  .obtain ⟨x,hx,hv⟩:=h3 m r j v hne hi hj;exact ⟨x,hx,hv.mono hk ho⟩
  .obtain ⟨x,hx,hv⟩:=h4 j c hj
   exact ⟨x,hx,RepC.mono hk ho hs hv⟩
 | gone=>trivial
end mono
structure KeepM (mt:Nat->Prop) (w w':World):Prop where
 os:w'.os=w.os
 tape:w'.tape=w.tape
 output:w'.output=w.output
 size:w.heap.size<=w'.heap.size
 block:∀b,b<w.heap.size->¬mt b->w'.heap[b]?=w.heap[b]?
theorem KeepM.refl (mt:Nat->Prop) (w:World):KeepM mt w w:=⟨rfl,rfl,rfl,Nat.le_refl _,fun _ _ _=>rfl⟩
def globT:List (Nat×List Value):=[(1,([[],[111,114,100,101,114],[99,104,97,110,103,101],[116,111,108,100],[116,105,99,107],[107,105,108,108],[103,97,112],[114,101,115,101,116],[108,105,109,105,116]]:List (List UInt8)).map fun s=>Value.string ⟨s.toArray⟩),(2,([[],[110,101,119],[102,105,108,108],[99,97,110,99,101,108],[114,101,112,108,97,99,101],[114,101,106,101,99,116],[101,120,112,105,114,101],[98,117,115,116],[99,111,114,114,101,99,116]]:List (List UInt8)).map fun s=>Value.string ⟨s.toArray⟩)]
theorem globT_one:(globT.all fun t=>t.2.all Value.oneCell)=true:=by rfl
def globs:List (Nat×(Option Obj->Prop)):=[(7,fun o=>∃tp p t z,o=some (.cells #[.iface tp p] t z)),(3,fun o=>∃t z,o=some (.cells (((List.range 20).map fun i=>((10 ^ i:Nat):Int)).map fun z=>Value.int .u64 z).toArray t z))]++globT.map fun x=>(x.1,fun o=>∃t z,o=some (.cells x.2.toArray t z))
def Glob (mt:Nat->Prop) (w0:World):Prop:=∀x,x∈globs->x.1<w0.heap.size/\¬mt x.1/\x.2 w0.heap[x.1]?
theorem Glob.next {mt mt':Nat->Prop} {w w':World} (h:Glob mt w) (k:KeepM mt w w') (hm:∀b,mt' b->w.heap.size<=b\/mt b):Glob mt' w':=fun x hx=>by
 obtain ⟨h1,h2,h3⟩:=h x hx;exact ⟨Nat.lt_of_lt_of_le h1 k.size,fun e=>by rcases hm _ e with e|e;omega;exact h2 e,by rw[k.block _ h1 h2];exact h3⟩
theorem Glob.next2 {mk mt mt':Nat->Prop} {w w':World} (h:Glob mt w) (k:KeepM mk w w') (hk:∀b,mk b->mt b) (hm:∀b,mt' b->w.heap.size<=b\/mt b):Glob mt' w':=fun x hx=>by
 obtain ⟨h1,h2,h3⟩:=h x hx;exact ⟨Nat.lt_of_lt_of_le h1 k.size,fun e=>by rcases hm _ e with e|e;omega;exact h2 e,by rw[k.block _ h1 fun e=>h2 (hk _ e)];exact h3⟩
structure Mem (own0 mt:Nat->Prop) (w0:World) (ρ:Nat->Option Pl) (H:Nat->Option Blk) (w:World):Prop where
 blks:∀i b,H i=some b->RepB w (Ow own0 ρ H) ρ i b
 defd:∀i,H i=none->ρ i=none
 inj:∀i j b c k b' c' k',solid (H i)=true->solid (H j)=true->ρ i=some (.blk b c k)->ρ j=some (.blk b' c' k')->i≠j->b≠b'
 fresh:∀i b c k,ρ i=some (.blk b c k)->(w0.heap.size<=b\/mt b)/\b<w.heap.size/\¬own0 b
 keep:KeepM mt w0 w
 glob:Glob (fun b=>mt b\/own0 b) w0
 own0:∀b,own0 b->b<w0.heap.size
theorem lookup_mem {β:Type} {g:Nat} {c:β}:∀ {l:List (Nat×β)},l.lookup g=some c->(g,c)∈l
 | [],h=>by cases h
 | (k,b)::l,h=>by
  rw[List.lookup_cons]at h
  split at h
  .rename_i e;cases h;have:g=k:=by simpa using e
   subst this;exact List.mem_cons_self ..
  .exact List.mem_cons_of_mem _ (lookup_mem h)
def TabsAt (w:World) (ow:Nat->Prop):Prop:=∀g cs,globT.lookup g=some cs->¬ow g/\∀(j:Nat) v,cs[j]?=some v->w.cell? ⟨g,j,none⟩=some v/\v.oneCell=true
theorem Mem.tabs {own0 mt:Nat->Prop} {w0:World} {ρ:Nat->Option Pl} {H:Nat->Option Blk} {w:World} (hm:Mem own0 mt w0 ρ H w):TabsAt w (Ow own0 ρ H):=fun g cs h=>by
 have hmem:=lookup_mem h;obtain ⟨h1,h2,t,z,h3⟩:=hm.glob _ (List.mem_append_right _ (List.mem_map.2 ⟨_,hmem,rfl⟩));dsimp only at h1 h2 h3;have hk:=hm.keep.block g h1 fun e=>h2 (.inl e);refine ⟨fun ho=>?_,fun j v hj=>⟨?_,?_⟩⟩
 .rcases ho with ho|⟨i,base,cap,hp,_⟩
  .exact h2 (.inr ho)
  .rcases (hm.fresh i _ _ _ hp).1 with e|e
   .omega
   .exact h2 (.inl e)
 .unfold World.cell?;dsimp only;rw[hk,h3];simpa using hj
 .have:=List.all_eq_true.1 globT_one _ hmem;exact List.all_eq_true.1 this v (List.mem_of_getElem? hj)
structure Rel (own0 mt:Nat->Prop) (w0:World) (ρ0:Nat->Option Pl) (N:Nat) (ρ:Nat->Option Pl) (En:Nat->D) (H:Nat->Option Blk) (a:Act) (w:World):Prop where
 defers:a.defers=[]
 base:Sub ρ0 ρ
 size:a.tmps.size=N
 tmps:∀t,RepD w (Ow own0 ρ H) ρ (En t) (a.tmps.getD t undef)
 mem:Mem own0 mt w0 ρ H w
def upd {α:Type} (f:Nat->α) (i:Nat) (v:α):Nat->α:=fun j=>if j=i then v else f j
@[simp] theorem upd_same {α:Type} (f:Nat->α) (i:Nat) (v:α):upd f i v i=v:=by simp[upd]
def updL (H:Nat->Option Blk):List (Nat×Blk)->Nat->Option Blk
 | []=>H
 | (i,b)::r=>updL (upd H i (some b)) r
theorem Zg {α:Type} (f:Nat->α) {i j:Nat} (v:α) (h:j≠i):upd f i v j=f j:=by simp[upd,h]
end Eng
end Go.Proofs.YtgenjpingdkmgaaGreatDoor
namespace Go.Proofs.YtgenjpingdkmgaaGreatDoor
namespace Eng
variable {own0 mt:Nat->Prop} {w0 w w':World} {ρ ρ':Nat->Option Pl} {H:Nat->Option Blk} {N:Nat} {En:Nat->D} {a:Act}
theorem KeepM.trans {a b c:World} (h:KeepM mt a b) (k:KeepM mt b c):KeepM mt a c :=
 ⟨k.os.trans h.os,k.tape.trans h.tape,k.output.trans h.output,Nat.le_trans h.size k.size,
  fun i hi hm=>(k.block i (Nat.lt_of_lt_of_le hi h.size) hm).trans (h.block i hi hm)⟩
theorem KeepM.alloc (h:KeepM mt w0 w) (o:Obj):KeepM mt w0 (w.alloc o) :=
 h.trans ⟨rfl,rfl,rfl,by simp,fun b hb _=>Go.RowKit.Below.heap_alloc _ _ _ hb⟩
theorem KeepM.drew (h:KeepM mt w0 w):KeepM mt w0 w.drew:=h.trans ⟨rfl,rfl,rfl,by simp,fun b hb _=>rfl⟩
theorem Keep.alloc (w:World) (ow:Nat->Prop) (o:Obj):Keep w ow (w.alloc o):=⟨by simp,fun b hb _=>Go.RowKit.Below.heap_alloc _ _ _ hb⟩
theorem Keep.drew (w:World) (ow:Nat->Prop):Keep w ow w.drew:=⟨by simp,fun b hb _=>rfl⟩
theorem Mem.drew (h:Mem own0 mt w0 ρ H w):Mem own0 mt w0 ρ H w.drew where
 blks i b hb:=(h.blks i b hb).mono (Keep.drew _ _) (fun _ _ h=>h) (.refl _) fun _ _ _ _ _=>rfl
 defd:=h.defd
 inj:=h.inj
 fresh:=h.fresh
 keep:=h.keep.drew
 own0:=h.own0
 glob:=h.glob
theorem Mem.ltOw (h:Mem own0 mt w0 ρ H w) {b:Nat} (hb:Ow own0 ρ H b):b<w.heap.size:=by
 rcases hb with hb|⟨i,base,cap,hi,_⟩
 .exact Nat.lt_of_lt_of_le (h.own0 _ hb) h.keep.size
 .exact (h.fresh i _ _ _ hi).2.1
theorem sub_upd {i:Nat} {m:Pl} (hi:ρ i=none):Sub ρ (upd ρ i (some m)):=fun j m' hj=>by
 by_cases e:j=i
 .subst e;rw[hi]at hj;cases hj
 .rw[Zg _ _ e];exact hj
theorem ow_alloc (hm:Mem own0 mt w0 ρ H w) {i c:Nat} (hi:H i=none) (blk:Blk) {b:Nat} (hb:b<w.heap.size)
 (h:Ow own0 (upd ρ i (some (.blk w.heap.size 0 c))) (upd H i (some blk)) b):Ow own0 ρ H b:=by
 rcases h with h|⟨j,base,cap,hj,hl⟩
 .exact .inl h
 .by_cases e:j=i
  .subst e;simp only[upd_same]at hj;cases hj;omega
  .rw[Zg _ _ e]at hj hl;exact .inr ⟨j,base,cap,hj,hl⟩
theorem Mem.new (hm:Mem own0 mt w0 ρ H w) {i c:Nat} (hi:H i=none) (blk:Blk) (vs:Array Value) (T:TypeId) (fr:Nat×Nat)
 (hb:RepB (w.alloc (.cells vs T fr)) (Ow own0 (upd ρ i (some (.blk w.heap.size 0 c))) (upd H i (some blk))) (upd ρ i (some (.blk w.heap.size 0 c))) i blk) :
 Mem own0 mt w0 (upd ρ i (some (.blk w.heap.size 0 c))) (upd H i (some blk)) (w.alloc (.cells vs T fr)) where
 blks j bl hj:=by
  by_cases e:j=i
  .subst e;simp only[upd_same,Option.some.injEq]at hj;subst hj;exact hb
  .rw[Zg _ _ e]at hj
   exact (hm.blks j bl hj).mono (Keep.alloc _ _ _) (fun b hlt h=>ow_alloc hm hi blk hlt h) (sub_upd (hm.defd i hi))
    fun b base c' hp _=>Go.RowKit.Below.heap_alloc _ _ _ (hm.fresh j _ _ _ hp).2.1
 defd j hj:=by
  by_cases e:j=i
  .subst e;simp at hj
  .rw[Zg _ _ e]at hj ⊢;exact hm.defd j hj
 inj j j' b c1 k b' c' k' hl hl' hj hj' hne:=by
  by_cases e:j=i
  .subst e;have e':j'≠j:=fun e=>hne e.symm;rw[Zg _ _ e']at hj';simp only[upd_same]at hj;cases hj;have:=(hm.fresh j' _ _ _ hj').2.1;omega
  .rw[Zg _ _ e]at hj hl;by_cases e':j'=i
   .subst e';simp only[upd_same]at hj';cases hj';have:=(hm.fresh j _ _ _ hj).2.1;omega
   .rw[Zg _ _ e']at hj' hl';exact hm.inj j j' _ _ _ _ _ _ hl hl' hj hj' hne
 fresh j b c' k hj:=by
  by_cases e:j=i
  .subst e;simp only[upd_same]at hj;cases hj;exact ⟨.inl hm.keep.size,by simp,fun h=>by have:=hm.own0 _ h;have:=hm.keep.size;omega⟩
  .rw[Zg _ _ e]at hj;obtain ⟨h1,h2,h3⟩:=hm.fresh j _ _ _ hj;exact ⟨h1,by simp;omega,h3⟩
 keep:=hm.keep.alloc _
 own0:=hm.own0
 glob:=hm.glob
theorem RepD.step (hk:Keep w (Ow own0 ρ H) w') {ow':Nat->Prop} (ho:∀b,b<w.heap.size->ow' b->Ow own0 ρ H b) (hs:Sub ρ ρ')
 {d:D} {u:Value} (h:RepD w (Ow own0 ρ H) ρ d u):RepD w' ow' ρ' d u:=h.mono hk ho hs
def setBlk (w:World) (b:Nat) (o:Obj):World:={ w with heap:=w.heap.setIfInBounds b o }
theorem Yy {b b':Nat} {o:Obj} (h:b'≠b):(setBlk w b o).heap[b']?=w.heap[b']?:=by
 simp only[setBlk];rw[Array.getElem?_setIfInBounds_ne (by omega)]
theorem Yh {b:Nat} {o:Obj} (h:b<w.heap.size):(setBlk w b o).heap[b]?=some o:=by
 simp only[setBlk];rw[Array.getElem?_setIfInBounds_self_of_lt h]
@[simp] theorem setBlk_size {b:Nat} {o:Obj}:(setBlk w b o).heap.size=w.heap.size:=by simp[setBlk]
theorem Keep.setBlk {ow:Nat->Prop} {b:Nat} (hb:ow b) (o:Obj):Keep w ow (setBlk w b o) :=
 ⟨by simp,fun b' _ hn=>Yy fun e=>hn (e ▸ hb)⟩
theorem Mem.write (hm:Mem own0 mt w0 ρ H w) {i b base c:Nat} (hp:ρ i=some (.blk b base c)) (hl:live (H i)=true) {blk:Blk} (hl':live (some blk)=true) (vs:Array Value) (T:TypeId) (fr:Nat×Nat)
 (hb:RepB (setBlk w b (.cells vs T fr)) (Ow own0 ρ H) ρ i blk) :
 Mem own0 mt w0 ρ (upd H i (some blk)) (setBlk w b (.cells vs T fr))/\(∀x,Ow own0 ρ (upd H i (some blk)) x↔Ow own0 ρ H x):=by
 have hso:solid (H i)=true:=by cases h:H i with|none=>simp[h,live]at hl|some x=>cases x<;>simp_all[live,solid]
 have how:∀x,Ow own0 ρ (upd H i (some blk)) x↔Ow own0 ρ H x:=by
  intro x;constructor
  .rintro (h|⟨j,bs,cp,hj,hjl⟩)
   .exact .inl h
   .refine .inr ⟨j,bs,cp,hj,?_⟩;by_cases e:j=i
    .subst e;exact hl
    .rwa [Zg _ _ e]at hjl
  .rintro (h|⟨j,bs,cp,hj,hjl⟩)
   .exact .inl h
   .refine .inr ⟨j,bs,cp,hj,?_⟩;by_cases e:j=i
    .subst e;simpa using hl'
    .rwa [Zg _ _ e]
 have hown:Ow own0 ρ H b:=.inr ⟨i,base,c,hp,hl⟩;have hlt:=(hm.fresh i _ _ _ hp).2.1;refine ⟨?_,how⟩
 exact {
  blks:=fun j bl hj=>by
   by_cases e:j=i
   .subst e;simp only[upd_same,Option.some.injEq]at hj;subst hj;exact hb.mono (Keep.refl _ _) (fun x _ hx=>(how x).1 hx) (.refl _) fun _ _ _ _ _=>rfl
   .rw[Zg _ _ e]at hj;refine (hm.blks j bl hj).mono (Keep.setBlk hown _) (fun x _ hx=>(how x).1 hx) (.refl _) fun b' base' c' hp' hs=>?_;exact Yy (hm.inj j i _ _ _ _ _ _ (by rw[hj];exact hs) hso hp' hp e)
  defd:=fun j hj=>by
   by_cases e:j=i
   .subst e;simp at hj
   .rw[Zg _ _ e]at hj;exact hm.defd j hj
  inj:=fun j j' b1 c1 k1 b2 c2 k2 h1 h2 h3 h4 hne=>by
   have fix:∀ {j:Nat},solid (upd H i (some blk) j)=true->solid (H j)=true:=fun {j} h=>by
    by_cases e:j=i
    .subst e;exact hso
    .rwa [Zg _ _ e]at h
   exact hm.inj j j' _ _ _ _ _ _ (fix h1) (fix h2) h3 h4 hne
  fresh:=fun j b' c' k' hj=>by obtain ⟨h1,h2,h3⟩:=hm.fresh j _ _ _ hj;exact ⟨h1,by simpa using h2,h3⟩
  keep:=⟨hm.keep.os,hm.keep.tape,hm.keep.output,by simpa using hm.keep.size,fun x hx hn=>by
   rw[Yy fun e=>?_]
   .exact hm.keep.block x hx hn
   .subst e;rcases (hm.fresh i _ _ _ hp).1 with h|h
    .omega
    .exact hn h⟩
  own0:=hm.own0
  glob:=hm.glob }
theorem Z6 {i:Nat} {blk:Blk} (h:live (some blk)=true->live (H i)=true) {b:Nat} (hb:Ow own0 ρ (upd H i (some blk)) b):Ow own0 ρ H b:=by
 rcases hb with hb|⟨j,bs,cp,hj,hl⟩
 .exact .inl hb
 .refine .inr ⟨j,bs,cp,hj,?_⟩;by_cases e:j=i
  .subst e;exact h (by simpa using hl)
  .rwa [Zg _ _ e]at hl
theorem Mem.relax (hm:Mem own0 mt w0 ρ H w) {i:Nat} {blk:Blk} (hl:live (some blk)=true->live (H i)=true) (hso:solid (some blk)=true->solid (H i)=true)
 (hb:RepB w (Ow own0 ρ (upd H i (some blk))) ρ i blk):Mem own0 mt w0 ρ (upd H i (some blk)) w where
 blks j bl hj:=by
  by_cases e:j=i
  .subst e;simp only[upd_same,Option.some.injEq]at hj;subst hj;exact hb
  .rw[Zg _ _ e]at hj;exact (hm.blks j bl hj).mono (Keep.refl _ _) (fun b _ h=>Z6 hl h) (.refl _) fun _ _ _ _ _=>rfl
 defd j hj:=by
  by_cases e:j=i
  .subst e;simp at hj
  .rw[Zg _ _ e]at hj;exact hm.defd j hj
 inj j j' b1 c1 k1 b2 c2 k2 h1 h2 h3 h4 hne:=by
  have fix:∀ {j:Nat},solid (upd H i (some blk) j)=true->solid (H j)=true:=fun {j} h=>by
   by_cases e:j=i
   .subst e;exact hso (by simpa using h)
   .rwa [Zg _ _ e]at h
  exact hm.inj j j' _ _ _ _ _ _ (fix h1) (fix h2) h3 h4 hne
 fresh:=hm.fresh
 keep:=hm.keep
 own0:=hm.own0
 glob:=hm.glob
theorem Mem.freeze (hm:Mem own0 mt w0 ρ H w) {i k:Nat} {rows:List (List V)} (h:H i=some (.row k rows)):Mem own0 mt w0 ρ (upd H i (some (.ice k rows))) w :=
 hm.relax (by simp[live]) (by simp[h,solid]) (by
  have:=(hm.blks i _ h).mono (Keep.refl _ _) (fun b _ hb=>Z6 (by simp[live]) hb) (.refl _) (fun _ _ _ _ _=>rfl) (ow':=Ow own0 ρ (upd H i (some (.ice k rows))))
  exact this)
theorem Mem.kill (hm:Mem own0 mt w0 ρ H w) (i:Nat):Mem own0 mt w0 ρ (upd H i (some .gone)) w :=
 hm.relax (by simp[live]) (by simp[solid]) trivial
theorem RepC.pure {ow ow':Nat->Prop} {r n k:Nat} {rows:List (List V)} {u:Value} (hc:RepC w ow ρ (.o r n) u) {blk:Blk} (hblk:blk=.row k rows\/blk=.ice k rows) (hb:RepB w ow ρ r blk)
 (hn:n<=rows.length) (hs:∀b,ow' b->ow b) (ho:∀b base c,ρ r=some (.blk b base c)->¬ow' b):RepV w ow' (.s k (rows.take n)) u:=by
 have hb':(∀r,r∈rows->r.length=k)/\∃m,ρ r=some m/\match m with
  | .nil=>rows=[]
  | .blk b base cap=>rows.length<=cap/\∃vs T fr,w.heap[b]?=some (.cells vs T fr)/\RFr k vs fr/\base+cap*k<=vs.size /\
   ∀(i:Nat) (r:List V) (j:Nat) (v:V),rows[i]?=some r->r[j]?=some v->∃x,vs[base+i*k+j]?=some x/\RepV w ow v x:=by
  rcases hblk with rfl|rfl<;>exact hb
 obtain ⟨hlen,m,hm,hb'⟩:=hb';obtain ⟨m',hm',hc⟩:=hc;rw[hm]at hm';cases hm'
 cases m with
 | nil =>
  simp only at hb' hc;obtain ⟨rfl,a,rfl⟩:=hc
  refine .s k _ a 0 0 (fun _ _=>undef) (by simp) (by simp) (by simp) (Nat.le_refl _) ?_ ?_<;>simp
 | blk b base cap =>
  simp only at hb' hc;obtain ⟨rfl,hle⟩:=hc;obtain ⟨h1,vs,T,fr,hh,hf,h2,h3⟩:=hb'
  have get:∀(i:Nat) (r:List V) (j:Nat) (v:V),(rows.take n)[i]?=some r->r[j]?=some v->rows[i]?=some r:=fun i r j v hi hj=>by
   rw[List.getElem?_take]at hi;split at hi
   .exact hi
   .cases hi
  refine .s k _ (some ⟨b,base,none⟩) n cap (fun i j=>(vs[base+i*k+j]?).getD undef) (by simp;omega) (fun i r hi=>hlen r (List.mem_of_mem_take (List.mem_of_getElem? hi))) (by simp) hle ?_ ?_
  .intro ad had i r j v hi hj;cases had;obtain ⟨x,hx,_⟩:=h3 i r j v (get i r j v hi hj) hj;refine ⟨?_,?_⟩
   .have:(Addr.add ⟨b,base,none⟩ (i*k+j))=⟨b,base+i*k+j,none⟩:=by
     unfold Addr.add;split
     .rename_i h0;simp[Nat.add_assoc,h0]
     .simp[Nat.add_assoc]
    rw[this];simp[World.cell?,hh,hx]
   .exact ho _ _ _ hm
  .intro i r j v hi hj;obtain ⟨x,hx,hv⟩:=h3 i r j v (get i r j v hi hj) hj;simp only[hx,Option.getD_some];exact hv.mono (Keep.refl _ _) fun b _ h=>hs b h
end Eng
end Go.Proofs.YtgenjpingdkmgaaGreatDoor
namespace Go.Proofs.YtgenjpingdkmgaaGreatDoor
namespace Eng
structure Ty where
 desc:TypeDesc
 zero:Value
 size:Nat
 bytes:Nat
 eqL:Option (List (Nat×Nat))
def okVal:Value->Bool
 | .agg cs=>cs.toList.all Value.oneCell
 | .tuple _=>false
 | _=>true
def isAggD:TypeDesc->Bool
 | .struct _=>true
 | .array _ _=>true
 | _=>false
def EqFs (P:Program) (R:TypeId->Nat->List (Nat×Nat)->Prop) (size base:Nat):List Field->List (Nat×Nat)->Prop
 | [],l=>l=[]
 | f::fs,l=>f.name ≠ "_"/\∃l1 l2,l=l1++l2/\R f.type (base+f.offset) l1/\(∃j,P.info? f.type=some j/\f.offset+j.size<=size)/\EqFs P R size base fs l2
def EqP (P:Program):Nat->TypeId->Nat->List (Nat×Nat)->Prop
 | 0,_,_,_=>False
 | d+1,t,base,l=>(∃i,P.info? t=some i/\i.size=1/\((l=[(base,0)]/\P.underlying t=some .bool)\/(l=[(base,1)]/\∃k,P.underlying t=some (.int k))\/(l=[(base,2)]/\P.underlying t=some .string))) \/
  (∃i fs,P.info? t=some i/\P.stoodInHeld t=false/\P.underlying t=some (.struct fs)/\EqFs P (EqP P d) i.size base fs.toList l)
structure EqOk (P:Program) (t:TypeId) (l:List (Nat×Nat)):Prop where
 guard:P.eqGuardType P.depth t=false
 stood:P.stoodInHeld t=false
 plan:∃(d:Nat) (fs:Array Field) (i:TypeInfo),d<=9999/\P.underlying t=some (.struct fs)/\EqFs P (EqP P d) i.size 0 fs.toList l
structure TyOk (P:Program) (t:TypeId) (ty:Ty):Prop where
 under:P.underlying t=some ty.desc
 info:∃i,P.info? t=some i/\i.zero=some ty.zero/\i.size=ty.size/\i.bytes=ty.bytes
 zok:okVal ty.zero=true
 zsize:ty.zero.cells.size=ty.size
 one:isAggD ty.desc=false->ty.size=1
 eqs:∀l,ty.eqL=some l->EqOk P t l
abbrev Ups:=List (Nat×Blk)
inductive Tr (α:Type) where
 | ret (a:α)
 | fail
 | ask (p:Prop) (k:Tr α)
 | ite (b:Bool) (t e:Tr α)
 | call (q:Bool) (f:Nat) (bi:List Blk) (args:List D) (k:D->List Blk->Tr α)
def E.cells:E->List C
 | .c y=>[y]
 | .a cs=>cs
def ofVal:Value->D
 | .agg cs=>.e (.a (cs.toList.map fun c=>.v (.x c)))
 | .tuple _=>.top
 | v=>.e (.c (.v (.x v)))
@[match_pattern] def D.x (v:Value):D:=.e (.c (.v (.x v)))
def evConst (v:Value):D:=if okVal v then ofVal v else .top
def evO (En:Nat->D):Operand->D
 | .tmp t=>En t
 | .const v=>evConst v
 | .global g=>match globT.lookup g with
  | some cs=>.q (cs.map .x)
  | none=>.x (.pointer (some ⟨g,0,none⟩))
 | .func f=>.x (.func (.func f) #[] #[])
def need {α:Type} (q:Bool) (d:D) (k:D->Tr α):Tr α :=
 match d with
 | .g b d=>.ask (q=true->b=true) (k d)
 | d=>k d
def splice {α:Type} (cs:List α) (off:Nat) (xs:List α):List α:=cs.take off++xs++cs.drop (off+xs.length)
def pick1 {α:Type} [Inhabited α] (agg:Bool) (size:Nat) (mk1:α->C) (cs:List α):D :=
 if agg then .e (.a ((cs.take size).map mk1)) else .e (.c (mk1 (cs.headD default)))
def zeroV (ty:Ty):List V:=ty.zero.cells.toList.map fun c=>.x c
def rowAt (ty:Ty) (rows:List (List V)) (i off:Nat):List V :=
 match rows[i]? with
 | some r=>r.drop off
 | none=>zeroV ty
def loadE (ty:Ty) (h:Nat->Option Blk) (q:Bool):D->Tr (D×Ups)
 | .p b off=>match h b with
  | some (.loc cs)=>.ask (q=true->off+ty.size<=cs.length) (.ret (pick1 (isAggD ty.desc) ty.size id (cs.drop off),[]))
  | some (.ice k [vs])=>.ask (q=true->off+ty.size<=vs.length) (.ret (pick1 (isAggD ty.desc) ty.size .v (vs.drop off),[]))
  | _=>.fail
 | .q cs=>.ask (q=true->ty.size<=cs.length) (.ret (pick1 (isAggD ty.desc) ty.size .v cs,[]))
 | .w r k i off=>match h r with
  | some (.row k' rows)=>.ask (q=true->k'=k/\i<rows.length/\off+ty.size<=k) (.ret (pick1 (isAggD ty.desc) ty.size .v (rowAt ty rows i off),[]))
  | some (.ice k' rows)=>.ask (q=true->k'=k/\i<rows.length/\off+ty.size<=k) (.ret (pick1 (isAggD ty.desc) ty.size .v (rowAt ty rows i off),[]))
  | some (.rowx k' rows n cs)=>if i=n then .ask (q=true->k'=k/\off+ty.size<=k) (.ret (pick1 (isAggD ty.desc) ty.size id (cs.drop off),[]))
   else .ask (q=true->k'=k/\i<rows.length/\off+ty.size<=k) (.ret (pick1 (isAggD ty.desc) ty.size .v (rowAt ty rows i off),[]))
  | _=>.fail
 | _=>.fail
def allV:List C->Option (List V)
 | []=>some []
 | .v a::r=>(allV r).map (a::·)
 | .o _ _::_=>none
def frzC (h:Nat->Option Blk):C->Option (V×Ups×Prop)
 | .v a=>some (a,[],True)
 | .o r n=>match h r with
  | some (.row k rows)=>some (.s k (rows.take n),[(r,.ice k rows)],n<=rows.length)
  | some (.ice k rows)=>some (.s k (rows.take n),[],n<=rows.length)
  | _=>none
def frzCs (h:Nat->Option Blk):List C->Option (List V×Ups×Prop)
 | []=>some ([],[],True)
 | .v a::r=>match frzCs h r with
  | some (vs,u,p)=>some (a::vs,u,p)
  | none=>none
 | .o r n::cs=>match frzC h (.o r n) with
  | some (v,u1,p1)=>match frzCs (updL h u1) cs with
   | some (vs,u2,p2)=>some (v::vs,u1++u2,p1/\p2)
   | none=>none
  | none=>none
def storeE (ty:Ty) (h:Nat->Option Blk):D->D->Tr (D×Ups)
 | .p b off,.e e=>match h b with
  | some (.loc cs)=>.ask (e.cells.length=ty.size/\off+ty.size<=cs.length) (.ret (.top,[(b,.loc (splice cs off e.cells))]))
  | _=>.fail
 | .w r k i off,.e e=>match h r with
  | some (.rowx k' rows n cs)=>if i=n then .ask (e.cells.length=ty.size/\k'=k/\off+ty.size<=k) (.ret (.top,[(r,.rowx k' rows n (splice cs off e.cells))]))
   else match frzCs h e.cells with
    | some (vs,u,p)=>match updL h u r with
     | some (.rowx k' rows n cs)=>.ask (p/\vs.length=ty.size/\k'=k/\i≠n/\i<rows.length/\off+ty.size<=k) (.ret (.top,u++[(r,.rowx k' (rows.set i (splice (rows.getD i []) off vs)) n cs)]))
     | _=>.fail
    | none=>.fail
  | _=>match frzCs h e.cells with
  | some (vs,u,p)=>match updL h u r with
   | some (.row k' rows)=>.ask (p/\vs.length=ty.size/\k'=k/\i<rows.length/\off+ty.size<=k) (.ret (.top,u++[(r,.row k' (rows.set i (splice (rows.getD i []) off vs)))]))
   | _=>.fail
  | none=>.fail
 | _,_=>.fail
def shiftPtr (off:Nat):D->Option D
 | .p b o=>some (.p b (o+off))
 | .q cs=>some (.q (cs.drop off))
 | .w r k i o=>some (.w r k i (o+off))
 | _=>none
def fieldInfo (Γ:Nat->Option Ty) (ty:Ty) (f:Nat):Option (Nat×Nat×Bool) :=
 match ty.desc with
 | .struct fs=>match fs[f]? with
  | some fl=>match Γ fl.type with
   | some tf=>some (fl.offset,tf.size,isAggD tf.desc)
   | none=>none
  | none=>none
 | _=>none
def fieldAddrE (Γ:Nat->Option Ty) (ty:Ty) (f:Nat) (d:D):Tr (D×Ups) :=
 match fieldInfo Γ ty f with
 | some (off,size,_)=>.ask (size≠0) (match shiftPtr off d with|some d'=>.ret (d',[])|none=>.fail)
 | none=>.fail
def fieldE (Γ:Nat->Option Ty) (ty:Ty) (f:Nat) (q:Bool) (d:D):Tr (D×Ups) :=
 match fieldInfo Γ ty f with
 | some (off,size,agg)=>match d with
  | .e (.a cs)=>.ask (q=true->off+size<=cs.length/\size≠0) (.ret (pick1 agg size id (cs.drop off),[]))
  | _=>.fail
 | none=>.fail
def among {α:Type} (q:Bool) (i:Int) (f:Nat->Tr α):Nat->Tr α
 | 0=>.fail
 | 1=>.ask (q=true->i=0) (f 0)
 | n+1=>.ite (decide (i=n)) (f n) (among q i f n)
def indexAddrE (Γ:Nat->Option Ty) (ty:Ty) (q:Bool) (d ix:D):Tr (D×Ups) :=
 match ix with
 | .x (.int _ i)=>match ty.desc with
  | .slice e=>match Γ e with
   | some te=>match d with
    | .e (.c (.v (.s k rows)))=>.ask (q=true->0<=i/\i<rows.length/\k=te.size) (.ret (.q (rows.getD i.toNat (zeroV te)),[]))
    | .e (.c (.o r n))=>.ask (q=true->0<=i/\i<n) (.ret (.w r te.size i.toNat 0,[]))
    | .e (.c (.v (.x (.slice none 0 0))))=>.ask (q=true->False) (.ret (.q (zeroV te),[]))
    | .u r k off n=>.ask (q=true->0<=i/\i<n/\k=te.size) (.ret (.w r te.size (off+i.toNat) 0,[]))
    | _=>.fail
   | none=>.fail
  | .array n e=>match Γ e with
   | some te=>if 2<n then .ask (q=true->0<=i/\i<n) (match shiftPtr (i.toNat*te.size) d with|some d'=>.ret (d',[])|none=>.fail)
    else .ask (2<=n) (among q i (fun j=>match shiftPtr (j*te.size) d with|some d'=>.ret (d',[])|none=>.fail) n)
   | none=>.fail
  | _=>.fail
 | _=>.fail
def strAt (s:ByteArray) (i:Nat):UInt8:=s.data.toList.getD i 0
def indexE (Γ:Nat->Option Ty) (ty:Ty) (q:Bool) (d ix:D):Tr (D×Ups) :=
 match ix with
 | .x (.int _ i)=>match ty.desc with
  | .string=>match d with
   | .x (.string s)=>.ask (q=true->0<=i/\i<s.size) (.ret (.x (.int .u8 (strAt s i.toNat).toNat),[]))
   | _=>.fail
  | .array n e=>match Γ e with
   | some te=>match d with
    | .e (.a cs)=>among q i (fun j=>.ask (j*te.size+te.size<=cs.length/\te.size≠0) (.ret (pick1 (isAggD te.desc) te.size id (cs.drop (j*te.size)),[]))) n
    | _=>.fail
   | none=>.fail
  | _=>.fail
 | _=>.fail
def binI (q:Bool) (op:BinOp) (k:IntKind) (a b:Int):Tr (D×Ups) :=
 match op with
 | .add=>.ret (.x (.int k (k.wrap (a+b))),[])
 | .sub=>.ret (.x (.int k (k.wrap (a - b))),[])
 | .mul=>.ret (.x (.int k (k.wrap (a*b))),[])
 | .quo=>.ask (q=true->b≠0) (.ret (.x (.int k (k.wrap (a.tdiv b))),[]))
 | .rem=>.ask (q=true->b≠0) (.ret (.x (.int k (a.tmod b)),[]))
 | .and=>.ret (.x (.int k (k.wrap ((BitVec.ofInt k.bits a &&& BitVec.ofInt k.bits b).toNat))),[])
 | .or=>.ret (.x (.int k (k.wrap ((BitVec.ofInt k.bits a ||| BitVec.ofInt k.bits b).toNat))),[])
 | .xor=>.ret (.x (.int k (k.wrap ((BitVec.ofInt k.bits a ^^^ BitVec.ofInt k.bits b).toNat))),[])
 | .eql=>.ret (.x (.bool (a == b)),[])
 | .neq=>.ret (.x (.bool (a != b)),[])
 | .lss=>.ret (.x (.bool (decide (a<b))),[])
 | .leq=>.ret (.x (.bool (decide (a<=b))),[])
 | .gtr=>.ret (.x (.bool (decide (a>b))),[])
 | .geq=>.ret (.x (.bool (decide (a ≥ b))),[])
 | _=>.fail
def shiftI (q:Bool) (op:BinOp) (k:IntKind) (a b:Int):Tr (D×Ups) :=
 match op with
 | .shl=>.ask (q=true->0<=b) (.ret (.x (.int k (k.wrap (a*2 ^ (min b.toNat k.bits)))),[]))
 | .shr=>.ask (q=true->0<=b) (.ret (.x (.int k (a.fdiv (2 ^ (min b.toNat k.bits)))),[]))
 | _=>.fail
def binS (op:BinOp) (a b:ByteArray):Tr (D×Ups) :=
 match op with
 | .add=>.ask (a.size+b.size<=9223372036854775807) (.ret (.x (.string (a++b)),[]))
 | .eql=>.ret (.x (.bool (a.data.toList == b.data.toList)),[])
 | .neq=>.ret (.x (.bool (!(a.data.toList == b.data.toList))),[])
 | .lss=>.ret (.x (.bool (Op.bytesLess a.data.toList b.data.toList)),[])
 | .leq=>.ret (.x (.bool (Op.bytesLess a.data.toList b.data.toList || a.data.toList == b.data.toList)),[])
 | .gtr=>.ret (.x (.bool (!(Op.bytesLess a.data.toList b.data.toList || a.data.toList == b.data.toList))),[])
 | .geq=>.ret (.x (.bool (!Op.bytesLess a.data.toList b.data.toList)),[])
 | _=>.fail
def binE (Γ:Nat->Option Ty) (q:Bool) (op:BinOp) (t:TypeId) (x y:D):Tr (D×Ups) :=
 match x,y with
 | .x (.int k a),.x (.int k' b)=>match op with
  | .shl=>shiftI q .shl k a b
  | .shr=>shiftI q .shr k a b
  | op=>if k=k' then binI q op k a b else .fail
 | .x (.string a),.x (.string b)=>binS op a b
 | .x (.bool a),.x (.bool b)=>match Γ t with
  | some ty=>match ty.desc with
   | .bool=>match op with
    | .eql=>.ret (.x (.bool (a == b)),[])
    | .neq=>.ret (.x (.bool (!(a == b))),[])
    | _=>.fail
   | _=>.fail
  | none=>.fail
 | _,_=>.fail
def unE (op:UnOp) (x:D):Tr (D×Ups) :=
 match op,x with
 | .not,.x (.bool b)=>.ret (.x (.bool (!b)),[])
 | .neg,.x (.int k n)=>.ret (.x (.int k (k.wrap (0 - n))),[])
 | .xor,.x (.int k n)=>.ret (.x (.int k (k.wrap ((BitVec.ofInt k.bits (if k.signed then -1 else k.max) ^^^ BitVec.ofInt k.bits n).toNat))),[])
 | _,_=>.fail
def unQ (q:Bool) (op:UnOp) (x:D):Tr (D×Ups) :=
 match x with
 | .top=>.ask (q=true->False) (.ret (.top,[]))
 | x=>unE op x
def pickE (q:Bool) (c:D) (a b:Operand) (ea eb:D):Tr (D×Ups) :=
 match c with
 | .x (.bool c) =>
  match b with
  | .const (.bool false)=>need (q && c) ea fun
   | .x (.bool v)=>.ret (.x (.bool (c && v)),[])
   | _=>.ask (c=false) (.ret (.x (.bool false),[]))
  | _=>match a with
   | .const (.bool true)=>need (q && !c) eb fun
    | .x (.bool v)=>.ret (.x (.bool (c || v)),[])
    | _=>.ask (c=true) (.ret (.x (.bool true),[]))
   | _=>.fail
 | _=>.fail
def rowsOf (h:Nat->Option Blk):D->Option (List (List V))
 | .e (.c (.v (.s _ rows)))=>some rows
 | .e (.c (.v (.x (.slice none 0 0))))=>some []
 | .e (.c (.o r n))=>match h r with
  | some (.row _ rows)=>some (rows.take n)
  | some (.ice _ rows)=>some (rows.take n)
  | _=>none
 | _=>none
def lenE (ty:Ty) (x:D):Tr (D×Ups) :=
 match ty.desc with
 | .string=>match x with
  | .x (.string s)=>.ret (.x (.int .i64 s.size),[])
  | _=>.fail
 | .array n _=>.ret (.x (.int .i64 n),[])
 | .slice _=>match x with
  | .e (.c (.v (.s _ rows)))=>.ret (.x (.int .i64 rows.length),[])
  | .e (.c (.o _ n))=>.ret (.x (.int .i64 n),[])
  | .e (.c (.v (.x (.slice none 0 0))))=>.ret (.x (.int .i64 0),[])
  | .u _ _ _ n=>.ret (.x (.int .i64 n),[])
  | _=>.fail
 | _=>.fail
def bytesRows (s:ByteArray):List (List V):=s.data.toList.map fun b=>[.x (.int .u8 b.toNat)]
def appendE (Γ:Nat->Option Ty) (ts:Array TypeId) (h:Nat->Option Blk) (nx:Nat) (s x:D):Tr (D×Ups) :=
 match ts[0]?,ts[1]? with
 | some t0,some t1=>match Γ t0,Γ t1 with
  | some ty0,some ty1=>match ty0.desc with
   | .slice e=>match Γ e with
    | some te =>
     let new:Option (List (List V)):=match ty1.desc with
      | .string=>match x with|.x (.string s)=>some (bytesRows s)|_=>none
      | .slice _=>rowsOf h x
      | _=>none
     match new with
     | some rs=>match s with
      | .e (.c (.v (.x (.slice none 0 0))))=>.ask (te.size≠0/\(∀r,r∈rs->r.length=te.size)/\rs.length*te.bytes<=70368744177664/\rs.length<=70368744177664/\∀r n,x=.e (.c (.o r n))->n=rs.length) (.ret (.e (.c (.o nx rs.length)),[(nx,.row te.size rs)]))
      | .e (.c (.o r n))=>match h r with
       | some (.row k rows)=>.ask (k=te.size/\te.size≠0/\n<=rows.length/\(∀r,r∈rs->r.length=te.size)/\(n+rs.length)*te.bytes<=70368744177664/\n+rs.length<=70368744177664/\∀r n,x=.e (.c (.o r n))->n=rs.length)
        (.ret (.e (.c (.o nx (n+rs.length))),[(r,.gone),(nx,.row k (rows.take n++rs))]))
       | _=>.fail
      | _=>.fail
     | none=>.fail
    | none=>.fail
   | _=>.fail
  | _,_=>.fail
 | _,_=>.fail
def fillE (place:Nat->Option (Nat×Nat)) (cells:List C):List (Nat×D)->Option (List C)
 | []=>some cells
 | (i,.e e)::rest=>match place i with
  | some (off,size)=>if e.cells.length=size/\off+size<=cells.length then fillE place (splice cells off e.cells) rest else none
  | none=>none
 | _::_=>none
def placeE (Γ:Nat->Option Ty) (fs:Array Field) (i:Nat):Option (Nat×Nat) :=
 match fs[i]? with
 | some f=>match Γ f.type with
  | some tf=>some (f.offset,tf.size)
  | none=>none
 | none=>none
def placeD (Γ:Nat->Option Ty) (ty:Ty) (i:Nat):Option (Nat×Nat) :=
 match ty.desc with
 | .struct fs=>placeE Γ fs i
 | .array _ e=>match Γ e with
  | some te=>some (i*te.size,te.size)
  | none=>none
 | _=>none
def buildOk (Γ:Nat->Option Ty) (ty:Ty):Bool :=
 match ty.desc with
 | .struct fs=>fs.toList.all fun f=>(Γ f.type).isSome
 | .array _ e=>(Γ e).isSome
 | _=>false
def zeroC (ty:Ty):List C:=ty.zero.cells.toList.map fun c=>.v (.x c)
def buildE (Γ:Nat->Option Ty) (ty:Ty) (parts:List (Nat×D)):Tr (D×Ups) :=
 .ask (buildOk Γ ty=true) (match fillE (placeD Γ ty) (zeroC ty) parts with
  | some cs=>.ret (.e (.a cs),[])
  | none=>.fail)
def partsE (size:Nat):(Nat->Option Blk)->Nat->List (Nat×D)->Option (List (List V)×Ups×Prop)
 | _,_,[]=>some ([],[],True)
 | h,j,(i,.e e)::rest=>match frzCs h e.cells with
  | some (vs,u1,p1)=>match partsE size (updL h u1) (j+1) rest with
   | some (rows,u2,p2)=>some (vs::rows,u1++u2,(i=j/\vs.length=size/\p1)/\p2)
   | none=>none
  | none=>none
 | _,_,_::_=>none
def buildSliceE (Γ:Nat->Option Ty) (ty:Ty) (h:Nat->Option Blk) (n:Nat) (nx:Nat) (parts:List (Nat×D)):Tr (D×Ups) :=
 match ty.desc with
 | .slice e=>match Γ e with
  | some te=>match partsE te.size h 0 parts with
   | some (rows,u,p)=>.ask (p/\n=rows.length/\te.size≠0/\n*te.size<=16777216) (.ret (.e (.c (.o nx n)),u++[(nx,.row te.size rows)]))
   | none=>.fail
  | none=>.fail
 | _=>.fail
def boundE (dflt:Int):Option D->Option Int
 | none=>some dflt
 | some (.x (.int _ i))=>some i
 | _=>none
def sliceE (Γ:Nat->Option Ty) (ty:Ty) (q:Bool) (h:Nat->Option Blk) (nx:Nat) (x:D) (lo hi mx:Option D):Tr (D×Ups) :=
 match mx with
 | some m=>match m,hi,lo with
  | .x (.int _ 0),some (.x (.int _ 0)),none=>match ty.desc with
   | .slice e=>match Γ e with
    | some te=>match x with
     | .e (.c (.v (.s _ _)))=>.ret (.e (.c (.o nx 0)),[(nx,.row te.size [])])
     | .e (.c (.o _ _))=>.ret (.e (.c (.o nx 0)),[(nx,.row te.size [])])
     | .e (.c (.v (.x (.slice none 0 0))))=>.ret (.e (.c (.o nx 0)),[(nx,.row te.size [])])
     | _=>.fail
    | none=>.fail
   | _=>.fail
  | _,_,_=>.fail
 | none=>match ty.desc with
  | .string=>match x with
   | .x (.string s)=>match boundE 0 lo,boundE s.size hi with
    | some l,some hh=>.ask (q=true->0<=l/\l<=hh/\hh<=s.size) (.ret (.x (.string (s.extract l.toNat hh.toNat)),[]))
    | _,_=>.fail
   | _=>.fail
  | .slice e=>match Γ e with
   | some te=>match x with
    | .e (.c (.v (.s k rows)))=>match boundE 0 lo,boundE rows.length hi with
     | some l,some hh=>.ask (q=true->k=te.size/\0<=l/\l<=hh/\hh<=rows.length) (.ret (.e (.c (.v (.s k ((rows.take hh.toNat).drop l.toNat)))),[]))
     | _,_=>.fail
    | .e (.c (.v (.x (.slice none 0 0))))=>match boundE 0 lo,boundE 0 hi with
     | some l,some hh=>.ask (q=true->l=0/\hh=0) (.ret (.x (.slice none 0 0),[]))
     | _,_=>.fail
    | .e (.c (.o r n))=>match lo with
     | none=>match boundE n hi with
      | some hh=>.ask (q=true->0<=hh/\hh<=n) (.ret (.e (.c (.o r hh.toNat)),[]))
      | none=>.fail
     | some _=>match boundE 0 lo,boundE n hi with
      | some l,some hh=>match h r with
       | some (.row k rows)=>.ask (k=te.size/\0<=l/\l<=hh/\hh<=n/\n<=rows.length) (.ret (.e (.c (.v (.s k ((rows.take hh.toNat).drop l.toNat)))),[(r,.ice k rows)]))
       | some (.ice k rows)=>.ask (q=true->k=te.size/\0<=l/\l<=hh/\hh<=n/\n<=rows.length) (.ret (.e (.c (.v (.s k ((rows.take hh.toNat).drop l.toNat)))),[]))
       | _=>.fail
      | _,_=>.fail
    | _=>.fail
   | none=>.fail
  | _=>.fail
def minI (k:IntKind) (up:Bool):Int->List D->Tr (D×Ups)
 | x,[]=>.ret (.x (.int k x),[])
 | x,.x (.int k' y)::r=>.ask (k'=k) (minI k up (if up then (if y>x then y else x) else (if y<x then y else x)) r)
 | _,_::_=>.fail
def minE (up:Bool):List D->Tr (D×Ups)
 | .x (.int k x)::r=>minI k up x r
 | _=>.fail
def convE (Γ:Nat->Option Ty) (src dst:TypeId) (x:D):Tr (D×Ups) :=
 match Γ src,Γ dst with
 | some _,some td=>match td.desc,x with
  | .int k,.x (.int _ n)=>.ret (.x (.int k (k.wrap n)),[])
  | .string,.x (.string s)=>.ret (.x (.string s),[])
  | .string,.x (.int _ n)=>.ret (.x (.string (Utf8.encode n)),[])
  | _,_=>.fail
 | _,_=>.fail
def extractE (i:Nat):D->Tr (D×Ups)
 | .t es=>match es[i]? with
  | some e=>.ret (.e e,[])
  | none=>.fail
 | _=>.fail
def frzD (h:Nat->Option Blk):D->Option (D×Ups×Prop)
 | .e (.c c)=>match frzCs h [c] with
  | some ([v],u,p)=>some (.e (.c (.v v)),u,p)
  | _=>none
 | .e (.a cs)=>match frzCs h cs with
  | some (vs,u,p)=>some (.e (.a (vs.map .v)),u,p)
  | none=>none
 | _=>none
def renC (τ:Nat->Nat):C->C
 | .v a=>.v a
 | .o r n=>.o (τ r) n
def renE (τ:Nat->Nat):E->E
 | .c a=>.c (renC τ a)
 | .a cs=>.a (cs.map (renC τ))
def renD (τ:Nat->Nat):D->D
 | .e a=>.e (renE τ a)
 | .t es=>.t (es.map (renE τ))
 | .p b off=>.p (τ b) off
 | .q cs=>.q cs
 | .w r k i off=>.w (τ r) k i off
 | .u r k off n=>.u (τ r) k off n
 | .g b d=>.g b (renD τ d)
 | .top=>.top
def renBlk (τ:Nat->Nat):Blk->Blk
 | .loc cs=>.loc (cs.map (renC τ))
 | .row k rows=>.row k rows
 | .ice k rows=>.ice k rows
 | .full k rows c=>.full k rows c
 | .rowx k rows n cs=>.rowx k rows n (cs.map (renC τ))
 | .gone=>.gone
def idsC:C->List Nat
 | .v _=>[]
 | .o r _=>[r]
def idsB:Blk->List Nat
 | .loc cs=>cs.flatMap idsC
 | .rowx _ _ _ cs=>cs.flatMap idsC
 | _=>[]
def plainC:C->Bool
 | .v (.x _)=>true
 | _=>false
def plainE:E->Bool
 | .c c=>plainC c
 | .a cs=>cs.all plainC
def plainD:D->Bool
 | .e e=>plainE e
 | .t es=>es.all plainE
 | _=>false
def handD (own:Bool) (h:Nat->Option Blk):D->List Nat
 | .p b _=>b::(match h b with|some x=>idsB x|none=>[])
 | .e (.c c)=>if own then idsC c else []
 | .e (.a cs)=>if own then cs.flatMap idsC else []
 | .u r _ _ _=>if own then [r] else []
 | _=>[]
def pos (l:List Nat) (r:Nat):Nat :=
 match l with
 | []=>0
 | x::xs=>if r=x then 0 else pos xs r+1
def passD (own:Bool) (hs:List Nat) (h:Nat->Option Blk):D->Option (D×Ups×Prop)
 | .p b off=>some (.p (pos hs b) off,[],True)
 | .e e=>if own then some (.e (renE (pos hs) e),[],True) else frzD h (.e e)
 | .q cs=>some (.q cs,[],True)
 | .u r k off n=>if own then some (.u (pos hs r) k off n,[],True) else none
 | _=>none
def passDs (own:Bool) (hs:List Nat) (h:Nat->Option Blk):List D->Option (List D×Ups×Prop)
 | []=>some ([],[],True)
 | d::r=>match passD own hs h d with
  | some (d',u1,p1)=>match passDs own hs (updL h u1) r with
   | some (ds,u2,p2)=>some (d'::ds,u1++u2,p1/\p2)
   | none=>none
  | none=>none
def backT (hs:List Nat) (nx i:Nat):Nat:=if i<hs.length then hs.getD i 0 else nx+(i - hs.length)
def outUps (τ:Nat->Nat):Nat->List Blk->Ups
 | _,[]=>[]
 | i,b::r=>(τ i,renBlk τ b)::outUps τ (i+1) r
def nodup:List Nat->Bool
 | []=>true
 | x::xs=>!xs.contains x && nodup xs
def callE (own:Bool) (h:Nat->Option Blk) (nx:Nat) (q:Bool) (f:Nat) (ds:List D):Tr (D×Ups) :=
 let hs:=ds.flatMap (handD own h)
 match passDs own hs h ds with
 | some (args,u1,p) =>
  let h1:=updL h u1
  let bi:=hs.map fun r=>renBlk (pos hs) ((h1 r).getD .gone)
  .ask (p/\nodup hs=true/\(hs.all fun r=>live (h1 r) && ((h1 r).map idsB |>.getD []).all (hs.contains ·))=true)
   (.call q f bi args fun val bo =>
    if hs.isEmpty && bo.isEmpty && plainD val then .ret (val,[])
    else .ask (hs.length<=bo.length/\bo.length<=hs.length+64) (.ret (renD (backT hs nx) val,u1++outUps (backT hs nx) 0 bo)))
 | none=>.ask (q=true->False) (.ret (.top,[]))
end Eng
end Go.Proofs.YtgenjpingdkmgaaGreatDoor
namespace Go.Proofs.YtgenjpingdkmgaaGreatDoor
namespace Eng
def Hd (ρ:Nat->Option Pl) (b:Nat):Prop:=∃i base c,ρ i=some (.blk b base c)
def Plain (P:Program) (f:FuncId):Prop:=∃fn,P.funcs[f]?=some fn/\(fn.name == "runtime.NumGoroutine")=false/\fn.body.isNone=false
def ACall (P:Program) (f:FuncId) (bi:List Blk) (args:List D) (val:D) (bo:List Blk):Prop :=
 Plain P f/\∀(own0:Nat->Prop) (w:World) (ρ:Nat->Option Pl) (vs:List Value),Mem own0 (Hd ρ) w ρ (fun i=>bi[i]?) w->All2 (RepD w (Ow own0 ρ fun i=>bi[i]?) ρ) args vs ->
  Calls P f vs.toArray w fun e w'=>∃u ρ',e=.returned u/\Sub ρ ρ'/\RepD w' (Ow own0 ρ' fun i=>bo[i]?) ρ' val u/\Mem own0 (Hd ρ) w ρ' (fun i=>bo[i]?) w'
def XCall (P:Program) (f:FuncId) (bi:List Blk) (args:List D) (val:D) (bo:List Blk):Prop :=
 ∀(own0:Nat->Prop) (w:World) (ρ:Nat->Option Pl) (vs:List Value),Mem own0 (Hd ρ) w ρ (fun i=>bi[i]?) w->All2 (RepD w (Ow own0 ρ fun i=>bi[i]?) ρ) args vs ->
  ∃u ρ',(callFunc f vs.toArray).run P w=.ok (.value u) w/\Sub ρ ρ'/\RepD w (Ow own0 ρ' fun i=>bo[i]?) ρ' val u/\Mem own0 (Hd ρ) w ρ' (fun i=>bo[i]?) w
def BCall (P:Program) (f:FuncId) (bi:List Blk) (args:List D) (val:D) (bo:List Blk):Prop:=ACall P f bi args val bo\/XCall P f bi args val bo
def Goes (P:Program) (f:FuncId) (vs:Array Value) (w:World) (Q:Ending->World->Prop):Prop:=(Plain P f/\Calls P f vs w Q)\/∃v,(callFunc f vs).run P w=.ok (.value v) w/\Q (.returned v) w
theorem Goes.mono {P:Program} {f:FuncId} {vs:Array Value} {w:World} {Q Q':Ending->World->Prop} (h:Goes P f vs w Q) (hq:∀e w',Q e w'->Q' e w'):Goes P f vs w Q':=by
 rcases h with ⟨hp,hc⟩|⟨v,hr,hv⟩
 .exact .inl ⟨hp,hc.mono hq⟩
 .exact .inr ⟨v,hr,hq _ _ hv⟩
theorem BCall.goes {P:Program} {f:FuncId} {bi:List Blk} {args:List D} {val:D} {bo:List Blk} (h:BCall P f bi args val bo) (own0:Nat->Prop) (w:World) (ρ:Nat->Option Pl) (vs:List Value) (hm:Mem own0 (Hd ρ) w ρ (fun i=>bi[i]?) w) (ha:All2 (RepD w (Ow own0 ρ fun i=>bi[i]?) ρ) args vs) :
 Goes P f vs.toArray w fun e w'=>∃u ρ',e=.returned u/\Sub ρ ρ'/\RepD w' (Ow own0 ρ' fun i=>bo[i]?) ρ' val u/\Mem own0 (Hd ρ) w ρ' (fun i=>bo[i]?) w':=by
 rcases h with h|h
 .exact .inl ⟨h.1,h.2 own0 w ρ vs hm ha⟩
 .obtain ⟨u,ρ',hr,h1,h2,h3⟩:=h own0 w ρ vs hm ha;exact .inr ⟨u,hr,u,ρ',rfl,h1,h2,h3⟩
def Tr.gives {α:Type} (P:Program):Tr α->α->Prop
 | .ret a,x=>x=a
 | .fail,_=>False
 | .ask p k,x=>p/\k.gives P x
 | .ite b t e,x=>if b=true then t.gives P x else e.gives P x
 | .call q f bi args k,x=>∃val bo,(q=true->BCall P f bi args val bo)/\(k val bo).gives P x
def Tr.sat {α:Type} (P:Program):Tr α->(α->Prop)->Prop
 | .ret a,Q=>Q a
 | .fail,_=>False
 | .ask p k,Q=>p/\k.sat P Q
 | .ite b t e,Q=>(b=true->t.sat P Q)/\(b=false->e.sat P Q)
 | .call q f bi args k,Q=>∃val bo,(q=true->BCall P f bi args val bo)/\(k val bo).sat P Q
theorem Tr.sat_gives {α:Type} {P:Program} {t:Tr α} {Q:α->Prop} (h:t.sat P Q):∃x,t.gives P x/\Q x:=by
 induction t with
 | ret a=>exact ⟨a,rfl,h⟩
 | fail=>exact h.elim
 | ask p k ih=>obtain ⟨hp,hk⟩:=h;obtain ⟨x,hx,hq⟩:=ih hk;exact ⟨x,⟨hp,hx⟩,hq⟩
 | ite b t e iht ihe =>
  cases b with
  | true=>obtain ⟨x,hx,hq⟩:=iht (h.1 rfl);exact ⟨x,by simpa[gives] using hx,hq⟩
  | false=>obtain ⟨x,hx,hq⟩:=ihe (h.2 rfl);exact ⟨x,by simpa[gives] using hx,hq⟩
 | call q f bi args k ih=>obtain ⟨v,bo,hc,hk⟩:=h;obtain ⟨x,hx,hq⟩:=ih v bo hk;exact ⟨x,⟨v,bo,hc,hx⟩,hq⟩
def Tr.bind {α β:Type}:Tr α->(α->Tr β)->Tr β
 | .ret a,f=>f a
 | .fail,_=>.fail
 | .ask p k,f=>.ask p (k.bind f)
 | .ite b t e,f=>.ite b (t.bind f) (e.bind f)
 | .call q g bi args k,f=>.call q g bi args fun v bo=>(k v bo).bind f
variable {P:Program} {w:World} {ow:Nat->Prop} {ρ:Nat->Option Pl} {q:Bool}
theorem Zm {α:Type} {d:D} {k:D->Tr α} {x:α} (hq:q=true) (h:(need q d k).gives P x) :
 ∃d',(∀u,RepD w ow ρ d u->RepD w ow ρ d' u)/\(k d').gives P x:=by
 cases d with
 | g b d=>exact ⟨d,fun u hu=>hu.1 (h.1 hq),h.2⟩
 | e a=>exact ⟨_,fun u hu=>hu,h⟩
 | t es=>exact ⟨_,fun u hu=>hu,h⟩
 | p b off=>exact ⟨_,fun u hu=>hu,h⟩
 | q cs=>exact ⟨_,fun u hu=>hu,h⟩
 | w r k i off=>exact ⟨_,fun u hu=>hu,h⟩
 | u r k off n=>exact ⟨_,fun u hu=>hu,h⟩
 | top=>exact ⟨_,fun u hu=>hu,h⟩
theorem oneCell_eq (v:Value):v.oneCell'=v.oneCell:=by cases v<;>rfl
theorem rep_x {v u:Value} (h:RepD w ow ρ (.x v) u):u=v/\v.oneCell=true:=by
 change RepV w ow (.x v) u at h
 cases h with
 | x _ h=>exact ⟨rfl,h⟩
theorem rep_x_mk {v:Value} (h:v.oneCell=true):RepD w ow ρ (.x v) v:=RepV.x v h
theorem RepC.oneCell {c:C} {u:Value} (h:RepC w ow ρ c u):u.oneCell=true:=by
 cases c with
 | v a=>exact RepV.oneCell h
 | o r n =>
  obtain ⟨m,_,h⟩:=h
  cases m with
  | nil=>obtain ⟨_,a,rfl⟩:=h;rfl
  | blk b base cap=>obtain ⟨rfl,_⟩:=h;rfl
theorem all2_ofVal (cs:List Value) (h:cs.all Value.oneCell=true):All2 (RepC w ow ρ) (cs.map fun c=>.v (.x c)) cs:=by
 induction cs with
 | nil=>trivial
 | cons c r ih=>simp at h;exact ⟨RepV.x _ h.1,ih (by simpa using h.2)⟩
theorem rep_evConst (v:Value):RepD w ow ρ (evConst v) v:=by
 unfold evConst
 split
 .rename_i h
  cases v<;>first
   | exact RepV.x _ rfl
   | (rename_i cs;exact ⟨cs.toList,by simp,all2_ofVal _ h⟩)
   | simp[okVal]at h
 .trivial
theorem rep_evO {En:Nat->D} {a:Act} (hT:TabsAt w ow) (h:∀t,RepD w ow ρ (En t) (a.tmps.getD t undef)) (x:Operand):RepD w ow ρ (evO En x) (a.eval x):=by
 cases x with
 | tmp t=>exact h t
 | const v=>exact rep_evConst v
 | global g =>
  simp only[evO]
  split
  .rename_i cs hl;obtain ⟨h1,h2⟩:=hT g cs hl;refine ⟨⟨g,0,none⟩,rfl,fun j v hj=>?_⟩;rw[List.getElem?_map]at hj
   cases hc:cs[j]? with
   | none=>rw[hc]at hj;cases hj
   | some c =>
    rw[hc]at hj;cases hj;obtain ⟨h3,h4⟩:=h2 j c hc;refine ⟨c,?_,RepV.x _ h4,?_⟩
    .have e:(⟨g,0,none⟩:Addr).add j=⟨g,j,none⟩:=by
      unfold Addr.add
      split
      .rename_i h;subst h;rfl
      .simp
     rw[e];exact h3
    .exact h1
  .exact RepV.x _ rfl
 | func f=>exact RepV.x _ rfl
theorem rep_cells {e:E} {u:Value} (h:RepE w ow ρ e u):All2 (RepC w ow ρ) e.cells u.cells.toList/\(e.cells.length=u.cells.size):=by
 cases e with
 | c y =>
  have h1:=RepC.oneCell (show RepC w ow ρ y u from h);have:u.cells=#[u]:=by cases u<;>first|rfl|simp[Value.oneCell]at h1
  rw[this]
  exact ⟨⟨h,trivial⟩,rfl⟩
 | a cs =>
  obtain ⟨us,rfl,h⟩:=h;exact ⟨by simpa[E.cells,Value.cells] using h,by simpa[E.cells,Value.cells] using h.length⟩
theorem run_isAgg {t:TypeId} {ty:Ty} (h:TyOk P t ty) (w:World):(isAgg t).run P w=.ok (isAggD ty.desc) w:=by
 unfold isAgg;rw[Sem.run_bind,run_underlying h.under w];simp only[Result.andThen_ok];cases ty.desc<;>rfl
theorem Zr {t:TypeId} {ty:Ty} (h:TyOk P t ty) (w:World):(sizeOf t).run P w=.ok ty.size w:=by
 obtain ⟨i,hi,_,hs,_⟩:=h.info;simp[sizeOf,typeInfo,hi,hs]
theorem run_zero {t:TypeId} {ty:Ty} (h:TyOk P t ty) (w:World):(zeroValue t).run P w=.ok ty.zero w:=by
 obtain ⟨i,hi,hz,_,_⟩:=h.info;simp[zeroValue,typeInfo,hi,hz]
theorem run_loadVar {t:TypeId} {ty:Ty} (h:TyOk P t ty) (w:World) (a:Addr) (xs:List Value) (hl:xs.length=ty.size) (hone:isAggD ty.desc=false->ty.size=1)
 (hx:∀j v,xs[j]?=some v->w.cell? (a.add j)=some v) :
 (loadVar t a).run P w=.ok (if isAggD ty.desc then .agg xs.toArray else xs.headD undef) w:=by
 unfold loadVar;rw[Sem.run_bind,run_isAgg h];simp only[Result.andThen_ok]
 cases hd:isAggD ty.desc with
 | true=>simp[Zr h,<-hl,run_loadCells_list (P:=P) w a xs hx]
 | false =>
  have h1:=hone hd
  match xs,hl with
  | [x],_ =>
   have hx0:=hx 0 x rfl;have ha:a.add 0=a:=by simp[Addr.add]
   rw[ha]at hx0
   simp[hx0]
  | [],hl=>simp at hl;omega
  | _::_::_,hl=>simp at hl;omega
theorem rep_pick1 {α:Type} [Inhabited α] {R:α->Value->Prop} {mk1:α->C} (hmk:∀c u,R c u->RepC w ow ρ (mk1 c) u) {cs:List α} {xs:List Value} {agg:Bool} {size:Nat}
 (h:All2 R cs xs) (hs:size<=cs.length) (hone:agg=false->size=1) :
 RepD w ow ρ (pick1 agg size mk1 cs) (if agg then .agg (xs.take size).toArray else (xs.take size).headD undef):=by
 unfold pick1
 cases agg with
 | true=>exact ⟨_,rfl,All2.map_left ((h.take size).mono fun a b=>hmk a b)⟩
 | false =>
  have h1:=hone rfl;subst h1
  match cs,xs,h with
  | c::_,x::_,⟨h0,_⟩=>exact hmk _ _ h0
  | [],[],_=>simp at hs
  | [],_::_,h=>exact h.elim
  | _::_,[],h=>exact h.elim
theorem Zw (b o j:Nat):(Addr.add ⟨b,o,none⟩ j)=⟨b,o+j,none⟩:=by
 unfold Addr.add;split
 .rename_i h;simp[h]
 .rfl
theorem addr_add_add (a:Addr) (i j:Nat) (h:j≠0\/a.spot=none):(a.add i).add j=a.add (i+j):=by
 unfold Addr.add
 split<;>split<;>(try split)<;>simp_all<;>omega
end Eng
end Go.Proofs.YtgenjpingdkmgaaGreatDoor
