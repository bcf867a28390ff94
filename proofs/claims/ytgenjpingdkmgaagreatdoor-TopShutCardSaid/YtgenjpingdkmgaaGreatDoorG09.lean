/- Contracts of functions that this seat's law calls. No condition. -/
import Derived.Test.YtgenjpingdkmgaaGreatDoorG08
set_option maxRecDepth 100000
set_option linter.unusedSimpArgs false
set_option linter.unusedVariables false
namespace Go.Proofs.YtgenjpingdkmgaaGreatDoor
namespace Eng
section
structure St where
 En:Nat->D
 H:Nat->Option Blk
 nx:Nat
def AWp (P:Program) (N m0:Nat) (c:Code) (Q:Exit->St->Prop) (st:St):Prop :=
 ∀(own0 mt:Nat->Prop) (w0:World) (ρ0:Nat->Option Pl) (a:Act) (w:World),(∀i,m0<=i->ρ0 i=none)->Now own0 mt w0 ρ0 N st.En st.H st.nx a w ->
  c.wp P (fun e a' w'=>∃st':St,Q e st'/\Now own0 mt w0 ρ0 N st'.En st'.H st'.nx a' w') a w
variable {P:Program} {Γ:Nat->Option Ty} {own:Nat->Bool} {N m0:Nat} {Q Q':Exit->St->Prop} {st:St}
theorem AWp.mono {c:Code} (h:AWp P N m0 c Q st) (hq:∀e st,Q e st->Q' e st):AWp P N m0 c Q' st :=
 fun own0 mt w0 ρ0 a w h0 hn=>wp_mono (h own0 mt w0 ρ0 a w h0 hn) fun _ _ _ ⟨st',h1,h2⟩=>⟨st',hq _ _ h1,h2⟩
theorem AWp.skip (h:Q .normal st):AWp P N m0 .skip Q st:=fun _ _ _ _ _ _ _ hn=>wp_skip ⟨st,h,hn⟩
theorem AWp.label {l:Nat} (h:Q .normal st):AWp P N m0 (.label l) Q st:=fun _ _ _ _ _ _ _ hn=>wp_label ⟨st,h,hn⟩
theorem AWp.exit {id:Nat} (h:Q (.exit id) st):AWp P N m0 (.exit id) Q st:=fun _ _ _ _ _ _ _ hn=>wp_exit ⟨st,h,hn⟩
theorem AWp.ret (h:Q .ret st):AWp P N m0 .ret Q st:=fun _ _ _ _ _ _ _ hn=>wp_ret ⟨st,h,hn⟩
def thenQ (K:St->Prop) (Q:Exit->St->Prop):Exit->St->Prop
 | .normal,st=>K st
 | .exit id,st=>Q (.exit id) st
 | .goto l,st=>Q (.goto l) st
 | .ret,st=>Q .ret st
 | .panic c,st=>Q (.panic c) st
 | .outgrown,st=>Q .outgrown st
theorem AWp.seq {x y:Code} (h:AWp P N m0 x (thenQ (fun st=>AWp P N m0 y Q st) Q) st):AWp P N m0 (.seq x y) Q st:=by
 intro own0 mt w0 ρ0 a w h0 hn;refine wp_seq (wp_mono (h own0 mt w0 ρ0 a w h0 hn) fun e a' w' ⟨st',h1,h2⟩=>?_)
 cases e with
 | normal=>exact h1 own0 mt w0 ρ0 a' w' h0 h2
 | _=>exact ⟨st',h1,h2⟩
theorem AWp.cond {c:Operand} {x y:Code} {b:Bool} (hc:evO st.En c=.x (.bool b)) (ht:b=true->AWp P N m0 x Q st) (hf:b=false->AWp P N m0 y Q st):AWp P N m0 (.cond c x y) Q st:=by
 intro own0 mt w0 ρ0 a w h0 hn;obtain ⟨ρ,hr⟩:=hn.rel;have he:=rep_evO (En:=st.En) hr.mem.tabs hr.tmps c;rw[hc]at he;exact wp_cond_split (rep_x he).1 (fun h=>ht h own0 mt w0 ρ0 a w h0 hn) fun h=>hf h own0 mt w0 ρ0 a w h0 hn
def blockQ (id:Nat) (Q:Exit->St->Prop):Exit->St->Prop
 | .normal,st=>Q .normal st
 | .exit id',st=>if id'=id then Q .normal st else Q (.exit id') st
 | .goto l,st=>Q (.goto l) st
 | .ret,st=>Q .ret st
 | .panic c,st=>Q (.panic c) st
 | .outgrown,st=>Q .outgrown st
theorem AWp.block {id:Nat} {c:Code} (h:AWp P N m0 c (blockQ id Q) st):AWp P N m0 (.block id c) Q st:=by
 intro own0 mt w0 ρ0 a w h0 hn;refine wp_block (wp_mono (h own0 mt w0 ρ0 a w h0 hn) fun e a' w' ⟨st',h1,h2⟩=>?_)
 cases e with
 | exit id' =>
  simp only[blockQ]at h1;simp only[Exit.inBlock]
  split
  .rename_i e;rw[if_pos e]at h1;exact ⟨st',h1,h2⟩
  .rename_i e;rw[if_neg e]at h1;exact ⟨st',h1,h2⟩
 | _=>exact ⟨st',h1,h2⟩
theorem AWp.text (hΓ:TysOk P Γ) {id:Nat} {ops:Array Oper} (hN:dstOk N ops=true) (h:∀K:(Nat->D)->(Nat->Option Blk)->Nat->Prop,(∀En H nx,Q .normal ⟨En,H,nx⟩->K En H nx)->goN P Γ own (dstL ops.toList) K st.nx ops.toList st.En st.H) :
 AWp P N m0 (.region id ops false) Q st:=by
 intro own0 mt w0 ρ0 a w h0 hn;exact region_text hΓ hn hN (h (fun En H nx=>Q .normal ⟨En,H,nx⟩) fun _ _ _ h=>h) fun En' H' nx' a' w' hk hn'=>⟨⟨En',H',nx'⟩,hk,hn'⟩
theorem AWp.draw (hΓ:TysOk P Γ) (hmix:P.follows .mixedOrders=true) {id:Nat} {ops:Array Oper} (hN:dstOk N ops=true) (hst:statOk ops=true)
 (h:∀K:(Nat->D)->(Nat->Option Blk)->List (List Nat×List Nat)->Prop,(∀En H hist,chk ops st.nx hist=true->Q .normal ⟨En,H,st.nx+64*ops.size⟩->K En H hist)->goS P Γ own (dstL ops.toList) K st.nx ops.toList st.En st.H []) :
 AWp P N m0 (.region id ops true) Q st:=by
 intro own0 mt w0 ρ0 a w h0 hn;exact region_draw hΓ hmix hn hN hst (h (fun En H hist=>chk ops st.nx hist=true/\Q .normal ⟨En,H,st.nx+64*ops.size⟩) fun _ _ _ h1 h2=>⟨h1,h2⟩) fun En' H' a' w' hk hn'=>⟨⟨En',H',st.nx+64*ops.size⟩,hk,hn'⟩
def VLe:V->V->Prop
 | .s _ rows,.x v=>rows=[]/\v=.slice none 0 0
 | a,b=>a=b
def CLe (H H2:Nat->Option Blk) (τ:Nat->Nat) (ν:List Nat):C->C->Prop
 | .v a,.v b=>VLe a b
 | .o r2 n2,.o r n=>ν.contains r2=false/\τ r2=r/\n2=n/\(H2 r2).isSome=true
 | .o r2 n2,.v (.x (.slice none 0 0))=>n2=0/\ν.contains r2=true/\(H2 r2).isSome=true
 | .v (.s k rows),.o r n=>match H r with
  | some (.ice k' rows')=>k=k'/\rows=rows'.take n/\n<=rows'.length
  | _=>False
 | _,_=>False
def CsLe (H H2:Nat->Option Blk) (τ:Nat->Nat) (ν:List Nat):List C->List C->Prop
 | [],[]=>True
 | a::as,b::bs=>CLe H H2 τ ν a b/\CsLe H H2 τ ν as bs
 | _,_=>False
def ELe (H H2:Nat->Option Blk) (τ:Nat->Nat) (ν:List Nat):E->E->Prop
 | .c a,.c b=>CLe H H2 τ ν a b
 | .a as,.a bs=>CsLe H H2 τ ν as bs
 | _,_=>False
def EsLe (H H2:Nat->Option Blk) (τ:Nat->Nat) (ν:List Nat):List E->List E->Prop
 | [],[]=>True
 | a::as,b::bs=>ELe H H2 τ ν a b/\EsLe H H2 τ ν as bs
 | _,_=>False
def DLe (H H2:Nat->Option Blk) (τ:Nat->Nat) (ν:List Nat):D->D->Prop
 | .top,_=>True
 | .e a,.e b=>ELe H H2 τ ν a b
 | .t as,.t bs=>EsLe H H2 τ ν as bs
 | .p b2 o2,.p b o=>ν.contains b2=false/\τ b2=b/\o2=o/\(H2 b2).isSome=true
 | .q cs,.q cs'=>cs=cs'
 | .w r2 k2 i2 o2,.w r k i o=>ν.contains r2=false/\τ r2=r/\k2=k/\i2=i/\o2=o/\(H2 r2).isSome=true
 | .u r2 k2 o2 n2,.u r k o n=>ν.contains r2=false/\τ r2=r/\k2=k/\o2=o/\n2=n/\(H2 r2).isSome=true
 | _,_=>False
def BLe (H H2:Nat->Option Blk) (τ:Nat->Nat) (ν:List Nat):Blk->Blk->Prop
 | .gone,_=>True
 | .loc as,.loc bs=>CsLe H H2 τ ν as bs
 | .row k rows,.row k' rows'=>k=k'/\rows=rows'
 | .ice k rows,.row k' rows'=>k=k'/\rows=rows'
 | .ice k rows,.ice k' rows'=>k=k'/\rows=rows'
 | .row k rows,.full k' rows' _=>k=k'/\rows=rows'
 | .full k rows c,.full k' rows' c'=>k=k'/\rows=rows'/\c=c'
 | .rowx k rows n cs,.rowx k' rows' n' cs'=>k=k'/\rows=rows'/\n=n'/\CsLe H H2 τ ν cs cs'
 | .rowx k rows n cs,.row k' rows'=>k=k'/\rows=rows'/\n<rows.length/\cs=(rows.getD n []).map .v
 | .row k rows,.rowx k' rows' n' cs'=>k=k'/\∃vs:List V,rows=rows'.set n' vs/\CsLe H H2 τ ν (vs.map .v) cs'
 | _,_=>False
def emptyRow:Blk->Prop
 | .row _ rows=>rows=[]
 | .ice _ rows=>rows=[]
 | _=>False
structure Le (m0:Nat) (τ:Nat->Nat) (ν:List Nat) (st st2:St):Prop where
 blk:∀i b,st2.H i=some b->(ν.contains i=true/\emptyRow b)\/(ν.contains i=false/\∃b0,st.H (τ i)=some b0/\BLe st.H st2.H τ ν b b0)
 inj:∀i j,solid (st2.H i)=true->solid (st2.H j)=true->ν.contains i=false->ν.contains j=false->τ i=τ j->i=j
 tmp:∀t,DLe st.H st2.H τ ν (st2.En t) (st.En t)
 fresh:∀j,st2.nx<=j->st2.H j=none
 base:∀i,i<m0->ν.contains i=false/\τ i=i/\(st2.H i).isSome=true
def rhoL (ρ:Nat->Option Pl) (τ:Nat->Nat) (ν:List Nat) (H2:Nat->Option Blk) (i:Nat):Option Pl :=
 if (H2 i).isSome=true then (if ν.contains i=true then some .nil else ρ (τ i)) else none
section le
variable {own0 mt:Nat->Prop} {w0 w:World} {ρ0 ρ:Nat->Option Pl} {H H2:Nat->Option Blk} {τ:Nat->Nat} {ν:List Nat}
theorem rhoL_of {i:Nat} (h:(H2 i).isSome=true) (hv:ν.contains i=false):rhoL ρ τ ν H2 i=ρ (τ i):=by
 simp only[rhoL];rw[if_pos h,if_neg (by rw[hv];simp)]
theorem rhoL_nil {i:Nat} (h:(H2 i).isSome=true) (hv:ν.contains i=true):rhoL ρ τ ν H2 i=some .nil:=by
 simp only[rhoL];rw[if_pos h,if_pos hv]
theorem empty_s {k:Nat} {ow:Nat->Prop}:RepV w ow (.s k []) (.slice none 0 0) :=
 .s k [] none 0 0 (fun _ _=>undef) rfl (by simp) (fun _=>rfl) (Nat.le_refl _) (by simp) (by simp)
theorem CLe.rep (hm:Mem own0 mt w0 ρ H w) (how:∀b,Ow own0 (rhoL ρ τ ν H2) H2 b->Ow own0 ρ H b) {c c':C} {u:Value} (h:CLe H H2 τ ν c c') (hc:RepC w (Ow own0 ρ H) ρ c' u):RepC w (Ow own0 (rhoL ρ τ ν H2) H2) (rhoL ρ τ ν H2) c u:=by
 cases c with
 | v a=>cases c' with
  | v b =>
   have same:a=b->RepC w (Ow own0 (rhoL ρ τ ν H2) H2) (rhoL ρ τ ν H2) (.v a) u:=fun e=>by subst e;exact RepV.mono hc (Keep.refl _ _) fun b _ h=>how b h
   cases a with
   | x v=>exact same h
   | f fn caps=>exact same h
   | s k rows=>cases b with
    | s k' rows'=>exact same h
    | f fn caps=>exact same h
    | x v =>
     obtain ⟨rfl,rfl⟩:=h;have hc:RepV w _ (.x (.slice none 0 0)) u:=hc;cases hc
     exact empty_s
  | o r n=>cases a with
   | x v=>exact h.elim
   | f fn caps=>exact h.elim
   | s k rows =>
    simp only[CLe]at h
    split at h
    .rename_i k' rows' hr;obtain ⟨rfl,rfl,hn⟩:=h;exact RepV.mono (pure_ice hm hr hc hn) (Keep.refl _ _) fun b _ h=>how b h
    .exact h.elim
 | o r2 n2=>cases c' with
  | v b =>
   cases b with
   | s k rows=>exact h.elim
   | f fn caps=>exact h.elim
   | x v =>
    have:∃ad n c,v=.slice ad n c:=by
     cases v<;>first|exact ⟨_,_,_,rfl⟩|exact h.elim
    obtain ⟨ad,n,c,rfl⟩:=this
    have h3:n2=0/\ν.contains r2=true/\(H2 r2).isSome=true:=by
     cases ad<;>cases n<;>cases c<;>first|exact h|exact h.elim
    obtain ⟨rfl,hv,hs⟩:=h3
    have he:ad=none/\n=0/\c=0:=by
     cases ad<;>cases n<;>cases c<;>first|exact ⟨rfl,rfl,rfl⟩|exact h.elim
    obtain ⟨rfl,rfl,rfl⟩:=he;have hc:RepV w _ (.x (.slice none 0 0)) u:=hc;cases hc
    exact ⟨.nil,rhoL_nil hs hv,rfl,none,rfl⟩
  | o r n =>
   obtain ⟨hv,rfl,rfl,hs⟩:=h;obtain ⟨m,hm',hc⟩:=hc;exact ⟨m,by rw[rhoL_of hs hv];exact hm',hc⟩
theorem CsLe.rep (hm:Mem own0 mt w0 ρ H w) (how:∀b,Ow own0 (rhoL ρ τ ν H2) H2 b->Ow own0 ρ H b):∀ {cs cs':List C} {us:List Value},CsLe H H2 τ ν cs cs'->All2 (RepC w (Ow own0 ρ H) ρ) cs' us->All2 (RepC w (Ow own0 (rhoL ρ τ ν H2) H2) (rhoL ρ τ ν H2)) cs us
 | [],[],[],_,_=>trivial
 | _::_,_::_,_::_,⟨h0,h1⟩,⟨g0,g1⟩=>⟨h0.rep hm how g0,h1.rep hm how g1⟩
 | [],[],_::_,_,h=>h.elim
 | _::_,_::_,[],_,h=>h.elim
 | [],_::_,_,h,_=>h.elim
 | _::_,[],_,h,_=>h.elim
theorem ELe.rep (hm:Mem own0 mt w0 ρ H w) (how:∀b,Ow own0 (rhoL ρ τ ν H2) H2 b->Ow own0 ρ H b) {e e':E} {u:Value} (h:ELe H H2 τ ν e e') (he:RepE w (Ow own0 ρ H) ρ e' u):RepE w (Ow own0 (rhoL ρ τ ν H2) H2) (rhoL ρ τ ν H2) e u:=by
 cases e with
 | c c=>cases e' with
  | c c'=>exact CLe.rep hm how h he
  | a _=>exact h.elim
 | a cs=>cases e' with
  | c _=>exact h.elim
  | a cs'=>obtain ⟨us,hu,he⟩:=he;exact ⟨us,hu,CsLe.rep hm how h he⟩
theorem EsLe.rep (hm:Mem own0 mt w0 ρ H w) (how:∀b,Ow own0 (rhoL ρ τ ν H2) H2 b->Ow own0 ρ H b):∀ {cs cs':List E} {us:List Value},EsLe H H2 τ ν cs cs'->All2 (RepE w (Ow own0 ρ H) ρ) cs' us->All2 (RepE w (Ow own0 (rhoL ρ τ ν H2) H2) (rhoL ρ τ ν H2)) cs us
 | [],[],[],_,_=>trivial
 | _::_,_::_,_::_,⟨h0,h1⟩,⟨g0,g1⟩=>⟨h0.rep hm how g0,h1.rep hm how g1⟩
 | [],[],_::_,_,h=>h.elim
 | _::_,_::_,[],_,h=>h.elim
 | [],_::_,_,h,_=>h.elim
 | _::_,[],_,h,_=>h.elim
theorem DLe.rep (hm:Mem own0 mt w0 ρ H w) (how:∀b,Ow own0 (rhoL ρ τ ν H2) H2 b->Ow own0 ρ H b) {d d':D} {u:Value} (h:DLe H H2 τ ν d d') (hd:RepD w (Ow own0 ρ H) ρ d' u):RepD w (Ow own0 (rhoL ρ τ ν H2) H2) (rhoL ρ τ ν H2) d u:=by
 cases d with
 | top=>trivial
 | e a=>cases d' with
  | e b=>exact ELe.rep hm how h hd
  | _=>exact h.elim
 | t es=>cases d' with
  | t es'=>obtain ⟨us,hu,hd⟩:=hd;exact ⟨us,hu,EsLe.rep hm how h hd⟩
  | _=>exact h.elim
 | p b2 o2=>cases d' with
  | p b o =>
   obtain ⟨hv,rfl,rfl,hs⟩:=h;obtain ⟨bn,z,c,hb,hu⟩:=hd
   exact ⟨bn,z,c,by rw[rhoL_of hs hv];exact hb,hu⟩
  | _=>exact h.elim
 | q cs=>cases d' with
  | q cs' =>
   cases h;obtain ⟨ad,hu,h⟩:=hd;refine ⟨ad,hu,fun j v hj=>?_⟩;obtain ⟨x,hx,hv,hn⟩:=h j v hj
   exact ⟨x,hx,RepV.mono hv (Keep.refl _ _) (fun b _ h=>how b h),fun h=>hn (how _ h)⟩
  | _=>exact h.elim
 | w r2 k2 i2 o2=>cases d' with
  | w r k i o =>
   obtain ⟨hv,rfl,rfl,rfl,rfl,hs⟩:=h;obtain ⟨b,base,cap,hb,hu⟩:=hd
   exact ⟨b,base,cap,by rw[rhoL_of hs hv];exact hb,hu⟩
  | _=>exact h.elim
 | g b d=>cases d'<;>exact h.elim
 | u r2 k2 o2 n2=>cases d' with
  | u r k o n =>
   obtain ⟨hv,rfl,rfl,rfl,rfl,hs⟩:=h;obtain ⟨m,hb,hu⟩:=hd
   exact ⟨m,by rw[rhoL_of hs hv];exact hb,hu⟩
  | _=>exact h.elim
theorem BLe.live {b b0:Blk} (h:BLe H H2 τ ν b b0) (hl:live (some b)=true):live (some b0)=true:=by
 cases b<;>cases b0<;>first|rfl|exact h.elim|cases hl
theorem BLe.solid {b b0:Blk} (h:BLe H H2 τ ν b b0) (hl:solid (some b)=true):solid (some b0)=true:=by
 cases b<;>cases b0<;>first|rfl|exact h.elim|cases hl
theorem BLe.rep (hm:Mem own0 mt w0 ρ H w) (how:∀b,Ow own0 (rhoL ρ τ ν H2) H2 b->Ow own0 ρ H b) {i:Nat} {b b0:Blk} (hs:(H2 i).isSome=true) (hv:ν.contains i=false) (h:BLe H H2 τ ν b b0) (hb:RepB w (Ow own0 ρ H) ρ (τ i) b0):RepB w (Ow own0 (rhoL ρ τ ν H2) H2) (rhoL ρ τ ν H2) i b:=by
 have hp:rhoL ρ τ ν H2 i=ρ (τ i):=rhoL_of hs hv
 have row:∀ {k:Nat} {rows:List (List V)},RepB w (Ow own0 ρ H) ρ (τ i) (.row k rows)->RepB w (Ow own0 (rhoL ρ τ ν H2) H2) (rhoL ρ τ ν H2) i (.row k rows):=fun {k rows} hb=>by
  obtain ⟨hl,m,hm',hb⟩:=hb;refine ⟨hl,m,by rw[hp];exact hm',?_⟩
  cases m with
  | nil=>exact hb
  | blk b base cap =>
   obtain ⟨h1,vs,T,fr,hh,hf,h2,h3⟩:=hb;exact ⟨h1,vs,T,fr,hh,hf,h2,fun i r j v hi hj=>(h3 i r j v hi hj).imp fun x ⟨hx,hv⟩=>⟨hx,hv.mono (Keep.refl _ _) fun b _ h=>how b h⟩⟩
 cases b with
 | gone=>trivial
 | loc cs=>cases b0 with
  | loc cs' =>
   obtain ⟨b,c,hb,vs,T,fr,hh,hf,ha⟩:=hb
   exact ⟨b,c,by rw[hp];exact hb,vs,T,fr,hh,hf,CsLe.rep hm how h ha⟩
  | _=>exact h.elim
 | row k rows=>cases b0 with
  | row k' rows'=>obtain ⟨rfl,rfl⟩:=h;exact row hb
  | full k' rows' c=>obtain ⟨rfl,rfl⟩:=h;exact row hb.row_of_full
  | rowx k' rows' n' cs' =>
   obtain ⟨rfl,vs0,rfl,hc⟩:=h;obtain ⟨hl,hn,hk,b,base,cap,hm',h1,vs,T,fr,hh,hf,h2,h3,h4⟩:=id hb;obtain ⟨vs',T',fr',hh',_,ha⟩:=rowx_cells hb hm';rw[hh]at hh';cases hh';have hr:=CsLe.rep hm how hc ha
   have hlen:vs0.length=k:=by
    have e1:=hr.length;have e2:=ha.length;rw[List.length_map]at e1;omega
   refine ⟨fun r hr'=>?_,.blk b base cap,by rw[hp];exact hm',by rw[List.length_set];exact h1,vs,T,fr,hh,hf,h2,fun i r j v hi hj=>?_⟩
   .rcases List.mem_or_eq_of_mem_set hr' with h|h
    .exact hl r h
    .rw[h];exact hlen
   .by_cases e:i=n'
    .subst e;rw[List.getElem?_set_self hn]at hi;cases hi;exact rowx_mk hr j (.v v) (by rw[List.getElem?_map,hj];rfl)
    .rw[List.getElem?_set_ne (fun h=>e h.symm)]at hi
     exact (h3 i r j v e hi hj).imp fun x ⟨hx,hv⟩=>⟨hx,hv.mono (Keep.refl _ _) fun b _ h=>how b h⟩
  | _=>exact h.elim
 | rowx k rows n cs=>cases b0 with
  | rowx k' rows' n' cs' =>
   obtain ⟨rfl,rfl,rfl,hc⟩:=h;obtain ⟨hl,hn,hk,b,base,cap,hm',h1,vs,T,fr,hh,hf,h2,h3,h4⟩:=id hb;obtain ⟨vs',T',fr',hh',_,ha⟩:=rowx_cells hb hm';rw[hh]at hh';cases hh';have hr:=CsLe.rep hm how hc ha
   have hlen:cs.length=k:=by
    have e1:=hr.length;have e2:=ha.length;omega
   exact ⟨hl,hn,hlen,b,base,cap,by rw[hp];exact hm',h1,vs,T,fr,hh,hf,h2,fun m r j v hne hi hj=>(h3 m r j v hne hi hj).imp fun x ⟨hx,hv⟩=>⟨hx,hv.mono (Keep.refl _ _) fun b _ h=>how b h⟩,rowx_mk hr⟩
  | row k' rows' =>
   obtain ⟨rfl,rfl,hn,rfl⟩:=h;obtain ⟨hl,m,hm',hb⟩:=hb
   cases m with
   | nil=>rw[show rows=[] from hb]at hn;simp at hn
   | blk b base cap =>
    obtain ⟨h1,vs,T,fr,hh,hf,h2,h3⟩:=hb;have hg:rows[n]?=some (rows.getD n []):=by rw[List.getD_eq_getElem?_getD,List.getElem?_eq_getElem hn];rfl
    refine ⟨hl,hn,by rw[List.length_map];exact hl _ (List.mem_of_getElem? hg),b,base,cap,by rw[hp];exact hm',h1,vs,T,fr,hh,hf,h2,fun m r j v _ hi hj=>(h3 m r j v hi hj).imp fun x ⟨hx,hv⟩=>⟨hx,hv.mono (Keep.refl _ _) fun b _ h=>how b h⟩,fun j c hj=>?_⟩;rw[List.getElem?_map,Option.map_eq_some_iff]at hj;obtain ⟨v,hj,rfl⟩:=hj
    exact (h3 n _ j v hg hj).imp fun x ⟨hx,hv⟩=>⟨hx,RepV.mono hv (Keep.refl _ _) fun b _ h=>how b h⟩
  | _=>exact h.elim
 | full k rows c=>cases b0 with
  | full k' rows' c'=>obtain ⟨rfl,rfl,rfl⟩:=h;exact ⟨row hb.row_of_full,fun m hm'=>hb.2 m (by rw[<-hp];exact hm')⟩
  | _=>exact h.elim
 | ice k rows=>cases b0 with
  | row k' rows'=>obtain ⟨rfl,rfl⟩:=h;exact row hb
  | ice k' rows'=>obtain ⟨rfl,rfl⟩:=h;exact row hb
  | _=>exact h.elim
theorem Now.le {st st2:St} {a:Act} (hn:Now own0 mt w0 ρ0 N st.En st.H st.nx a w) (h0:∀i,m0<=i->ρ0 i=none) (h:Le m0 τ ν st st2):Now own0 mt w0 ρ0 N st2.En st2.H st2.nx a w:=by
 obtain ⟨ρ,hr⟩:=hn.rel;have hm:=hr.mem
 have some_of:∀ {i b base c},rhoL ρ τ ν st2.H i=some (.blk b base c)->(st2.H i).isSome=true/\ν.contains i=false/\ρ (τ i)=some (.blk b base c):=fun {i b base c} hi=>by
  simp only[rhoL]at hi
  split at hi
  .split at hi
   .cases hi
   .rename_i hv;exact ⟨by assumption,by simpa using hv,hi⟩
  .cases hi
 have how:∀b,Ow own0 (rhoL ρ τ ν st2.H) st2.H b->Ow own0 ρ st.H b:=by
  rintro b (hb|⟨i,base,c,hi,hl⟩)
  .exact .inl hb
  .obtain ⟨hs,hv,hp⟩:=some_of hi;obtain ⟨b2,hb2⟩:=Option.isSome_iff_exists.1 hs;rcases h.blk i b2 hb2 with ⟨hv',_⟩|⟨_,b0,hb0,hle⟩
   .rw[hv]at hv';cases hv'
   .exact .inr ⟨τ i,base,c,hp,by rw[hb0];exact hle.live (by rw[<-hb2];exact hl)⟩
 have sol:∀ {i},solid (st2.H i)=true->ν.contains i=false->(st2.H i).isSome=true/\solid (st.H (τ i))=true:=fun {i} hl hv=>by
  cases hb2:st2.H i with
  | none=>rw[hb2]at hl;cases hl
  | some b2 =>
   rcases h.blk i b2 hb2 with ⟨hv',_⟩|⟨_,b0,hb0,hle⟩
   .rw[hv]at hv';cases hv'
   .exact ⟨rfl,by rw[hb0];exact hle.solid (by rw[<-hb2];exact hl)⟩
 refine ⟨⟨rhoL ρ τ ν st2.H,hr.defers,fun i m hi=>?_,hr.size,fun t=>(h.tmp t).rep hm how (hr.tmps t),?_⟩,h.fresh⟩
 .have hlt:i<m0:=by
   rcases Nat.lt_or_ge i m0 with h|h
   .exact h
   .rw[h0 i h]at hi;cases hi
  obtain ⟨hv,e,hs⟩:=h.base i hlt;rw[rhoL_of hs hv,e];exact hr.base i m hi
 .exact {
   blks:=fun i b hb=>by
    have hs:(st2.H i).isSome=true:=by rw[hb];rfl
    rcases h.blk i b hb with ⟨hv,he⟩|⟨hv,b0,hb0,hle⟩
    .have hp:=rhoL_nil (ρ:=ρ) (τ:=τ) hs hv
     cases b with
     | row k rows=>have he:rows=[]:=he;subst he;exact ⟨by simp,.nil,hp,rfl⟩
     | ice k rows=>have he:rows=[]:=he;subst he;exact ⟨by simp,.nil,hp,rfl⟩
     | loc cs=>exact he.elim
     | full k rows c=>exact he.elim
     | rowx k rows n cs=>exact he.elim
     | gone=>exact he.elim
    .exact hle.rep hm how hs hv (hm.blks _ _ hb0)
   defd:=fun i hi=>by simp[rhoL,hi]
   inj:=fun i j b c k b' c' k' h1 h2 h3 h4 hne=>by
    obtain ⟨_,v1,p1⟩:=some_of h3;obtain ⟨_,v2,p2⟩:=some_of h4;obtain ⟨s1,q1⟩:=sol h1 v1;obtain ⟨s2,q2⟩:=sol h2 v2;exact hm.inj (τ i) (τ j) _ _ _ _ _ _ q1 q2 p1 p2 fun e=>hne (h.inj i j h1 h2 v1 v2 e)
   fresh:=fun i b c k hi=>hm.fresh (τ i) _ _ _ (some_of hi).2.2
   keep:=hm.keep
   own0:=hm.own0
   glob:=hm.glob }
end le
theorem AWp.le {c:Code} {τ:Nat->Nat} {ν:List Nat} {st2:St} (h:Le m0 τ ν st st2) (hc:AWp P N m0 c Q st2):AWp P N m0 c Q st :=
 fun own0 mt w0 ρ0 a w h0 hn=>hc own0 mt w0 ρ0 a w h0 (hn.le h0 h)
def roundQ {β:Type} (m0:Nat) (S:β->St) (p:β->Prop) (μ:β->Nat) (b:β) (Q:Exit->St->Prop):Exit->St->Prop :=
 thenQ (fun st'=>∃b' τ ν,p b'/\μ b'<μ b/\Le m0 τ ν st' (S b')) Q
theorem AWp.loop {β:Type} (S:β->St) (p:β->Prop) (μ:β->Nat) (b0:β) (hp:p b0) {τ:Nat->Nat} {ν:List Nat} (hst:Le m0 τ ν st (S b0)) {c:Code} (round:∀b,p b->AWp P N m0 c (roundQ m0 S p μ b Q) (S b)):AWp P N m0 (.loop c) Q st:=by
 intro own0 mt w0 ρ0 a w h0 hn;intro fr k cs
 have key:∀(n:Nat) (b:β) (a:Act) (w:World),μ b=n->p b->Now own0 mt w0 ρ0 N (S b).En (S b).H (S b).nx a w ->
  ∃e a' w',(∃st':St,Q e st'/\Now own0 mt w0 ρ0 N st'.En st'.H st'.nx a' w')/\Arrives P (lone (fr.at a (.code c::.inLoop c::k)) cs w) fr k cs e a' w':=by
  intro n
  induction n using Nat.strongRecOn with
  | _ n ih =>
   intro b a w hb hpb hnb;obtain ⟨e,a₁,w₁,⟨st',hq,hn'⟩,harr⟩:=round b hpb own0 mt w0 ρ0 a w h0 hnb fr (.inLoop c::k) cs
   cases e with
   | normal =>
    obtain ⟨b',τ',ν',hp',hlt,hle⟩:=hq;obtain ⟨e₂,a₂,w₂,hq₂,harr₂⟩:=ih (μ b') (hb ▸ hlt) b' a₁ w₁ rfl hp' (hn'.le h0 hle)
    exact ⟨e₂,a₂,w₂,hq₂,.of_steps (Steps.trans harr (.one step_inLoop)) harr₂⟩
   | exit id=>exact ⟨_,a₁,w₁,⟨st',hq,hn'⟩,.pass (x:=.inLoop c) rfl (fun _ _=>.inl (by simp)) harr⟩
   | goto l=>exact ⟨_,a₁,w₁,⟨st',hq,hn'⟩,.pass (x:=.inLoop c) rfl (fun _ _=>.inl (by simp)) harr⟩
   | ret=>exact ⟨_,a₁,w₁,⟨st',hq,hn'⟩,.pass (x:=.inLoop c) rfl (fun _ _=>.inl (by simp)) harr⟩
   | panic ch=>exact ⟨_,a₁,w₁,⟨st',hq,hn'⟩,.pass (x:=.inLoop c) rfl (fun _ _=>.inl (by simp)) harr⟩
   | outgrown=>exact ⟨_,a₁,w₁,⟨st',hq,hn'⟩,.pass (x:=.inLoop c) rfl (fun _ _=>.inl (by simp)) harr⟩
 obtain ⟨e,a',w',hq,harr⟩:=key _ b0 a w rfl hp (hn.le h0 hst);exact ⟨e,a',w',hq,.of_steps (.one step_loop) harr⟩
def ofL:List (Nat×D)->Nat->D
 | [],_=>.top
 | (i,d)::r,t=>if t=i then d else ofL r t
def ofH:List (Nat×Blk)->Nat->Option Blk
 | [],_=>none
 | (i,b)::r,j=>if j=i then some b else ofH r j
def mkSt (l:List (Nat×D)) (h:List (Nat×Blk)) (nx:Nat):St:=⟨ofL l,ofH h,nx⟩
def ren (l:List (Nat×Nat)) (i:Nat):Nat :=
 match l with
 | []=>i
 | (j,k)::r=>if i=j then k else ren r i
def leL (H H2:Nat->Option Blk) (τ:Nat->Nat) (ν:List Nat) (En:Nat->D):List (Nat×D)->Prop
 | []=>True
 | (t,d)::r=>DLe H H2 τ ν d (En t)/\leL H H2 τ ν En r
def leB (H H2:Nat->Option Blk) (τ:Nat->Nat) (ν:List Nat) (b:Blk):Option Blk->Prop
 | some b0=>BLe H H2 τ ν b b0
 | none=>False
def leH (H H2:Nat->Option Blk) (τ:Nat->Nat) (ν:List Nat):List (Nat×Blk)->Prop
 | []=>True
 | (i,b)::r=>(if ν.contains i=true then emptyRow b else leB H H2 τ ν b (H (τ i)))/\leH H H2 τ ν r
def isGone:Blk->Bool
 | .gone=>true
 | _=>false
def idsOk (m0:Nat) (τ:List (Nat×Nat)) (ν:List Nat) (l:List (Nat×Blk)) (nx:Nat):Bool :=
 nodup ((l.filter fun p=>!isGone p.2 && !ν.contains p.1).map fun p=>ren τ p.1) && nodup (l.map (·.1)) && l.all (fun p=>decide (p.1<nx)) && (List.range m0).all fun i=>!ν.contains i && decide (ren τ i=i) && (l.map (·.1)).contains i
theorem leL_spec {H H2:Nat->Option Blk} {τ:Nat->Nat} {ν:List Nat} {En:Nat->D}:∀ {l:List (Nat×D)},leL H H2 τ ν En l->∀t,DLe H H2 τ ν (ofL l t) (En t)
 | [],_,t=>trivial
 | (i,d)::r,⟨h0,h1⟩,t=>by
  simp only[ofL]
  split
  .rename_i e;subst e;exact h0
  .exact leL_spec h1 t
theorem leH_spec {H H2:Nat->Option Blk} {τ:Nat->Nat} {ν:List Nat}:∀ {l:List (Nat×Blk)},leH H H2 τ ν l->∀i b,ofH l i=some b->(ν.contains i=true/\emptyRow b)\/(ν.contains i=false/\∃b0,H (τ i)=some b0/\BLe H H2 τ ν b b0)
 | [],_,i,b,h=>by cases h
 | (j,b')::r,⟨h0,h1⟩,i,b,h=>by
  simp only[ofH]at h
  split at h
  .rename_i e;subst e;cases h
   split at h0
   .exact .inl ⟨by assumption,h0⟩
   .rename_i hv;refine .inr ⟨by simpa using hv,?_⟩;unfold leB at h0
    split at h0
    .rename_i b0 hb0;exact ⟨b0,hb0,h0⟩
    .exact h0.elim
  .exact leH_spec h1 i b h
theorem ofH_mem:∀ {l:List (Nat×Blk)} {i:Nat},(ofH l i).isSome=true↔i∈l.map (·.1)
 | [],i=>by simp[ofH]
 | (j,b)::r,i=>by
  simp only[ofH,List.map_cons,List.mem_cons];by_cases e:i=j
  .simp[e]
  .rw[if_neg e];simp[e,ofH_mem (l:=r)]
theorem ofH_mem2:∀ {l:List (Nat×Blk)} {i:Nat} {b:Blk},ofH l i=some b->(i,b)∈l
 | [],i,b,h=>by cases h
 | (j,c)::r,i,b,h=>by
  simp only[ofH]at h
  split at h
  .rename_i e;subst e;cases h;simp
  .exact List.mem_cons_of_mem _ (ofH_mem2 h)
theorem nodup_map {α:Type} {f:α->Nat}:∀ {l:List α},nodup (l.map f)=true->∀ {i j:α},i∈l->j∈l->f i=f j->i=j
 | [],_,i,j,h,_,_=>by cases h
 | x::xs,hn,i,j,hi,hj,e=>by
  simp only[List.map_cons,nodup,Bool.and_eq_true,Bool.not_eq_true']at hn;have nm:f x∉xs.map f:=by simpa using hn.1
  rcases List.mem_cons.1 hi with e1|hi'<;>rcases List.mem_cons.1 hj with e2|hj'
  .rw[e1,e2]
  .exact absurd (List.mem_map.2 ⟨j,hj',by rw[<-e,e1]⟩) nm
  .exact absurd (List.mem_map.2 ⟨i,hi',by rw[e,e2]⟩) nm
  .exact nodup_map hn.2 hi' hj' e
theorem Le.of {τ:List (Nat×Nat)} {ν:List Nat} {l:List (Nat×D)} {h:List (Nat×Blk)} {nx:Nat} (h1:idsOk m0 τ ν h nx=true) (h2:leH st.H (ofH h) (ren τ) ν h) (h3:leL st.H (ofH h) (ren τ) ν st.En l):Le m0 (ren τ) ν st (mkSt l h nx):=by
 simp only[idsOk,Bool.and_eq_true]at h1;obtain ⟨⟨⟨hn,_⟩,hlt⟩,hb⟩:=h1;refine ⟨leH_spec h2,fun i j hi hj vi vj e=>?_,leL_spec h3,fun j hj=>?_,fun i hi=>?_⟩
 .have hard:∀ {i},solid (ofH h i)=true->ν.contains i=false->∃b,(i,b)∈h.filter fun p=>!isGone p.2 && !ν.contains p.1:=fun {i} hs hv=>by
   cases ho:ofH h i with
   | none=>rw[ho]at hs;cases hs
   | some b =>
    refine ⟨b,List.mem_filter.2 ⟨ofH_mem2 ho,?_⟩⟩;simp only[hv];rw[ho]at hs;cases b<;>first|rfl|cases hs
  obtain ⟨b1,m1⟩:=hard hi vi;obtain ⟨b2,m2⟩:=hard hj vj;have:=nodup_map hn m1 m2 e;exact congrArg Prod.fst this
 .cases ho:ofH h j with
  | none=>exact ho
  | some b =>
   have:=List.all_eq_true.1 hlt _ (ofH_mem2 ho);simp only[decide_eq_true_eq]at this;have hj:nx<=j:=hj;omega
 .have:=List.all_eq_true.1 hb i (by simpa using hi);simp only[Bool.and_eq_true,decide_eq_true_eq,Bool.not_eq_true']at this;exact ⟨this.1.1,this.1.2,ofH_mem.2 (by simpa using this.2)⟩
def iceH (keep:List Nat) (H:Nat->Option Blk) (i:Nat):Option Blk :=
 if keep.contains i then H i else
 match H i with
 | some (.row k rows)=>some (.ice k rows)
 | b=>b
theorem iceH_live {keep:List Nat} {H:Nat->Option Blk} {i:Nat} (h:live (iceH keep H i)=true):live (H i)=true:=by
 unfold iceH at h
 split at h
 .exact h
 .split at h
  .cases h
  .exact h
theorem iceH_solid {keep:List Nat} {H:Nat->Option Blk} {i:Nat} (h:solid (iceH keep H i)=true):solid (H i)=true:=by
 unfold iceH at h
 split at h
 .exact h
 .split at h
  .rename_i e;rw[e];rfl
  .exact h
theorem Now.ice {own0 mt:Nat->Prop} {w0 w:World} {ρ0:Nat->Option Pl} {En:Nat->D} {H:Nat->Option Blk} {nx:Nat} {a:Act} (keep:List Nat) (h:Now own0 mt w0 ρ0 N En H nx a w):Now own0 mt w0 ρ0 N En (iceH keep H) nx a w:=by
 obtain ⟨ρ,hr⟩:=h.rel;have hm:=hr.mem
 have how:∀b,Ow own0 ρ (iceH keep H) b->Ow own0 ρ H b:=by
  rintro b (h|⟨i,base,c,hi,hl⟩)
  .exact .inl h
  .exact .inr ⟨i,base,c,hi,iceH_live hl⟩
 refine ⟨⟨ρ,hr.defers,hr.base,hr.size,fun t=>(hr.tmps t).mono (Keep.refl _ _) (fun b _ h=>how b h) (.refl _),?_⟩,fun j hj=>?_⟩
 .exact {
   blks:=fun i b hb=>by
    have old:∀b0,H i=some b0->RepB w (Ow own0 ρ (iceH keep H)) ρ i b0:=fun b0 h0=>(hm.blks i b0 h0).mono (Keep.refl _ _) (fun b _ h=>how b h) (.refl _) fun _ _ _ _ _=>rfl;unfold iceH at hb
    split at hb
    .exact old b hb
    .split at hb
     .rename_i k rows e;cases hb;exact show RepB w _ ρ i (.row k rows) from old _ e
     .exact old b hb
   defd:=fun i hi=>by
    refine hm.defd i ?_;unfold iceH at hi
    split at hi
    .exact hi
    .split at hi
     .cases hi
     .exact hi
   inj:=fun i j b c k b' c' k' h1 h2=>hm.inj i j b c k b' c' k' (iceH_solid h1) (iceH_solid h2)
   fresh:=hm.fresh
   keep:=hm.keep
   own0:=hm.own0
   glob:=hm.glob }
 .have:=h.fresh j hj;simp[iceH,this]
def resV (Γ:Nat->Option Ty) (H:Nat->Option Blk) (En:Nat->D):ResultVar->Option E
 | .tmp t=>match En t with
  | .e e=>some e
  | _=>none
 | .cell a t=>match Γ t,En a with
  | some ty,.p b off=>match H b with
   | some (.loc cs)=>if off+ty.size<=cs.length then (match pick1 (isAggD ty.desc) ty.size id (cs.drop off) with
    | .e e=>some e
    | _=>none) else none
   | _=>none
  | _,_=>none
def resTs (Γ:Nat->Option Ty) (H:Nat->Option Blk) (En:Nat->D):List ResultVar->Option (List E)
 | []=>some []
 | r::rs=>match resV Γ H En r,resTs Γ H En rs with
  | some e,some es=>some (e::es)
  | _,_=>none
def resE (Γ:Nat->Option Ty) (H:Nat->Option Blk) (En:Nat->D) (rs:List ResultVar):Option D :=
 match rs with
 | [.tmp t]=>some (En t)
 | [.cell a t]=>(resV Γ H En (.cell a t)).map .e
 | rs=>(resTs Γ H En rs).map .t
def rvS (tmps:Array Value):ResultVar->Sem Value
 | .tmp t=>pure (tmps.getD t undef)
 | .cell a t=>do loadVar t (<-asAddr (tmps.getD a undef))
theorem results_eq (fn:Func) (tmps:Array Value):results fn tmps=(do let vs <-fn.results.mapM (rvS tmps);pure (if h:vs.size=1 then vs[0] else .tuple vs)):=by
 unfold results;congr 2
theorem run_results {own0 mt:Nat->Prop} {w0 w:World} {ρ0 ρ:Nat->Option Pl} {En:Nat->D} {H:Nat->Option Blk} {a:Act} (hΓ:TysOk P Γ) (hr:Rel own0 mt w0 ρ0 N ρ En H a w) {fn:Func} {d:D} (h:resE Γ H En fn.results.toList=some d) :
 ∃u,(results fn a.tmps).run P w=.ok u w/\RepD w (Ow own0 ρ H) ρ d u:=by
 have one:∀(r:ResultVar) (e:E),resV Γ H En r=some e->∃u,(rvS a.tmps r).run P w=.ok u w/\RepE w (Ow own0 ρ H) ρ e u:=by
  intro r e h
  cases r with
  | tmp t =>
   simp only[resV]at h
   split at h
   .rename_i e' he;cases h;have ht:=hr.tmps t;rw[he]at ht;exact ⟨_,rfl,ht⟩
   .cases h
  | cell x t =>
   simp only[resV]at h
   split at h
   .rename_i ty b off hty hx
    split at h
    .rename_i cs hb
     split at h
     .rename_i hle
      split at h
      .rename_i e' he;cases h;have hx':=hr.tmps x;rw[hx]at hx'
       obtain ⟨_,v,hrun,hd⟩:=load_sound (P:=P) (q:=true) hr.mem (hΓ _ _ hty) rfl (d:=.p b off) (d':=pick1 (isAggD ty.desc) ty.size id (cs.drop off)) (ups:=[]) (by
        simp only[loadE,hb];exact ⟨fun _=>hle,rfl⟩) hx'
       rw[he]at hd;refine ⟨v,?_,hd⟩;obtain ⟨bn,z,c,_,hu⟩:=hx';rw[hu]at hrun;simp only[rvS,hu];simpa[Instr.loadAt,Instr.sureAddr,asAddr] using hrun
      .cases h
     .cases h
    .cases h
   .cases h
 have many:∀(rs:List ResultVar) (es:List E),resTs Γ H En rs=some es->∃us:List Value,(rs.mapM (rvS a.tmps)).run P w=.ok us w/\All2 (RepE w (Ow own0 ρ H) ρ) es us/\us.length=rs.length:=by
  intro rs
  induction rs with
  | nil=>intro es h;cases h;exact ⟨[],rfl,trivial,rfl⟩
  | cons r rs ih =>
   intro es h;simp only[resTs]at h
   split at h
   .rename_i e es' he hes;cases h;obtain ⟨us,h1,h2,h3⟩:=ih _ hes;obtain ⟨u,g1,g2⟩:=one r e he;exact ⟨u::us,by simp[List.mapM_cons,g1,h1],⟨g2,h2⟩,by simp[h3]⟩
   .cases h
 have conv:∀us:List Value,(fn.results.toList.mapM (rvS a.tmps)).run P w=.ok us w->(results fn a.tmps).run P w=.ok (if h:us.toArray.size=1 then us.toArray[0] else .tuple us.toArray) w:=by
  intro us h;rw[results_eq,Sem.run_bind,Array.mapM_eq_mapM_toList];simp only[Sem.run_map,h,Result.andThen_ok,Sem.run_pure]
 unfold resE at h
 split at h
 .rename_i t hrs;cases h;have h1:(fn.results.toList.mapM (rvS a.tmps)).run P w=.ok [a.tmps.getD t undef] w:=by rw[hrs];simp[rvS]
  exact ⟨_,conv _ h1,by simpa using hr.tmps t⟩
 .rename_i x t hrs;simp only[Option.map_eq_some_iff]at h;obtain ⟨e,he,rfl⟩:=h;obtain ⟨u,g1,g2⟩:=one _ e he;have h1:(fn.results.toList.mapM (rvS a.tmps)).run P w=.ok [u] w:=by rw[hrs];simp[g1]
  exact ⟨u,conv _ h1,g2⟩
 .rename_i hne hne2;simp only[Option.map_eq_some_iff]at h;obtain ⟨es,hes,rfl⟩:=h;obtain ⟨us,h1,h2,h3⟩:=many _ _ hes;refine ⟨_,conv _ h1,us,?_,h2⟩
  have hl:us.length≠1:=by
   intro e;rw[e]at h3
   match hrs:fn.results.toList,h3 with
   | [.tmp t],_=>exact hne t hrs
   | [.cell x t],_=>exact hne2 x t hrs
  simp[hl]
def numL:Nat->List Blk->List (Nat×Blk)
 | _,[]=>[]
 | i,b::r=>(i,b)::numL (i+1) r
theorem numL_get:∀(bo:List Blk) (i j:Nat),ofH (numL i bo) (i+j)=bo[j]?
 | [],i,j=>by simp[numL,ofH]
 | b::r,i,0=>by simp[numL,ofH]
 | b::r,i,j+1=>by
  simp only[numL,ofH];rw[if_neg (by omega)];have:=numL_get r (i+1) j;rw[show i+(j+1)=i+1+j by omega];simpa using this
def finK (H:Nat->Option Blk) (m0:Nat) (val:D) (bo:List Blk) (d:D):Prop :=
 ∃keep τ ν,idsOk m0 τ ν (numL 0 bo) bo.length=true/\leH (iceH keep H) (ofH (numL 0 bo)) (ren τ) ν (numL 0 bo)/\DLe (iceH keep H) (ofH (numL 0 bo)) (ren τ) ν val d
def onRes (H:Nat->Option Blk) (m0:Nat) (val:D) (bo:List Blk):Option D->Prop
 | some d=>finK H m0 val bo d
 | none=>False
def Fin (Γ:Nat->Option Ty) (fn:Func) (m0:Nat) (val:D) (bo:List Blk) (st:St):Prop:=onRes st.H m0 val bo (resE Γ st.H st.En fn.results.toList)
def finQ (Γ:Nat->Option Ty) (fn:Func) (m0:Nat) (val:D) (bo:List Blk):Exit->St->Prop
 | .normal,st=>Fin Γ fn m0 val bo st
 | .ret,st=>Fin Γ fn m0 val bo st
 | _,_=>False
theorem acall_of (hΓ:TysOk P Γ) {f:FuncId} {fn:Func} {c:Code} {bi:List Blk} {args:List D} {val:D} {bo:List Blk} (hf:P.funcs[f]?=some fn) (hb:fn.body=some c) (hname:(fn.name == "runtime.NumGoroutine")=false) (hlen:args.length<=fn.ntmps)
 (h:AWp P fn.ntmps bi.length c (finQ Γ fn bi.length val bo) ⟨fun t=>args.getD t .top,fun i=>bi[i]?,bi.length⟩):ACall P f bi args val bo:=by
 refine ⟨⟨fn,hf,hname,by rw[hb];rfl⟩,fun own0 w ρ vs hm ha=>?_⟩;have hl:=ha.length;have h0:∀i,bi.length<=i->ρ i=none:=fun i hi=>hm.defd i (by simp;omega)
 have hn:Now own0 (Hd ρ) w ρ fn.ntmps (fun t=>args.getD t .top) (fun i=>bi[i]?) bi.length { tmps:=vs.toArray++Array.replicate (fn.ntmps - vs.toArray.size) undef,defers:=[] } w:=by
  refine ⟨⟨ρ,rfl,.refl _,by simp;omega,fun t=>?_,hm⟩,fun j hj=>by simp;omega⟩;simp only[]
  cases hd:args[t]? with
  | none=>simp only[List.getD_eq_getElem?_getD,hd,Option.getD_none];trivial
  | some d =>
   obtain ⟨u,hu,hr⟩:=ha.get hd;have hlt:=(List.getElem?_eq_some_iff.1 hu).1
   have:(vs.toArray++Array.replicate (fn.ntmps - vs.toArray.size) undef).getD t undef=u:=by
    rw[Array.getD_eq_getD_getElem?,Array.getElem?_append_left (by simpa using hlt)];simp[hu]
   rw[this];simp only[List.getD_eq_getElem?_getD,hd,Option.getD_some];exact hr
 refine calls_of_wp hf hb (wp_mono (h own0 (Hd ρ) w ρ _ w h0 hn) fun e a' w' ⟨st',hq,hn'⟩=>?_)
 have fin:Fin Γ fn bi.length val bo st'->a'.defers=[]/\∃v,(results fn a'.tmps).run P w'=.ok v w'/\(∃u ρ',Ending.returned v=.returned u/\Sub ρ ρ'/\RepD w' (Ow own0 ρ' fun i=>bo[i]?) ρ' val u/\Mem own0 (Hd ρ) w ρ' (fun i=>bo[i]?) w'):=by
  intro hfin;unfold Fin onRes at hfin
  split at hfin
  case h_2=>exact hfin.elim
  rename_i d hres;obtain ⟨keep,τ,ν,hids,hleH,hleD⟩:=hfin;have hle:Le bi.length (ren τ) ν ⟨fun t=>if t=0 then d else .top,iceH keep st'.H,st'.nx⟩ (mkSt [(0,val)] (numL 0 bo) bo.length):=Le.of hids hleH ⟨hleD,trivial⟩;obtain ⟨ρ1,hr⟩:=hn'.rel;obtain ⟨u,hrun,hd⟩:=run_results (P:=P) hΓ hr hres;refine ⟨hr.defers,u,hrun,?_⟩;let a2:Act:={ tmps:=#[u],defers:=[] }
  have hn2:Now own0 (Hd ρ) w ρ 1 (fun t=>if t=0 then d else .top) st'.H st'.nx a2 w':=by
   refine ⟨⟨ρ1,rfl,hr.base,rfl,fun t=>?_,hr.mem⟩,hn'.fresh⟩;by_cases e:t=0
   .subst e;simpa[a2] using hd
   .simp only[if_neg e];trivial
  obtain ⟨ρ2,hr2⟩:=(Now.le (st:=⟨_,_,_⟩) (hn2.ice keep) h0 hle).rel;have hH:ofH (numL 0 bo)=fun i=>bo[i]?:=by funext i;have:=numL_get bo 0 i;simpa using this
  have hm2:=hr2.mem;have ht2:=hr2.tmps 0;simp only[mkSt,hH]at hm2 ht2;refine ⟨u,ρ2,rfl,hr2.base,?_,hm2⟩;simpa[a2,ofL] using ht2
 cases e with
 | normal=>exact fin hq
 | ret=>exact fin hq
 | _=>exact hq.elim
theorem AWp.freeze {P:Program} {N m0:Nat} {c:Code} {Q:Exit->St->Prop} {st:St} (keep:List Nat) (h:AWp P N m0 c Q ⟨st.En,iceH keep st.H,st.nx⟩):AWp P N m0 c Q st :=
 fun own0 mt w0 ρ0 a w h0 hn=>h own0 mt w0 ρ0 a w h0 (hn.ice keep)
theorem Mem.shut {own0 mt:Nat->Prop} {w0 w:World} {ρ:Nat->Option Pl} {H:Nat->Option Blk} (hm:Mem own0 mt w0 ρ H w) {r k n:Nat} {rows:List (List V)} {cs:List C} (h:H r=some (.rowx k rows n cs)) {vs:List V} {p:Prop}
 (hv:frzCs H cs=some (vs,[],p)) (hp:p):Mem own0 mt w0 ρ (upd H r (some (.row k (rows.set n vs)))) w:=by
 obtain ⟨hrl,hn,hk,b,base,cap,hpl,hcap,xs,T,fr,hh,hf,h2,h3,h4⟩:=hm.blks r _ h;obtain ⟨xs',T',fr',hh',_,ha⟩:=rowx_cells (hm.blks r _ h) hpl;rw[hh]at hh';cases hh';obtain ⟨_,hvr⟩:=Yp hm hv hp ha;have hvl:=hvr.length;have hal:=ha.length;have hlv:live (some (.row k (rows.set n vs)))=true->live (H r)=true:=fun _=>by rw[h];rfl
 refine hm.relax hlv (by simp[solid,h]) ⟨fun r' hr'=>?_,_,hpl,by simpa using hcap,xs,T,fr,hh,hf,h2,fun i r' j v hi hj=>?_⟩
 .rcases List.mem_or_eq_of_mem_set hr' with h|rfl
  .exact hrl _ h
  .omega
 .by_cases e:i=n
  .subst e;rw[List.getElem?_set_self hn]at hi;cases hi;obtain ⟨u,hu,hr⟩:=hvr.get hj;refine ⟨u,?_,hr.mono (Keep.refl _ _) fun b _ hb=>Z6 hlv hb⟩;rw[List.getElem?_take]at hu
   split at hu
   .rw[List.getElem?_drop]at hu;simpa using hu
   .cases hu
  .rw[List.getElem?_set_ne (Ne.symm e)]at hi;obtain ⟨x,hx,hvx⟩:=h3 i r' j v e hi hj;exact ⟨x,hx,hvx.mono (Keep.refl _ _) fun b _ hb=>Z6 hlv hb⟩
theorem Now.shut {own0 mt:Nat->Prop} {w0 w:World} {ρ0:Nat->Option Pl} {N:Nat} {En:Nat->D} {H:Nat->Option Blk} {nx:Nat} {a:Act} {r k n:Nat} {rows:List (List V)} {cs:List C} (hr:H r=some (.rowx k rows n cs)) {vs:List V} {p:Prop}
 (hv:frzCs H cs=some (vs,[],p)) (hp:p) (h:Now own0 mt w0 ρ0 N En H nx a w):Now own0 mt w0 ρ0 N En (upd H r (some (.row k (rows.set n vs)))) nx a w:=by
 obtain ⟨ρ,hr'⟩:=h.rel;have hlv:live (some (.row k (rows.set n vs)))=true->live (H r)=true:=fun _=>by rw[hr];rfl
 refine ⟨⟨ρ,hr'.defers,hr'.base,hr'.size,fun t=>(hr'.tmps t).mono (Keep.refl _ _) (fun b _ hb=>Z6 hlv hb) (.refl _),hr'.mem.shut hr hv hp⟩,fun j hj=>?_⟩;by_cases e:j=r
 .subst e;have:=h.fresh j hj;rw[hr]at this;cases this
 .rw[Zg _ _ e];exact h.fresh j hj
theorem AWp.shut {P:Program} {N m0:Nat} {c:Code} {Q:Exit->St->Prop} {st:St} {r k n:Nat} {rows:List (List V)} {cs:List C} (hr:st.H r=some (.rowx k rows n cs)) {vs:List V} {p:Prop}
 (hv:frzCs st.H cs=some (vs,[],p)) (hp:p) (h:AWp P N m0 c Q ⟨st.En,upd st.H r (some (.row k (rows.set n vs))),st.nx⟩):AWp P N m0 c Q st :=
 fun own0 mt w0 ρ0 a w h0 hn=>h own0 mt w0 ρ0 a w h0 (hn.shut hr hv hp)
theorem VLe.rep0 {w:World} {ow:Nat->Prop} {a b:V} {u:Value} (h:VLe a b) (hb:RepV w ow b u):RepV w ow a u:=by
 cases a with
 | x v=>cases (show V.x v=b from h);exact hb
 | s k rows =>
  cases b with
  | x v =>
   obtain ⟨rfl,rfl⟩:=(show rows=[]/\v=.slice none 0 0 from h)
   cases hb with
   | x _ _=>exact .s k [] none 0 0 (fun _ _=>undef) rfl (by simp) (fun _=>rfl) (Nat.le_refl _) (by simp) (by simp)
  | s k' rows'=>cases (show V.s k rows=V.s k' rows' from h);exact hb
  | f fn caps=>cases (show V.s k rows=V.f fn caps from h)
 | f fn caps=>cases (show V.f fn caps=b from h);exact hb
theorem Mem.rows {own0 mt:Nat->Prop} {w0 w:World} {ρ:Nat->Option Pl} {H:Nat->Option Blk} (hm:Mem own0 mt w0 ρ H w) {r k:Nat} {rows rows':List (List V)} (h:H r=some (.row k rows)) (hl:rows'.length=rows.length) (hk:∀r',r'∈rows'->r'.length=k)
 (hle:∀(i:Nat) (r':List V) (j:Nat) (v':V),rows'[i]?=some r'->r'[j]?=some v'->∃r0 v,rows[i]?=some r0/\r0[j]?=some v/\VLe v' v):Mem own0 mt w0 ρ (upd H r (some (.row k rows'))) w:=by
 obtain ⟨hrl,m,hp,hb⟩:=hm.blks r _ h;have hlv:live (some (.row k rows'))=true->live (H r)=true:=fun _=>by rw[h];rfl
 refine hm.relax hlv (by simp[solid,h]) ⟨hk,m,hp,?_⟩
 cases m with
 | nil =>
  have hb:rows=[]:=hb;subst hb
  exact List.eq_nil_of_length_eq_zero hl
 | blk b base cap =>
  obtain ⟨hcap,vs,T,fr,hh,hf,h2,h3⟩:=hb;refine ⟨by omega,vs,T,fr,hh,hf,h2,fun i r' j v' hi hj=>?_⟩;obtain ⟨r0,v,hi0,hj0,hv⟩:=hle i r' j v' hi hj;obtain ⟨x,hx,hr⟩:=h3 i r0 j v hi0 hj0;exact ⟨x,hx,(VLe.rep0 hv hr).mono (Keep.refl _ _) fun b _ hb=>Z6 hlv hb⟩
theorem Now.rows {own0 mt:Nat->Prop} {w0 w:World} {ρ0:Nat->Option Pl} {N:Nat} {En:Nat->D} {H:Nat->Option Blk} {nx:Nat} {a:Act} {r k:Nat} {rows rows':List (List V)} (hr:H r=some (.row k rows)) (hl:rows'.length=rows.length) (hk:∀r',r'∈rows'->r'.length=k)
 (hle:∀(i:Nat) (r':List V) (j:Nat) (v':V),rows'[i]?=some r'->r'[j]?=some v'->∃r0 v,rows[i]?=some r0/\r0[j]?=some v/\VLe v' v) (h:Now own0 mt w0 ρ0 N En H nx a w):Now own0 mt w0 ρ0 N En (upd H r (some (.row k rows'))) nx a w:=by
 obtain ⟨ρ,hr'⟩:=h.rel;have hlv:live (some (.row k rows'))=true->live (H r)=true:=fun _=>by rw[hr];rfl
 refine ⟨⟨ρ,hr'.defers,hr'.base,hr'.size,fun t=>(hr'.tmps t).mono (Keep.refl _ _) (fun b _ hb=>Z6 hlv hb) (.refl _),hr'.mem.rows hr hl hk hle⟩,fun j hj=>?_⟩;by_cases e:j=r
 .subst e;have:=h.fresh j hj;rw[hr]at this;cases this
 .rw[Zg _ _ e];exact h.fresh j hj
theorem AWp.rows {P:Program} {N m0:Nat} {c:Code} {Q:Exit->St->Prop} {st:St} {r k:Nat} {rows:List (List V)} (hr:st.H r=some (.row k rows)) (rows':List (List V)) (hl:rows'.length=rows.length) (hk:∀r',r'∈rows'->r'.length=k)
 (hle:∀(i:Nat) (r':List V) (j:Nat) (v':V),rows'[i]?=some r'->r'[j]?=some v'->∃r0 v,rows[i]?=some r0/\r0[j]?=some v/\VLe v' v) (h:AWp P N m0 c Q ⟨st.En,upd st.H r (some (.row k rows')),st.nx⟩):AWp P N m0 c Q st :=
 fun own0 mt w0 ρ0 a w h0 hn=>h own0 mt w0 ρ0 a w h0 (hn.rows hr hl hk hle)
attribute [irreducible] Fin AWp
end
end Eng
end Go.Proofs.YtgenjpingdkmgaaGreatDoor
