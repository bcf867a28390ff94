/- Contracts of functions that this seat's law calls. No condition. -/
import Derived.Test.YtgenjpingdkmgaaGreatDoorG01
set_option maxRecDepth 100000
set_option linter.unusedSimpArgs false
set_option linter.unusedVariables false
namespace Go.Proofs.YtgenjpingdkmgaaGreatDoor
namespace Eng
variable {P:Program} {Γ:Nat->Option Ty} {own0 mt:Nat->Prop} {w0 w:World} {ow:Nat->Prop} {ρ:Nat->Option Pl} {H:Nat->Option Blk} {q:Bool}
def TysOk (P:Program) (Γ:Nat->Option Ty):Prop:=∀t ty,Γ t=some ty->TyOk P t ty
theorem all2_cells {k:Nat} {rows:List (List V)} {vs:Array Value} {base i off:Nat} (hlen:∀r,r∈rows->r.length=k) (hi:i<rows.length)
 (h3:∀(i:Nat) (r:List V) (j:Nat) (v:V),rows[i]?=some r->r[j]?=some v->∃x,vs[base+i*k+j]?=some x/\RepV w ow v x) (hoff:off<=k) :
 ∃xs:List Value,All2 (RepV w ow) ((rows.getD i []).drop off) xs/\xs.length=k - off/\∀j v,xs[j]?=some v->vs[base+i*k+off+j]?=some v:=by
 have hri:rows[i]?=some (rows.getD i []):=by simp[List.getD,hi]
 have hl:(rows.getD i []).length=k:=hlen _ (List.mem_of_getElem? hri);refine ⟨(List.range (k - off)).map fun j=>(vs[base+i*k+off+j]?).getD undef,?_,by simp,?_⟩
 .refine All2.of_get (by rw[List.length_drop,hl];simp) fun j a b ha hb=>?_;rw[List.getElem?_drop]at ha;obtain ⟨x,hx,hv⟩:=h3 i _ _ a hri ha
  have hj:j<k - off:=by
   have:=(List.getElem?_eq_some_iff.1 hb).1;simpa using this
  simp[hj]at hb;rw[show base+i*k+(off+j)=base+i*k+off+j by omega]at hx;rw[hx]at hb;simp at hb;subst hb;exact hv
 .intro j v hv
  have hj:j<k - off:=by
   have:=(List.getElem?_eq_some_iff.1 hv).1;simpa using this
  simp[hj]at hv;have hr:((rows.getD i []))[off+j]?=some ((rows.getD i [])[off+j]'(by omega)):=List.getElem?_eq_getElem (by omega);obtain ⟨x,hx,_⟩:=h3 i _ _ _ hri hr;rw[show base+i*k+(off+j)=base+i*k+off+j by omega]at hx;rw[hx]at hv ⊢;simpa using hv
theorem row_of_blk {r k:Nat} {rows:List (List V)} {blk:Blk} (hblk:blk=.row k rows\/blk=.ice k rows) (hb:RepB w ow ρ r blk) :
 (∀r,r∈rows->r.length=k)/\∃m,ρ r=some m/\match m with
 | .nil=>rows=[]
 | .blk b base cap=>rows.length<=cap/\∃vs T fr,w.heap[b]?=some (.cells vs T fr)/\RFr k vs fr/\base+cap*k<=vs.size /\
  ∀(i:Nat) (r:List V) (j:Nat) (v:V),rows[i]?=some r->r[j]?=some v->∃x,vs[base+i*k+j]?=some x/\RepV w ow v x:=by
 rcases hblk with rfl|rfl<;>exact hb
theorem Yi {b o:Nat} {vs:Array Value} {T:TypeId} {fr:Nat×Nat} (h:w.heap[b]?=some (.cells vs T fr)):w.cell? ⟨b,o,none⟩=vs[o]?:=by
 simp[World.cell?,h]
theorem rowx_cells {w:World} {ow:Nat->Prop} {ρ:Nat->Option Pl} {r k n:Nat} {rows:List (List V)} {cs:List C} (h:RepB w ow ρ r (.rowx k rows n cs)) {b base cap:Nat} (hp:ρ r=some (.blk b base cap)) :
 ∃vs T fr,w.heap[b]?=some (.cells vs T fr)/\RFr k vs fr/\All2 (RepC w ow ρ) cs ((vs.toList.drop (base+n*k)).take k):=by
 obtain ⟨_,hn,hk,b',base',cap',hp',hcap,vs,T,fr,hh,hf,hsz,_,h4⟩:=h;rw[hp]at hp';cases hp';have hmul:=Nat.mul_le_mul_right k (show n+1<=cap by omega);rw[Nat.add_mul]at hmul;refine ⟨vs,T,fr,hh,hf,All2.of_get (by simp;omega) fun j c x hj hx=>?_⟩;obtain ⟨y,hy,hr⟩:=h4 j c hj;rw[List.getElem?_take]at hx
 split at hx
 .rw[List.getElem?_drop]at hx;have:vs[base+n*k+j]?=some x:=by simpa using hx
  rw[this]at hy;cases hy;exact hr
 .cases hx
theorem rowx_mk {w:World} {ow:Nat->Prop} {ρ:Nat->Option Pl} {k n base:Nat} {cs:List C} {vs:Array Value} (ha:All2 (RepC w ow ρ) cs ((vs.toList.drop (base+n*k)).take k)) (j:Nat) (c:C) (hj:cs[j]?=some c) :
 ∃x,vs[base+n*k+j]?=some x/\RepC w ow ρ c x:=by
 obtain ⟨x,hx,hr⟩:=ha.get hj;refine ⟨x,?_,hr⟩;rw[List.getElem?_take]at hx
 split at hx
 .rw[List.getElem?_drop]at hx;simpa using hx
 .cases hx
theorem load_sound (hm:Mem own0 mt w0 ρ H w) {t:TypeId} {ty:Ty} (ht:TyOk P t ty) (hq:q=true) {d d':D} {ups:Ups} (hg:(loadE ty H q d).gives P (d',ups)) {u:Value}
 (hd:RepD w (Ow own0 ρ H) ρ d u):ups=[]/\∃v,(Instr.loadAt t u).run P w=.ok v w/\RepD w (Ow own0 ρ H) ρ d' v:=by
 cases d with
 | p b off =>
  simp only[loadE]at hg
  split at hg
  .rename_i cs hb;obtain ⟨hlen,hg⟩:=hg;have hlen:=hlen hq;simp only[Tr.gives,Prod.mk.injEq]at hg;obtain ⟨rfl,rfl⟩:=hg;obtain ⟨bn,z,c,hp,rfl⟩:=hd;obtain ⟨b',c',hp',vs,T,fr,hh,hf,ha⟩:=hm.blks b _ hb;rw[hp]at hp';cases hp';refine ⟨rfl,_,?_,rep_pick1 (xs:=(vs.toList.drop off)) (fun _ _ h=>h) (ha.drop off) (by simp;omega) ht.one⟩;have hl:=ha.length;simp only[Instr.loadAt,Instr.sureAddr,Sem.run_bind,Sem.run_pure,Result.andThen_ok]
   exact run_loadVar ht w _ _ (by simp;simp at hl;omega) ht.one fun j v hj=>by
    rw[List.getElem?_take]at hj
    split at hj
    .rw[Zw,Yi hh];simpa[Nat.add_assoc] using hj
    .cases hj
  .rename_i k vs hb;obtain ⟨hlen,hg⟩:=hg;have hlen:=hlen hq;simp only[Tr.gives,Prod.mk.injEq]at hg;obtain ⟨rfl,rfl⟩:=hg;obtain ⟨bn,z,c,hp,rfl⟩:=hd;obtain ⟨_,m,hp',hb⟩:=hm.blks b _ hb;rw[hp]at hp';cases hp';obtain ⟨_,xs,T,fr,hh,_,hsz,h3⟩:=hb
   have ha:All2 (RepV w (Ow own0 ρ H)) vs ((List.range vs.length).map fun j=>(xs[z+j]?).getD undef):=All2.of_get (by simp) fun j a x hj hx=>by
    obtain ⟨y,hy,hv⟩:=h3 0 vs j a rfl hj;have:j<vs.length:=(List.getElem?_eq_some_iff.1 hj).1;simp only[Nat.zero_mul,Nat.add_zero]at hy;simp[this,hy]at hx;subst hx;exact hv
   refine ⟨rfl,_,?_,rep_pick1 (mk1:=.v) (xs:=((List.range vs.length).map fun j=>(xs[z+j]?).getD undef).drop off) (fun _ _ h=>h) (ha.drop off) (by simp;omega) ht.one⟩;simp only[Instr.loadAt,Instr.sureAddr,Sem.run_bind,Sem.run_pure,Result.andThen_ok]
   exact run_loadVar ht w _ _ (by simp;omega) ht.one fun j v hj=>by
    rw[List.getElem?_take]at hj
    split at hj
    .rw[Zw,Yi hh];rw[List.getElem?_drop,List.getElem?_map]at hj;obtain ⟨i,hi,hv⟩:=Option.map_eq_some_iff.1 hj;have hi:=List.getElem?_eq_some_iff.1 hi;obtain ⟨hlt,hi⟩:=hi;simp only[List.getElem_range]at hi;subst hi;simp at hlt;obtain ⟨y,hy,_⟩:=h3 0 vs (off+j) _ rfl (List.getElem?_eq_getElem hlt);simp only[Nat.zero_mul,Nat.add_zero]at hy;rw[hy]at hv;simp only[Option.getD_some]at hv;subst hv;simpa[Nat.add_assoc] using hy
    .cases hj
  .exact hg.elim
 | q cs =>
  obtain ⟨hlen,hg⟩:=hg;have hlen:=hlen hq;simp only[Tr.gives,Prod.mk.injEq]at hg;obtain ⟨rfl,rfl⟩:=hg;obtain ⟨ad,rfl,h⟩:=hd
  have hex:∃xs:List Value,All2 (RepV w (Ow own0 ρ H)) cs xs/\∀(j:Nat) v,xs[j]?=some v->w.cell? (ad.add j)=some v:=by
   refine ⟨(List.range cs.length).map fun j=>(w.cell? (ad.add j)).getD undef,All2.of_get (by simp) fun i a b ha hb=>?_,fun j v hv=>?_⟩
   .obtain ⟨x,hx,hv,_⟩:=h i a ha;have:i<cs.length:=(List.getElem?_eq_some_iff.1 ha).1;simp[this,hx]at hb;subst hb;exact hv
   .have hj:j<cs.length:=by have:=(List.getElem?_eq_some_iff.1 hv).1;simpa using this
    obtain ⟨x,hx,_⟩:=h j _ (List.getElem?_eq_getElem hj);simp[hj,hx]at hv;rw[hx,hv]
  obtain ⟨xs,ha,hx⟩:=hex;refine ⟨rfl,_,?_,rep_pick1 (mk1:=.v) (xs:=xs) (fun _ _ h=>h) ha hlen ht.one⟩;simp only[Instr.loadAt,Instr.sureAddr,Sem.run_bind,Sem.run_pure,Result.andThen_ok];have hl:=ha.length
  exact run_loadVar ht w _ _ (by simp;omega) ht.one fun j v hj=>by
   rw[List.getElem?_take]at hj
   split at hj
   .exact hx j v hj
   .cases hj
 | w r k i off =>
  have key:∀(k':Nat) (rows:List (List V)) (blk:Blk),(blk=.row k' rows\/blk=.ice k' rows)->H r=some blk ->
   (Tr.ask (q=true->k'=k/\i<rows.length/\off+ty.size<=k) (.ret (pick1 (isAggD ty.desc) ty.size .v (rowAt ty rows i off),[]))).gives P (d',ups) ->
   ups=[]/\∃v,(Instr.loadAt t u).run P w=.ok v w/\RepD w (Ow own0 ρ H) ρ d' v:=by
   intro k' rows blk hblk hb hk;obtain ⟨hlen,hk⟩:=hk;obtain ⟨rfl,hi,hoff⟩:=hlen hq;have hg':(d',ups)=(_,[]):=hk;cases hg';obtain ⟨b,base,cap,hp,hu⟩:=hd;subst hu;obtain ⟨hrl,m,hm',h⟩:=row_of_blk hblk (hm.blks r _ hb);rw[hp]at hm';cases hm';obtain ⟨_,vs,T,fr,hh,_,_,h3⟩:=h;obtain ⟨xs,ha,hxl,hx⟩:=all2_cells (off:=off) hrl hi h3 (by omega);have hrl':(rows.getD i []).length=k':=hrl _ (by rw[List.getD,List.getElem?_eq_getElem hi];simp);have hat:rowAt ty rows i off=(rows.getD i []).drop off:=by unfold rowAt;rw[List.getD,List.getElem?_eq_getElem hi];rfl
   rw[hat];refine ⟨rfl,_,?_,rep_pick1 (mk1:=.v) (xs:=xs) (fun _ _ h=>h) ha (by rw[List.length_drop,hrl'];omega) ht.one⟩;simp only[Instr.loadAt,Instr.sureAddr,Sem.run_bind,Sem.run_pure,Result.andThen_ok]
   exact run_loadVar ht w _ _ (by simp;omega) ht.one fun j v hj=>by
    rw[List.getElem?_take]at hj
    split at hj
    .rw[Zw,Yi hh];exact hx j v hj
    .cases hj
  unfold loadE at hg;dsimp only at hg
  split at hg
  .rename_i k' rows hb;exact key k' rows _ (.inl rfl) hb hg
  .rename_i k' rows hb;exact key k' rows _ (.inr rfl) hb hg
  .rename_i k' rows n cs hb
   split at hg
   .rename_i hin;subst hin;obtain ⟨hlen,hg⟩:=hg;obtain ⟨rfl,hoff⟩:=hlen hq;have hg':(d',ups)=(_,[]):=hg;cases hg';obtain ⟨b,base,cap,hp,hu⟩:=hd;subst hu;obtain ⟨vs,T,fr,hh,hf,ha⟩:=rowx_cells (hm.blks r _ hb) hp;have hcl:=(hm.blks r _ hb).2.2.1;refine ⟨rfl,_,?_,rep_pick1 (xs:=((vs.toList.drop (base+i*k')).take k').drop off) (fun _ _ h=>h) (ha.drop off) (by simp;omega) ht.one⟩;have hl:=ha.length;simp only[Instr.loadAt,Instr.sureAddr,Sem.run_bind,Sem.run_pure,Result.andThen_ok]
    exact run_loadVar ht w _ _ (by simp;simp at hl;omega) ht.one fun j v hj=>by
     rw[List.getElem?_take]at hj
     split at hj
     .rw[Zw,Yi hh];rw[List.getElem?_drop,List.getElem?_take]at hj
      split at hj
      .rw[List.getElem?_drop]at hj;simpa[Nat.add_assoc] using hj
      .cases hj
     .cases hj
   .rename_i hin;obtain ⟨hlen,hg⟩:=hg;obtain ⟨rfl,hi,hoff⟩:=hlen hq;have hg':(d',ups)=(_,[]):=hg;cases hg';obtain ⟨b,base,cap,hp,hu⟩:=hd;subst hu;obtain ⟨hrl,hn,hk,b',base',cap',hp',hcap,vs,T,fr,hh,hf,h2,h3,h4⟩:=hm.blks r _ hb;rw[hp]at hp';cases hp';have hrl':(rows.getD i []).length=k':=hrl _ (by rw[List.getD,List.getElem?_eq_getElem hi];simp);have hri:rows[i]?=some (rows.getD i []):=by simp[List.getD,hi]
    obtain ⟨xs,ha,hxl,hx⟩:=all2_cells (w:=w) (ow:=Ow own0 ρ H) (vs:=vs) (rows:=[rows.getD i []]) (i:=0) (base:=base+i*k') (off:=off) (k:=k') (by simpa using hrl') (by simp) (fun i' r' j v hi' hj=>by
     cases i' with
     | zero=>cases hi';simpa using h3 i _ j v hin hri hj
     | succ i'=>simp at hi') (by omega)
    have hat:rowAt ty rows i off=(rows.getD i []).drop off:=by unfold rowAt;rw[List.getD,List.getElem?_eq_getElem hi];rfl
    rw[hat];refine ⟨rfl,_,?_,rep_pick1 (mk1:=.v) (xs:=xs) (fun _ _ h=>h) ha (by rw[List.length_drop,hrl'];omega) ht.one⟩;simp only[Instr.loadAt,Instr.sureAddr,Sem.run_bind,Sem.run_pure,Result.andThen_ok]
    exact run_loadVar ht w _ _ (by simp;omega) ht.one fun j v hj=>by
     rw[List.getElem?_take]at hj
     split at hj
     .rw[Zw,Yi hh];simpa using hx j v hj
     .cases hj
  .exact hg.elim
 | e a=>exact hg.elim
 | t es=>exact hg.elim
 | g b d=>exact hg.elim
 | top=>exact hg.elim
 | u r k off n=>exact hg.elim
end Eng
end Go.Proofs.YtgenjpingdkmgaaGreatDoor
namespace Go.Proofs.YtgenjpingdkmgaaGreatDoor
namespace Eng
variable {P:Program} {Γ:Nat->Option Ty} {own0 mt:Nat->Prop} {w0 w:World} {ow:Nat->Prop} {ρ:Nat->Option Pl} {H:Nat->Option Blk} {q:Bool}
 {d':D} {ups:Ups}
theorem gives_x {v:Value} (hg:(Tr.ret (D.x v,([]:Ups))).gives P (d',ups)):ups=[]/\d'=.x v:=by
 have:(d',ups)=(_,_):=hg;cases this;exact ⟨rfl,rfl⟩
theorem ok_x {s:Sem Value} {v:Value} (hg:(Tr.ret (D.x v,([]:Ups))).gives P (d',ups)) (hv:v.oneCell=true) (hr:s.run P w=.ok v w) :
 ups=[]/\∃v,s.run P w=.ok v w/\RepD w ow ρ d' v:=by
 obtain ⟨rfl,rfl⟩:=gives_x hg;exact ⟨rfl,v,hr,RepV.x _ hv⟩
theorem binI_sound {op:BinOp} {k:IntKind} {a b:Int} (t:TypeId) (hq:q=true) (hne:op≠.shl/\op≠.shr) (hg:(binI q op k a b).gives P (d',ups)) :
 ups=[]/\∃v,(Go.binOp op t (.int k a) (.int k b)).run P w=.ok v w/\RepD w ow ρ d' v:=by
 cases op<;>first
  | exact hg.elim
  | exact absurd rfl hne.1
  | exact absurd rfl hne.2
  | (refine ok_x hg rfl ?_;simp[Go.binOp,Op.intArith,Op.intCmp,Op.intBits];done)
  | (obtain ⟨h0,hg⟩:=hg;refine ok_x hg rfl ?_;simp[Go.binOp,Op.intDiv,h0 hq];done)
theorem shiftI_sound {op:BinOp} {k k':IntKind} {a b:Int} (t:TypeId) (hq:q=true) (hne:op=.shl\/op=.shr) (hg:(shiftI q op k a b).gives P (d',ups)) :
 ups=[]/\∃v,(Go.binOp op t (.int k a) (.int k' b)).run P w=.ok v w/\RepD w ow ρ d' v:=by
 rcases hne with rfl|rfl
 all_goals
  obtain ⟨h0,hg⟩:=hg;have hb:¬b<0:=by have:=h0 hq;omega
  refine ok_x hg rfl ?_;simp[Go.binOp,Op.shift,hb]
theorem ba_toList (b:ByteArray):b.toList=b.data.toList:=ByteArray.toList_eq b
theorem binS_sound {op:BinOp} {a b:ByteArray} (t:TypeId) (hg:(binS op a b).gives P (d',ups)) :
 ups=[]/\∃v,(Go.binOp op t (.string a) (.string b)).run P w=.ok v w/\RepD w ow ρ d' v:=by
 cases op<;>first
  | exact hg.elim
  | (refine ok_x hg rfl ?_;simp[Go.binOp,Op.stringOp,ba_toList];done)
  | (obtain ⟨h0,hg⟩:=hg
     refine ok_x hg rfl ?_;have h1:¬(((a.size+b.size:Nat):Int)>IntKind.i64.max):=by have:IntKind.i64.max=9223372036854775807:=rfl;omega
     simp only[Go.binOp,Op.stringOp]
     rw[if_neg h1];rfl)
theorem run_equal_bool {t:TypeId} {a b:Bool} (hu:P.underlying t=some .bool):(Op.equal t (.bool a) (.bool b)).run P w=.ok (a == b) w:=by
 have h:∀n,(Op.equalIn (n+1) t (.bool a) (.bool b)).run P w=.ok (a == b) w:=by
  intro n;rw[Op.equalIn,Sem.run_bind,run_underlying hu];rfl
 exact h 9999
theorem binE_sound (hΓ:TysOk P Γ) {op:BinOp} {t:TypeId} {x y:D} {u v:Value} (hq:q=true) (hx:RepD w ow ρ x u) (hy:RepD w ow ρ y v) (X Y:Operand)
 (hg:(binE Γ q op t x y).gives P (d',ups)) :
 ups=[]/\∃r,(do eqGuard op t X Y u v;Go.binOp op t u v:Sem Value).run P w=.ok r w/\RepD w ow ρ d' r:=by
 have guard:∀ {u v:Value},(∀a,u≠.agg a)->u≠.nilIface->(eqGuard op t X Y u v).run P w=.ok () w:=by
  intro u v h1 h2
  cases u<;>first
   | exact absurd rfl (h1 _)
   | exact absurd rfl h2
   | (cases op<;>rfl)
 have red:∀ {u v:Value},(∀a,u≠.agg a)->u≠.nilIface->(do eqGuard op t X Y u v;Go.binOp op t u v:Sem Value).run P w=(Go.binOp op t u v).run P w:=by
  intro u v h1 h2;rw[Sem.run_bind,guard h1 h2];rfl
 unfold binE at hg
 split at hg
 .rename_i k a k' b;obtain ⟨rfl,_⟩:=rep_x hx;obtain ⟨rfl,_⟩:=rep_x hy;rw[red (by simp) (by simp)]
  split at hg
  .exact shiftI_sound t hq (.inl rfl) hg
  .exact shiftI_sound t hq (.inr rfl) hg
  .rename_i h1 h2
   split at hg
   .rename_i hk;subst hk;exact binI_sound t hq ⟨h1,h2⟩ hg
   .exact hg.elim
 .obtain ⟨rfl,_⟩:=rep_x hx;obtain ⟨rfl,_⟩:=rep_x hy;rw[red (by simp) (by simp)];exact binS_sound t hg
 .obtain ⟨rfl,_⟩:=rep_x hx;obtain ⟨rfl,_⟩:=rep_x hy;rw[red (by simp) (by simp)]
  split at hg
  .rename_i ty hty;have ht:=hΓ _ _ hty
   split at hg
   .rename_i hd;have hu:=ht.under;rw[hd]at hu
    split at hg
    .refine ok_x hg rfl ?_;change (do pure (.bool (<-Op.equal t _ _)):Sem Value).run P w=_;rw[Sem.run_bind,run_equal_bool hu];rfl
    .refine ok_x hg rfl ?_;change (do pure (.bool (!(<-Op.equal t _ _))):Sem Value).run P w=_;rw[Sem.run_bind,run_equal_bool hu];rfl
    .exact hg.elim
   .exact hg.elim
  .exact hg.elim
 .exact hg.elim
theorem unE_sound {op:UnOp} {x:D} {u:Value} (hx:RepD w ow ρ x u) (hg:(unE op x).gives P (d',ups)) :
 ups=[]/\∃r,(Op.unary op u).run P w=.ok r w/\RepD w ow ρ d' r:=by
 unfold unE at hg
 split at hg
 .obtain ⟨rfl,_⟩:=rep_x hx;exact ok_x hg rfl (by simp[Op.unary])
 .obtain ⟨rfl,_⟩:=rep_x hx;exact ok_x hg rfl (by simp[Op.unary,Op.intArith])
 .obtain ⟨rfl,_⟩:=rep_x hx;exact ok_x hg rfl (by simp[Op.unary,Op.intBits])
 .exact hg.elim
theorem pickE_sound {c:D} {A B:Operand} {ea eb:D} {uc ua ub:Value} (hq:q=true) (hc:RepD w ow ρ c uc) (ha:RepD w ow ρ ea ua) (hb:RepD w ow ρ eb ub)
 (hA:∀v,A=.const v->ua=v) (hB:∀v,B=.const v->ub=v) (hg:(pickE q c A B ea eb).gives P (d',ups)) :
 ups=[]/\∃r,(do pure (if <-asBool uc then ua else ub):Sem Value).run P w=.ok r w/\RepD w ow ρ d' r:=by
 unfold pickE at hg
 split at hg
 .rename_i c;obtain ⟨rfl,_⟩:=rep_x hc
  have key:∀ {v:Bool} {x:Value},(Tr.ret (D.x (.bool v),([]:Ups))).gives P (d',ups)->x=.bool v->x=(if c then ua else ub) ->
   ups=[]/\∃r,(do pure (if <-asBool (.bool c) then ua else ub):Sem Value).run P w=.ok r w/\RepD w ow ρ d' r:=by
   intro v x hg h1 h2;refine ok_x hg rfl ?_;rw[<-h1,h2];simp[asBool]
  split at hg
  .have hub:=hB _ rfl;subst hub
   cases c with
   | false =>
    have:∃v:Bool,(Tr.ret (D.x (.bool (false && v)),([]:Ups))).gives P (d',ups):=by
     unfold need at hg
     split at hg
     .obtain ⟨_,hg⟩:=hg;dsimp only at hg
      split at hg
      .exact ⟨_,hg⟩
      .exact ⟨false,hg.2⟩
     .dsimp only at hg
      split at hg
      .exact ⟨_,hg⟩
      .exact ⟨false,hg.2⟩
    obtain ⟨v,hg⟩:=this
    exact key hg rfl (by simp)
   | true =>
    obtain ⟨d1,h1,hg⟩:=Zm (by simpa using hq) hg;have h1:=h1 _ ha
    split at hg
    .obtain ⟨rfl,_⟩:=rep_x h1;exact key hg rfl (by simp)
    .cases hg.1
  .split at hg
   .have hua:=hA _ rfl;subst hua
    cases c with
    | true =>
     have:∃v:Bool,(Tr.ret (D.x (.bool (true || v)),([]:Ups))).gives P (d',ups):=by
      unfold need at hg
      split at hg
      .obtain ⟨_,hg⟩:=hg;dsimp only at hg
       split at hg
       .exact ⟨_,hg⟩
       .exact ⟨true,hg.2⟩
      .dsimp only at hg
       split at hg
       .exact ⟨_,hg⟩
       .exact ⟨true,hg.2⟩
     obtain ⟨v,hg⟩:=this
     exact key hg rfl (by simp)
    | false =>
     obtain ⟨d1,h1,hg⟩:=Zm (by simpa using hq) hg;have h1:=h1 _ hb
     split at hg
     .obtain ⟨rfl,_⟩:=rep_x h1;exact key hg rfl (by simp)
     .cases hg.1
   .exact hg.elim
 .exact hg.elim
theorem shiftPtr_rep {off:Nat} {d d1:D} {u:Value} (h:shiftPtr off d=some d1) (hd:RepD w ow ρ d u):∃a,u=.pointer (some a)/\RepD w ow ρ d1 (.pointer (some (a.add off))):=by
 cases d<;>simp only[shiftPtr,Option.some.injEq,reduceCtorEq]at h
 .subst h;obtain ⟨bn,z,c,hp,rfl⟩:=hd;exact ⟨_,rfl,bn,z,c,hp,by rw[Zw];simp[Nat.add_assoc]⟩
 .subst h;rename_i cs;obtain ⟨ad,rfl,h⟩:=hd;refine ⟨ad,rfl,ad.add off,rfl,fun j v hj=>?_⟩;rw[List.getElem?_drop]at hj;obtain ⟨x,hx,hv,hn⟩:=h _ v hj;refine ⟨x,?_,hv,by rwa [Yg]⟩;by_cases hj0:j=0
  .subst hj0;simpa[Addr.add] using hx
  .rw[addr_add_add _ _ _ (.inl hj0)];exact hx
 .subst h;obtain ⟨b,base,cap,hp,rfl⟩:=hd;exact ⟨_,rfl,b,base,cap,hp,by rw[Zw];simp[Nat.add_assoc]⟩
theorem fieldInfo_spec {t:TypeId} {ty:Ty} (ht:TyOk P t ty) {f off size:Nat} {agg:Bool} (h:fieldInfo Γ ty f=some (off,size,agg)) :
 ∃fs fl tf,P.underlying t=some (.struct fs)/\fs[f]?=some fl/\Γ fl.type=some tf/\off=fl.offset/\size=tf.size/\agg=isAggD tf.desc:=by
 unfold fieldInfo at h
 split at h
 .rename_i fs hdesc
  split at h
  .rename_i fl hfl
   split at h
   .rename_i tf htf;cases h;exact ⟨fs,fl,tf,by rw[<-hdesc];exact ht.under,hfl,htf,rfl,rfl,rfl⟩
   .cases h
  .cases h
 .cases h
theorem fieldAddr_sound (hΓ:TysOk P Γ) {t:TypeId} {ty:Ty} (ht:TyOk P t ty) {f:Nat} {d:D} {u:Value} (hd:RepD w ow ρ d u) (hg:(fieldAddrE Γ ty f d).gives P (d',ups)) :
 ups=[]/\∃r,(Instr.fieldAt t u f).run P w=.ok r w/\RepD w ow ρ d' r:=by
 unfold fieldAddrE at hg
 split at hg
 .rename_i off size agg hfi;obtain ⟨fs,fl,tf,hu,hfl,htf,rfl,rfl,rfl⟩:=fieldInfo_spec ht hfi;obtain ⟨hsz,hg⟩:=hg
  split at hg
  .rename_i d1 hs;have hg':(d',ups)=(_,_):=hg;cases hg';obtain ⟨a,rfl,hr⟩:=shiftPtr_rep hs hd;refine ⟨rfl,_,?_,hr⟩;simp[Instr.fieldAt,run_underlying hu,hfl,Instr.sureAddr,fieldPlace,Zr (hΓ _ _ htf),hsz]
  .exact hg.elim
 .exact hg.elim
theorem part_sound {t:TypeId} {ty:Ty} (ht:TyOk P t ty) {cs:List C} {us:List Value} {off:Nat} (h:All2 (RepC w ow ρ) cs us) (hl:off+ty.size<=cs.length) (hsz:ty.size≠0) :
 ∃r,(part t us.toArray off).run P w=.ok r w/\RepD w ow ρ (pick1 (isAggD ty.desc) ty.size id (cs.drop off)) r:=by
 have hlen:=h.length;refine ⟨_,?_,rep_pick1 (xs:=us.drop off) (fun _ _ h=>h) (h.drop off) (by simp;omega) ht.one⟩;unfold part;rw[Sem.run_bind,run_isAgg ht];simp only[Result.andThen_ok]
 cases hd:isAggD ty.desc with
 | true =>
  simp[Zr ht]
 | false =>
  have h1:=ht.one hd;have hlt:off<us.length:=by omega
  simp[hlt,h1,List.head?_take,List.head?_drop]
theorem fieldE_sound (hΓ:TysOk P Γ) {t:TypeId} {ty:Ty} (ht:TyOk P t ty) {f:Nat} {d:D} {u:Value} (hq:q=true) (hd:RepD w ow ρ d u) (hg:(fieldE Γ ty f q d).gives P (d',ups)) :
 ups=[]/\∃r,(Instr.field t u f).run P w=.ok r w/\RepD w ow ρ d' r:=by
 unfold fieldE at hg
 split at hg
 .rename_i off size agg hfi;obtain ⟨fs,fl,tf,hu,hfl,htf,rfl,rfl,rfl⟩:=fieldInfo_spec ht hfi
  split at hg
  .rename_i cs;obtain ⟨hl,hg⟩:=hg;have hl:=hl hq;have hg':(d',ups)=(_,_):=hg;cases hg';obtain ⟨us,rfl,ha⟩:=hd;obtain ⟨r,hr,hrep⟩:=part_sound (P:=P) (hΓ _ _ htf) ha hl.1 hl.2;refine ⟨rfl,r,?_,hrep⟩;simp[Instr.field,run_underlying hu,hfl,asAgg,hr]
  .exact hg.elim
 .exact hg.elim
theorem among_gives {α:Type} {i:Int} {f:Nat->Tr α} {x:α} (hq:q=true):∀ {n:Nat},(among q i f n).gives P x->∃j,j<n/\i=(j:Int)/\(f j).gives P x
 | 0,h=>h.elim
 | 1,h=>⟨0,by omega,h.1 hq,h.2⟩
 | n+2,h=>by
  change (if decide (i=((n+1:Nat):Int))=true then (f (n+1)).gives P x else (among q i f (n+1)).gives P x) at h
  split at h
  .rename_i hd;exact ⟨n+1,by omega,by simpa using hd,h⟩
  .obtain ⟨j,hj,hi,hf⟩:=among_gives hq h;exact ⟨j,by omega,hi,hf⟩
theorem extract_sound {i:Nat} {d:D} {u:Value} (hd:RepD w ow ρ d u) (hg:(extractE i d).gives P (d',ups)) :
 ups=[]/\∃r,(Instr.extract u i).run P w=.ok r w/\RepD w ow ρ d' r:=by
 unfold extractE at hg
 split at hg
 .split at hg
  .rename_i e he;have hg':(d',ups)=(_,_):=hg;cases hg';obtain ⟨us,rfl,h⟩:=hd;obtain ⟨b,hb,hr⟩:=h.get he;exact ⟨rfl,b,by simp[Instr.extract,hb],hr⟩
  .exact hg.elim
 .exact hg.elim
theorem convE_sound (hΓ:TysOk P Γ) {s t:TypeId} {d:D} {u:Value} (hd:RepD w ow ρ d u) (hg:(convE Γ s t d).gives P (d',ups)) :
 ups=[]/\∃r,(Go.convert s t u).run P w=.ok r w/\RepD w ow ρ d' r:=by
 unfold convE at hg
 split at hg
 .rename_i sd td hs ht;have hs':=(hΓ _ _ hs).under;have ht':=(hΓ _ _ ht).under
  split at hg
  .rename_i hdesc;rw[hdesc]at ht';obtain ⟨rfl,_⟩:=rep_x hd;refine ok_x hg rfl ?_;simp[Go.convert,run_underlying hs',run_underlying ht',Conv.intToInt]
  .rename_i hdesc;rw[hdesc]at ht';obtain ⟨rfl,_⟩:=rep_x hd;refine ok_x hg rfl ?_;simp[Go.convert,run_underlying hs',run_underlying ht']
  .rename_i hdesc;rw[hdesc]at ht';obtain ⟨rfl,_⟩:=rep_x hd;refine ok_x hg rfl ?_;simp[Go.convert,run_underlying hs',run_underlying ht',Conv.intToString]
  .exact hg.elim
 .exact hg.elim
end Eng
end Go.Proofs.YtgenjpingdkmgaaGreatDoor
namespace Go.Proofs.YtgenjpingdkmgaaGreatDoor
namespace Eng
variable {P:Program} {Γ:Nat->Option Ty} {own0 mt:Nat->Prop} {w0 w:World} {ow:Nat->Prop} {ρ:Nat->Option Pl} {H:Nat->Option Blk} {q:Bool}
 {d':D} {ups:Ups}
structure Step (own0 mt:Nat->Prop) (w0:World) (ρ:Nat->Option Pl) (H:Nat->Option Blk) (w:World) (ρ':Nat->Option Pl) (H':Nat->Option Blk) (w':World):Prop where
 sub:Sub ρ ρ'
 keep:Keep w (Ow own0 ρ H) w'
 ow:∀b,b<w.heap.size->Ow own0 ρ' H' b->Ow own0 ρ H b
 mem:Mem own0 mt w0 ρ' H' w'
theorem Step.refl (hm:Mem own0 mt w0 ρ H w):Step own0 mt w0 ρ H w ρ H w:=⟨.refl _,.refl _ _,fun _ _ h=>h,hm⟩
theorem Step.trans {ρ1 ρ2:Nat->Option Pl} {H1 H2:Nat->Option Blk} {w1 w2:World} (h:Step own0 mt w0 ρ H w ρ1 H1 w1) (k:Step own0 mt w0 ρ1 H1 w1 ρ2 H2 w2):Step own0 mt w0 ρ H w ρ2 H2 w2 where
 sub:=h.sub.trans k.sub
 keep:=⟨Nat.le_trans h.keep.size k.keep.size,fun b hb hn=>by
  rw[k.keep.block b (Nat.lt_of_lt_of_le hb h.keep.size) (fun ho=>hn (h.ow b hb ho)),h.keep.block b hb hn]⟩
 ow b hb ho:=h.ow b hb (k.ow b (Nat.lt_of_lt_of_le hb h.keep.size) ho)
 mem:=k.mem
theorem Step.rep {ρ':Nat->Option Pl} {H':Nat->Option Blk} {w':World} (h:Step own0 mt w0 ρ H w ρ' H' w') {d:D} {u:Value} (hd:RepD w (Ow own0 ρ H) ρ d u):RepD w' (Ow own0 ρ' H') ρ' d u :=
 hd.mono h.keep h.ow h.sub
theorem Step.new (hm:Mem own0 mt w0 ρ H w) {i c:Nat} (hi:H i=none) {blk:Blk} {vs:Array Value} {T:TypeId} {fr:Nat×Nat}
 (hb:RepB (w.alloc (.cells vs T fr)) (Ow own0 (upd ρ i (some (.blk w.heap.size 0 c))) (upd H i (some blk))) (upd ρ i (some (.blk w.heap.size 0 c))) i blk) :
 Step own0 mt w0 ρ H w (upd ρ i (some (.blk w.heap.size 0 c))) (upd H i (some blk)) (w.alloc (.cells vs T fr)) :=
 ⟨sub_upd (hm.defd i hi),Keep.alloc _ _ _,fun b hb' h=>ow_alloc hm hi blk hb' h,hm.new hi blk vs T fr hb⟩
theorem Step.relax (hm:Mem own0 mt w0 ρ H w) {i:Nat} {blk:Blk} (hl:live (some blk)=true->live (H i)=true) (hso:solid (some blk)=true->solid (H i)=true)
 (hb:RepB w (Ow own0 ρ (upd H i (some blk))) ρ i blk):Step own0 mt w0 ρ H w ρ (upd H i (some blk)) w :=
 ⟨.refl _,.refl _ _,fun _ _ h=>Z6 hl h,hm.relax hl hso hb⟩
theorem Step.kill (hm:Mem own0 mt w0 ρ H w) (i:Nat):Step own0 mt w0 ρ H w ρ (upd H i (some .gone)) w :=
 .relax hm (by simp[live]) (by simp[solid]) trivial
theorem Step.freeze (hm:Mem own0 mt w0 ρ H w) {i k:Nat} {rows:List (List V)} (h:H i=some (.row k rows)):Step own0 mt w0 ρ H w ρ (upd H i (some (.ice k rows))) w :=
 ⟨.refl _,.refl _ _,fun _ _ h=>Z6 (by simp[live]) h,hm.freeze h⟩
theorem Step.drew (hm:Mem own0 mt w0 ρ H w):Step own0 mt w0 ρ H w ρ H w.drew:=⟨.refl _,.drew _ _,fun _ _ h=>h,hm.drew⟩
theorem Step.write (hm:Mem own0 mt w0 ρ H w) {i b base c:Nat} (hp:ρ i=some (.blk b base c)) (hl:live (H i)=true) {blk:Blk} (hl':live (some blk)=true) {vs:Array Value} {T:TypeId} {fr:Nat×Nat}
 (hb:RepB (setBlk w b (.cells vs T fr)) (Ow own0 ρ H) ρ i blk) :
 Step own0 mt w0 ρ H w ρ (upd H i (some blk)) (setBlk w b (.cells vs T fr)) :=
 have h:=hm.write hp hl hl' vs T fr hb
 ⟨.refl _,Keep.setBlk (.inr ⟨i,base,c,hp,hl⟩) _,fun x _ hx=>(h.2 x).1 hx,h.1⟩
def MRun {α:Type} (P:Program) (own0 mt:Nat->Prop) (w0:World) (ρ:Nat->Option Pl) (H:Nat->Option Blk) (w:World) (s:Sem α) (ups:Ups) (R:World->(Nat->Prop)->(Nat->Option Pl)->α->Prop):Prop :=
 ∃v w' ρ',s.run P w=.ok v w'/\Step own0 mt w0 ρ H w ρ' (updL H ups) w'/\R w' (Ow own0 ρ' (updL H ups)) ρ' v
theorem newVar_sound (hm:Mem own0 mt w0 ρ H w) {nx:Nat} (hi:H nx=none) {e:E} {u:Value} (he:RepE w (Ow own0 ρ H) ρ e u) (T:TypeId) :
 MRun P own0 mt w0 ρ H w (do pure (.pointer (some (<-newVar T u))):Sem Value) [(nx,.loc e.cells)] fun w' ow' ρ' v=>RepD w' ow' ρ' (.p nx 0) v:=by
 have hc:=rep_cells he;refine ⟨_,w.alloc (.cells u.cells T (0,0)),upd ρ nx (some (.blk w.heap.size 0 1)),rfl,?_,w.heap.size,0,1,by simp,by simp⟩;refine Step.new hm hi ⟨w.heap.size,1,by simp,u.cells,T,(0,0),heap_alloc_new _ _,⟨.inl rfl,rfl,rfl⟩,?_⟩;exact hc.1.mono fun _ _ h=>h.mono (Keep.alloc _ _ _) (fun b hb' h=>ow_alloc hm hi _ hb' h) (sub_upd (hm.defd _ hi))
theorem rep_ofVal (v:Value) (h:okVal v=true):∃e,ofVal v=.e e/\RepE w ow ρ e v/\e.cells=v.cells.toList.map fun c=>.v (.x c):=by
 cases v<;>first
  | exact ⟨_,rfl,RepV.x _ rfl,by simp[Value.cells,E.cells]⟩
  | (rename_i cs;exact ⟨_,rfl,⟨cs.toList,by simp,all2_ofVal _ h⟩,rfl⟩)
  | simp[okVal]at h
theorem alloc_sound (hm:Mem own0 mt w0 ρ H w) {nx:Nat} (hi:H nx=none) {t:TypeId} {ty:Ty} (ht:TyOk P t ty) :
 MRun P own0 mt w0 ρ H w (Instr.alloc t true (.tuple #[])) [(nx,.loc (ty.zero.cells.toList.map fun c=>.v (.x c)))] fun w' ow' ρ' v=>RepD w' ow' ρ' (.p nx 0) v:=by
 obtain ⟨e,_,he,hc⟩:=rep_ofVal (w:=w) (ow:=Ow own0 ρ H) (ρ:=ρ) ty.zero ht.zok;obtain ⟨v,w',ρ',hr,hs,hd⟩:=newVar_sound (P:=P) hm hi he t;rw[hc]at hs hd;refine ⟨v,w',ρ',?_,hs,hd⟩;rw[<-hr];simp[Instr.alloc,run_zero ht]
theorem Yj {α:Type} {cs xs:List α} {off:Nat} (h:off+xs.length<=cs.length):(splice cs off xs).length=cs.length:=by
 simp[splice];omega
theorem splice_nil {α:Type} {cs:List α} {off:Nat}:splice cs off []=cs:=by simp[splice]
theorem splice_cons {α:Type} {cs xs:List α} {off:Nat} {x:α} (h:off+1+xs.length<=cs.length):splice (cs.set off x) (off+1) xs=splice cs off (x::xs):=by
 unfold splice
 have h1:(cs.set off x).take (off+1)=cs.take off++[x]:=by
  rw[List.take_succ_eq_append_getElem (by simp;omega)];rw[List.take_set,List.set_eq_of_length_le (by simp;omega)];simp
 rw[h1,List.drop_set_of_lt (by omega)];simp[Nat.add_assoc,Nat.add_comm 1]
theorem all2_splice {α β:Type} {R:α->β->Prop} {as xs:List α} {bs ys:List β} {off:Nat} (h:All2 R as bs) (h':All2 R xs ys):All2 R (splice as off xs) (splice bs off ys):=by
 unfold splice;rw[h'.length];exact ((h.take off).append h').append (h.drop _)
theorem setCell_eq {b o:Nat} {vs:Array Value} {T:TypeId} {fr:Nat×Nat} {v:Value} (h:w.heap[b]?=some (.cells vs T fr)) :
 w.setCell ⟨b,o,none⟩ v=setBlk w b (.cells (vs.setIfInBounds o v) T fr):=by
 have hlt:b<w.heap.size:=(Array.getElem?_eq_some_iff.1 h).1
 have e:(w.setCell ⟨b,o,none⟩ v).heap=(setBlk w b (.cells (vs.setIfInBounds o v) T fr)).heap:=by
  apply Array.ext_getElem?;intro i;by_cases e:i=b
  .subst e;rw[Yh hlt];simp only[World.setCell,Array.getElem?_modify,if_true,h];simp
  .rw[Yy e,heap_setCell_other _ _ _ _ e]
 have e2:∀a b:World,a.heap=b.heap->a.tape=b.tape->a.drawn=b.drawn->a.os=b.os->a.output=b.output->a=b:=by
  rintro ⟨⟩ ⟨⟩ rfl rfl rfl rfl rfl;rfl
 exact e2 _ _ e rfl rfl rfl rfl
theorem setBlk_setBlk {b:Nat} {o o':Obj}:setBlk (setBlk w b o) b o'=setBlk w b o':=by simp[setBlk]
theorem Yz {b o:Nat} {T:TypeId} {fr:Nat×Nat}:∀(xs:List Value) (i:Nat) (vs:Array Value) (w:World),w.heap[b]?=some (.cells vs T fr)->NoFr vs fr ->
 o+i+xs.length<=vs.size->(∀x,x∈xs->x.oneCell=true) ->
 (storeCells ⟨b,o,none⟩ xs i).run P w=.ok () (setBlk w b (.cells (splice vs.toList (o+i) xs).toArray T fr))
 | [],i,vs,w,h,_,_,_=>by
  simp only[storeCells,splice_nil,Array.toArray_toList];have hlt:b<w.heap.size:=(Array.getElem?_eq_some_iff.1 h).1
  have:setBlk w b (.cells vs T fr)=w:=by
   have e:w.heap.setIfInBounds b (.cells vs T fr)=w.heap:=by
    apply Array.ext_getElem?;intro i;by_cases e:b=i
    .subst e;rw[Array.getElem?_setIfInBounds_self_of_lt hlt,h]
    .rw[Array.getElem?_setIfInBounds_ne e]
   simp[setBlk,e]
  rw[this];rfl
 | x::xs,i,vs,w,h,hf,hl,h1=>by
  simp at hl;have hlt:b<w.heap.size:=(Array.getElem?_eq_some_iff.1 h).1;have hcell:w.cell? ⟨b,o+i,none⟩=some (vs[o+i]'(by omega)):=by rw[Yi h];exact Array.getElem?_eq_getElem (by omega)
  have hfz:w.frozen? ⟨b,o+i,none⟩=false:=by
   simp only[World.frozen?,h];have:=hf.off (o+i) (by omega);simp;omega
  have hst:(store ((⟨b,o,none⟩:Addr).add i) x).run P w=.ok () (setBlk w b (.cells (vs.setIfInBounds (o+i) x) T fr)):=by
   rw[Zw,run_store _ _ _ _ _ (by rw[oneCell_eq];exact h1 x (by simp))];simp only[hcell,hfz,Bool.false_eq_true,if_false];rw[setCell_eq h]
  have ih:=Yz (o:=o) xs (i+1) (vs.setIfInBounds (o+i) x) (setBlk w b (.cells (vs.setIfInBounds (o+i) x) T fr)) (Yh hlt)
   (hf.size (by simp)) (by simp;omega) (fun y hy=>h1 y (by simp[hy]))
  simp only[storeCells,Sem.run_bind,hst,Result.andThen_ok,ih,setBlk_setBlk];rw[show o+(i+1)=o+i+1 from rfl,Array.toList_setIfInBounds,splice_cons (by simp;omega)]
end Eng
end Go.Proofs.YtgenjpingdkmgaaGreatDoor
namespace Go.Proofs.YtgenjpingdkmgaaGreatDoor
namespace Eng
variable {P:Program} {Γ:Nat->Option Ty} {own0 mt:Nat->Prop} {w0 w:World} {ow:Nat->Prop} {ρ:Nat->Option Pl} {H:Nat->Option Blk} {q:Bool}
 {d':D} {ups:Ups}
theorem Z7 (H:Nat->Option Blk) (a b:Ups):updL H (a++b)=updL (updL H a) b:=by
 induction a generalizing H with
 | nil=>rfl
 | cons x r ih=>exact ih _
theorem pure_ice (hm:Mem own0 mt w0 ρ H w) {r n k:Nat} {rows:List (List V)} {u:Value} (hr:H r=some (.ice k rows)) (hc:RepC w (Ow own0 ρ H) ρ (.o r n) u) (hn:n<=rows.length) :
 RepV w (Ow own0 ρ H) (.s k (rows.take n)) u:=by
 refine RepC.pure hc (.inr rfl) (hm.blks r _ hr) hn (fun _ h=>h) fun b base c hp ho=>?_;rcases ho with ho|⟨j,bs,cp,hj,hl⟩
 .exact (hm.fresh r _ _ _ hp).2.2 ho
 .have hne:j≠r:=fun e=>by subst e;rw[hr]at hl;cases hl
  refine hm.inj j r _ _ _ _ _ _ ?_ (by rw[hr];rfl) hj hp hne rfl
  cases h:H j with
  | none=>rw[h]at hl;cases hl
  | some x=>cases x<;>simp_all[live,solid]
theorem frzC_sound (hm:Mem own0 mt w0 ρ H w) {c:C} {u:Value} {v:V} {ups:Ups} {p:Prop} (h:frzC H c=some (v,ups,p)) (hp:p) (hc:RepC w (Ow own0 ρ H) ρ c u) :
 Step own0 mt w0 ρ H w ρ (updL H ups) w/\RepV w (Ow own0 ρ (updL H ups)) v u:=by
 cases c with
 | v a=>cases h;exact ⟨Step.refl hm,hc⟩
 | o r n =>
  simp only[frzC]at h
  split at h
  .rename_i k rows hr;cases h;have hs:=Step.freeze hm hr;exact ⟨hs,pure_ice hs.mem (by simp) (hc.mono (Keep.refl _ _) hs.ow (.refl _)) hp⟩
  .rename_i k rows hr;cases h;exact ⟨Step.refl hm,pure_ice hm hr hc hp⟩
  .cases h
theorem Yp:∀ {cs:List C} {us:List Value} {H:Nat->Option Blk} {vs:List V} {ups:Ups} {p:Prop},Mem own0 mt w0 ρ H w->frzCs H cs=some (vs,ups,p)->p->All2 (RepC w (Ow own0 ρ H) ρ) cs us ->
 Step own0 mt w0 ρ H w ρ (updL H ups) w/\All2 (RepV w (Ow own0 ρ (updL H ups))) vs us
 | [],[],_,_,_,_,hm,h,_,_=>by cases h;exact ⟨Step.refl hm,trivial⟩
 | .v a::r,u::us,H,vs,ups,p,hm,h,hp,⟨h0,h1⟩=>by
  simp only[frzCs]at h
  split at h
  .rename_i vs' u' p' hr;cases h;obtain ⟨hs,ha⟩:=Yp hm hr hp h1;exact ⟨hs,RepV.mono h0 hs.keep hs.ow,ha⟩
  .cases h
 | .o r n::cs,u::us,H,vs,ups,p,hm,h,hp,⟨h0,h1⟩=>by
  simp only[frzCs]at h
  split at h
  .rename_i v u1 p1 hc
   split at h
   .rename_i vs' u2 p2 hr;cases h;obtain ⟨s1,hv⟩:=frzC_sound hm hc hp.1 h0;obtain ⟨s2,ha⟩:=Yp s1.mem hr hp.2 (h1.mono fun _ _ h=>h.mono s1.keep s1.ow s1.sub);rw[Z7];exact ⟨s1.trans s2,hv.mono s2.keep s2.ow,ha⟩
   .cases h
  .cases h
 | [],_::_,_,_,_,_,_,_,_,h=>h.elim
 | .v _::_,[],_,_,_,_,_,_,_,h=>h.elim
 | .o _ _::_,[],_,_,_,_,_,_,_,h=>h.elim
theorem all2_oneCell:∀ {cs:List C} {us:List Value},All2 (RepC w ow ρ) cs us->∀u,u∈us->u.oneCell=true
 | [],[],_,u,h=>by cases h
 | _::_,x::us,⟨h0,h1⟩,u,h=>by
  cases h with
  | head=>exact RepC.oneCell h0
  | tail _ h=>exact all2_oneCell h1 u h
 | [],_::_,h,_,_=>h.elim
 | _::_,[],h,_,_=>h.elim
theorem Y0 {t:TypeId} {ty:Ty} (ht:TyOk P t ty) {b o:Nat} {T:TypeId} {fr:Nat×Nat} {vs:Array Value} {u:Value} (h:w.heap[b]?=some (.cells vs T fr)) (hf:NoFr vs fr)
 (hs:u.cells.size=ty.size) (hl:o+ty.size<=vs.size) (h1:∀x,x∈u.cells.toList->x.oneCell=true) :
 (storeVar t ⟨b,o,none⟩ u).run P w=.ok () (setBlk w b (.cells (splice vs.toList o u.cells.toList).toArray T fr)):=by
 unfold storeVar;have:=Yz (P:=P) (o:=o) u.cells.toList 0 vs w h hf (by simp;omega) h1;simp only[Nat.add_zero]at this;simp[Zr ht,hs,this]
theorem rFr_splice {k:Nat} {vs:Array Value} {fr:Nat×Nat} {xs:List Value} {o:Nat} (hf:RFr k vs fr) (hl:o+xs.length<=vs.size):RFr k (splice vs.toList o xs).toArray fr :=
 hf.size (by simp[Yj (cs:=vs.toList) (xs:=xs) (off:=o) (by simpa using hl)])
theorem noFr_splice {vs:Array Value} {fr:Nat×Nat} {xs:List Value} {o:Nat} (hf:NoFr vs fr) (hl:o+xs.length<=vs.size):NoFr (splice vs.toList o xs).toArray fr :=
 hf.size (by simp[Yj (cs:=vs.toList) (xs:=xs) (off:=o) (by simpa using hl)])
theorem row_set {α:Type} {k base:Nat} {rows:List (List α)} {vs:Array Value} {R:α->Value->Prop} {i off:Nat} {xs:List α} {us:List Value} (hlen:∀r,r∈rows->r.length=k)
 (h3:∀(i:Nat) (r:List α) (j:Nat) (v:α),rows[i]?=some r->r[j]?=some v->∃x,vs[base+i*k+j]?=some x/\R v x) (hi:i<rows.length) (hoff:off+xs.length<=k)
 (hx:All2 R xs us) (hb:base+rows.length*k<=vs.size) :
 (∀r,r∈rows.set i (splice (rows.getD i []) off xs)->r.length=k) /\
 ∀(i':Nat) (r:List α) (j:Nat) (v:α),(rows.set i (splice (rows.getD i []) off xs))[i']?=some r->r[j]?=some v->∃x,((splice vs.toList (base+i*k+off) us).toArray)[base+i'*k+j]?=some x/\R v x:=by
 have hri:rows[i]?=some (rows.getD i []):=by simp[List.getD,hi]
 have hrl:(rows.getD i []).length=k:=hlen _ (List.mem_of_getElem? hri);have hxl:=hx.length;have hsl:(splice (rows.getD i []) off xs).length=k:=by rw[Yj (by omega),hrl]
 have hik:i*k+k<=rows.length*k:=by
  have:=Nat.mul_le_mul_right k (show i+1<=rows.length by omega);rw[Nat.add_mul]at this;omega
 constructor
 .intro r hr;rcases List.mem_or_eq_of_mem_set hr with h|rfl
  .exact hlen r h
  .exact hsl
 .intro i' r j v hi' hj
  have get:∀n:Nat,(splice vs.toList (base+i*k+off) us)[n]?=if n<base+i*k+off then vs[n]? else if n<base+i*k+off+us.length then us[n - (base+i*k+off)]? else vs[n]?:=by
   intro n;unfold splice;rw[List.getElem?_append,List.getElem?_append];simp only[List.length_append,List.length_take,Array.length_toList];have hmin:min (base+i*k+off) vs.size=base+i*k+off:=by omega
   rw[hmin];by_cases h1:n<base+i*k+off
   .rw[if_pos (by omega),if_pos h1,if_pos h1,List.getElem?_take,if_pos h1];simp
   .by_cases h2:n<base+i*k+off+us.length
    .rw[if_pos h2,if_neg h1,if_neg h1,if_pos h2]
    .rw[if_neg h2,if_neg h1,if_neg h2,List.getElem?_drop];rw[show base+i*k+off+us.length+(n - (base+i*k+off+us.length))=n by omega];simp
  by_cases e:i'=i
  .subst e;rw[List.getElem?_set_self hi]at hi';cases hi';have hjk:j<k:=by rw[<-hsl];exact (List.getElem?_eq_some_iff.1 hj).1
   simp only[List.getElem?_toArray,get];unfold splice at hj;rw[List.getElem?_append,List.getElem?_append]at hj;simp only[List.length_append,List.length_take,hrl]at hj;have hmin:min off k=off:=by omega
   rw[hmin]at hj;by_cases h1:j<off
   .rw[if_pos (by omega),if_pos h1,List.getElem?_take,if_pos h1]at hj;rw[if_pos (by omega)];exact h3 _ _ _ _ hri hj
   .by_cases h2:j<off+xs.length
    .rw[if_pos h2,if_neg h1]at hj;rw[if_neg (by omega),if_pos (by omega),show base+i'*k+j - (base+i'*k+off)=j - off by omega];obtain ⟨b,hb',hr⟩:=hx.get hj;exact ⟨b,hb',hr⟩
    .rw[if_neg h2,List.getElem?_drop,show off+xs.length+(j - (off+xs.length))=j by omega]at hj;rw[if_neg (by omega),if_neg (by omega)];exact h3 _ _ _ _ hri hj
  .rw[List.getElem?_set_ne (by omega)]at hi';have hr':=hlen r (List.mem_of_getElem? hi');have hjk:j<k:=by rw[<-hr'];exact (List.getElem?_eq_some_iff.1 hj).1
   simp only[List.getElem?_toArray,get]
   have far:base+i'*k+j<base+i*k+off\/base+i*k+off+us.length<=base+i'*k+j:=by
    rcases Nat.lt_or_ge i' i with h|h
    .left;have:=Nat.mul_le_mul_right k (show i'+1<=i by omega);rw[Nat.add_mul]at this;omega
    .right;have:=Nat.mul_le_mul_right k (show i+1<=i' by omega);rw[Nat.add_mul]at this;omega
   rcases far with h|h
   .rw[if_pos h];exact h3 _ _ _ _ hi' hj
   .rw[if_neg (by omega),if_neg (by omega)];exact h3 _ _ _ _ hi' hj
theorem splice_at {α:Type} {as xs:List α} {o:Nat} (h:o+xs.length<=as.length) (n:Nat):(splice as o xs)[n]?=if n<o then as[n]? else if n<o+xs.length then xs[n - o]? else as[n]?:=by
 unfold splice;rw[List.getElem?_append,List.getElem?_append];simp only[List.length_append,List.length_take];have hmin:min o as.length=o:=by omega
 rw[hmin];by_cases h1:n<o
 .rw[if_pos (by omega),if_pos h1,if_pos h1,List.getElem?_take,if_pos h1]
 .by_cases h2:n<o+xs.length
  .rw[if_pos h2,if_neg h1,if_neg h1,if_pos h2]
  .rw[if_neg h2,if_neg h1,if_neg h2,List.getElem?_drop];congr 1;omega
theorem store_sound (hm:Mem own0 mt w0 ρ H w) {t:TypeId} {ty:Ty} (ht:TyOk P t ty) {d e:D} {u v:Value} (hd:RepD w (Ow own0 ρ H) ρ d u) (he:RepD w (Ow own0 ρ H) ρ e v)
 (hg:(storeE ty H d e).gives P (d',ups)):d'=.top/\MRun P own0 mt w0 ρ H w (Instr.storeAt t u v) ups fun _ _ _ _=>True:=by
 unfold storeE at hg
 split at hg
 .rename_i b off e
  split at hg
  .rename_i cs hb;obtain ⟨⟨hl,hlt⟩,hg⟩:=hg;have hg':(d',ups)=(_,_):=hg;cases hg';refine ⟨rfl,?_⟩;obtain ⟨bn,z,c,hp,rfl⟩:=hd;obtain ⟨b',c',hp',vs,T,fr,hh,hf,ha⟩:=hm.blks b _ hb;rw[hp]at hp';cases hp';have hc:=rep_cells he;have hal:=ha.length;have hrun:=Y0 (o:=off) ht hh hf.1 (by rw[<-hc.2];exact hl) (by simp at hal;omega) (all2_oneCell hc.1);refine ⟨(),setBlk w bn (.cells (splice vs.toList off v.cells.toList).toArray T fr),ρ,?_,Step.write (i:=b) hm hp (by rw[hb];rfl) (blk:=.loc (splice cs off e.cells)) rfl ⟨_,_,hp,_,T,fr,Yh (Array.getElem?_eq_some_iff.1 hh).1,⟨noFr_splice hf.1 ?_,hf.2⟩,?_⟩,trivial⟩
   .simpa[Instr.storeAt,Instr.sureAddr] using hrun
   .have:=hc.2;simp at hal ⊢;omega
   .simp only[];refine (all2_splice ha hc.1).mono fun _ _ h=>h.mono (Keep.setBlk (.inr ⟨b,_,_,hp,by rw[hb];rfl⟩) _) (fun _ _ h=>h) (.refl _)
  .exact hg.elim
 .rename_i r k i off e
  split at hg
  .rename_i k' rows n cs hb
   split at hg
   .rename_i hin;subst hin;obtain ⟨⟨hl,rfl,hoff⟩,hg⟩:=hg;have hg':(d',ups)=(_,_):=hg;cases hg';refine ⟨rfl,?_⟩;have hc:=rep_cells he;obtain ⟨b,base,cap,hp,rfl⟩:=hd;obtain ⟨hrl,hn,hk,b',base',cap',hp',hcap,vs,T,fr,hh,hf,h2,h3,h4⟩:=hm.blks r _ hb;rw[hp]at hp';cases hp';have hmul:=Nat.mul_le_mul_right k' (show i+1<=cap by omega);rw[Nat.add_mul]at hmul;have hvl:v.cells.toList.length=ty.size:=by rw[<-hl,hc.2];simp
    have hbound:base+i*k'+off+v.cells.toList.length<=vs.toList.length:=by rw[hvl];simp;omega
    have hrun:=Y0 (o:=base+i*k'+off) (u:=v) ht hh hf.1 (by simpa using hvl) (by simpa[hvl] using hbound) (all2_oneCell hc.1)
    have far:∀m j,m≠i->j<k'->base+m*k'+j<base+i*k'+off\/base+i*k'+off+v.cells.toList.length<=base+m*k'+j:=fun m j hne hj=>by
     rcases Nat.lt_or_ge m i with h|h
     .left;have:=Nat.mul_le_mul_right k' (show m+1<=i by omega);rw[Nat.add_mul]at this;omega
     .right;have:=Nat.mul_le_mul_right k' (show i+1<=m by omega);rw[Nat.add_mul]at this;omega
    have kp:=Keep.setBlk (w:=w) (ow:=Ow own0 ρ H) (b:=b) (.inr ⟨r,_,_,hp,by rw[hb];rfl⟩) (.cells (splice vs.toList (base+i*k'+off) v.cells.toList).toArray T fr)
    have s2:=Step.write (i:=r) hm hp (by rw[hb];rfl) (blk:=.rowx k' rows i (splice cs off e.cells)) rfl (vs:=(splice vs.toList (base+i*k'+off) v.cells.toList).toArray) (T:=T) (fr:=fr)
     ⟨hrl,hn,by rw[Yj (by omega)];exact hk,b,base,cap,hp,hcap,_,T,fr,Yh (Array.getElem?_eq_some_iff.1 hh).1,rFr_splice hf (by simpa using hbound),(by simp only[List.size_toArray];rw[Yj hbound];simpa using h2),(by
      intro m r' j x hne hi' hj;obtain ⟨y,hy,hv'⟩:=h3 m r' j x hne hi' hj;have hjk:j<k':=by rw[<-hrl r' (List.mem_of_getElem? hi')];exact (List.getElem?_eq_some_iff.1 hj).1
      refine ⟨y,?_,hv'.mono kp fun _ _ h=>h⟩;rw[List.getElem?_toArray,splice_at hbound];rcases far m j hne hjk with h|h
      .rw[if_pos h];simpa using hy
      .rw[if_neg (by omega),if_neg (by omega)];simpa using hy),(by
      intro j c hj;rw[splice_at (by omega)]at hj;have hle:=hc.2;have hlen2:e.cells.length=v.cells.toList.length:=by rw[hl,hvl]
      simp only[List.getElem?_toArray];rw[splice_at hbound]
      split at hj
      .obtain ⟨y,hy,hr⟩:=h4 j c hj;refine ⟨y,?_,RepC.mono kp (fun _ _ h=>h) (.refl _) hr⟩;rw[if_pos (by omega)];simpa using hy
      .split at hj
       .obtain ⟨y,hy,hr⟩:=hc.1.get hj;refine ⟨y,?_,RepC.mono kp (fun _ _ h=>h) (.refl _) hr⟩;rw[if_neg (by omega),if_pos (by omega),show base+i*k'+j - (base+i*k'+off)=j - off by omega];exact hy
       .obtain ⟨y,hy,hr⟩:=h4 j c hj;refine ⟨y,?_,RepC.mono kp (fun _ _ h=>h) (.refl _) hr⟩
        rw[if_neg (by omega),if_neg (by omega)];simpa using hy)⟩
    exact ⟨(),setBlk w b (.cells (splice vs.toList (base+i*k'+off) v.cells.toList).toArray T fr),ρ,by simpa[Instr.storeAt,Instr.sureAddr] using hrun,s2,trivial⟩
   .split at hg
    .rename_i vs' u1 p1 hv
     split at hg
     .rename_i k' rows n cs hb;obtain ⟨⟨hp1,hl,rfl,hin,hi,hoff⟩,hg⟩:=hg;have hg':(d',ups)=(_,_):=hg;cases hg';refine ⟨rfl,?_⟩;have hc0:=rep_cells he;obtain ⟨s1,hvr⟩:=Yp hm hv hp1 hc0.1;have hc1:=hc0.1;obtain ⟨b,base,cap,hp,rfl⟩:=hd;have hm1:=s1.mem;obtain ⟨hrl,hn,hk,b',base',cap',hp',hcap,vs,T,fr,hh,hf,h2,h3,h4⟩:=hm1.blks r _ hb;rw[hp]at hp';cases hp';have hvl:=hvr.length;have hmul:=Nat.mul_le_mul_right k' hcap
      have hik:i*k'+k'<=rows.length*k':=by
       have:=Nat.mul_le_mul_right k' (show i+1<=rows.length by omega);rw[Nat.add_mul]at this;omega
      have hbound:base+i*k'+off+v.cells.toList.length<=vs.toList.length:=by simp at hvl ⊢;omega
      have hrun:=Y0 (o:=base+i*k'+off) (u:=v) ht hh hf.1 (by simp at hvl;omega) (by simp at hvl;omega) (all2_oneCell hc1)
      have far:∀m j,m≠i->j<k'->base+m*k'+j<base+i*k'+off\/base+i*k'+off+v.cells.toList.length<=base+m*k'+j:=fun m j hne hj=>by
       rcases Nat.lt_or_ge m i with h|h
       .left;have:=Nat.mul_le_mul_right k' (show m+1<=i by omega);rw[Nat.add_mul]at this;omega
       .right;have:=Nat.mul_le_mul_right k' (show i+1<=m by omega);rw[Nat.add_mul]at this;omega
      have hri:rows[i]?=some (rows.getD i []):=by simp[List.getD,hi]
      have hrl1:(rows.getD i []).length=k':=hrl _ (List.mem_of_getElem? hri);have kp:=Keep.setBlk (w:=w) (ow:=Ow own0 ρ (updL H u1)) (b:=b) (.inr ⟨r,_,_,hp,by rw[hb];rfl⟩) (.cells (splice vs.toList (base+i*k'+off) v.cells.toList).toArray T fr)
      have s2:=Step.write (i:=r) hm1 hp (by rw[hb];rfl) (blk:=.rowx k' (rows.set i (splice (rows.getD i []) off vs')) n cs) rfl (vs:=(splice vs.toList (base+i*k'+off) v.cells.toList).toArray) (T:=T) (fr:=fr)
       ⟨(fun r' hr'=>by
         rcases List.mem_or_eq_of_mem_set hr' with h|rfl
         .exact hrl _ h
         .rw[Yj (by omega)];exact hrl1),by simpa using hn,hk,b,base,cap,hp,by simpa using hcap,_,T,fr,Yh (Array.getElem?_eq_some_iff.1 hh).1,rFr_splice hf (by simpa using hbound),(by simp only[List.size_toArray];rw[Yj hbound];simpa using h2),(by
         intro m r' j x hne hi' hj;simp only[List.getElem?_toArray];rw[splice_at hbound];by_cases hmi:m=i
         .subst hmi;rw[List.getElem?_set_self hi]at hi';cases hi';rw[splice_at (by omega)]at hj
          split at hj
          .obtain ⟨y,hy,hv'⟩:=h3 m _ j x hne hri hj;refine ⟨y,?_,hv'.mono kp fun _ _ h=>h⟩;rw[if_pos (by omega)];simpa using hy
          .split at hj
           .obtain ⟨y,hy,hr⟩:=hvr.get hj;refine ⟨y,?_,hr.mono kp fun _ _ h=>h⟩;rw[if_neg (by omega),if_pos (by omega),show base+m*k'+j - (base+m*k'+off)=j - off by omega];exact hy
           .obtain ⟨y,hy,hv'⟩:=h3 m _ j x hne hri hj;refine ⟨y,?_,hv'.mono kp fun _ _ h=>h⟩;rw[if_neg (by omega),if_neg (by omega)];simpa using hy
         .rw[List.getElem?_set_ne (Ne.symm hmi)]at hi';obtain ⟨y,hy,hv'⟩:=h3 m r' j x hne hi' hj;have hjk:j<k':=by rw[<-hrl r' (List.mem_of_getElem? hi')];exact (List.getElem?_eq_some_iff.1 hj).1
          refine ⟨y,?_,hv'.mono kp fun _ _ h=>h⟩;rcases far m j hmi hjk with h|h
          .rw[if_pos h];simpa using hy
          .rw[if_neg (by omega),if_neg (by omega)];simpa using hy),(by
         intro j c hj;simp only[List.getElem?_toArray];rw[splice_at hbound];obtain ⟨y,hy,hr⟩:=h4 j c hj;have hjk:j<k':=by rw[<-hk];exact (List.getElem?_eq_some_iff.1 hj).1
         refine ⟨y,?_,RepC.mono kp (fun _ _ h=>h) (.refl _) hr⟩;rcases far n j (Ne.symm hin) hjk with h|h
         .rw[if_pos h];simpa using hy
         .rw[if_neg (by omega),if_neg (by omega)];simpa using hy)⟩
      refine ⟨(),setBlk w b (.cells (splice vs.toList (base+i*k'+off) v.cells.toList).toArray T fr),ρ,?_,?_,trivial⟩
      .simpa[Instr.storeAt,Instr.sureAddr] using hrun
      .rw[Z7];exact s1.trans s2
     .exact hg.elim
    .exact hg.elim
  rename_i hnx
  split at hg
  .rename_i vs' u1 p1 hv
   split at hg
   .rename_i k' rows hb;obtain ⟨⟨hp1,hl,rfl,hi,hoff⟩,hg⟩:=hg;have hg':(d',ups)=(_,_):=hg;cases hg';refine ⟨rfl,?_⟩;have hc0:=rep_cells he;obtain ⟨s1,hvr⟩:=Yp hm hv hp1 hc0.1;have hc2:=hc0.2;have hc1:=hc0.1;obtain ⟨b,base,cap,hp,rfl⟩:=hd;have hm1:=s1.mem;obtain ⟨hrl,m,hm',h⟩:=hm1.blks r _ hb;rw[hp]at hm';cases hm';obtain ⟨hcap,vs,T,fr,hh,hf,h2,h3⟩:=h;have hvl:=hvr.length;have hmul:=Nat.mul_le_mul_right k' hcap
    have hik:i*k'+k'<=rows.length*k':=by
     have:=Nat.mul_le_mul_right k' (show i+1<=rows.length by omega);rw[Nat.add_mul]at this;omega
    have hbound:base+i*k'+off+v.cells.size<=vs.size:=by simp at hvl;omega
    obtain ⟨hr1,hr2⟩:=row_set (xs:=vs') (off:=off) (us:=v.cells.toList) hrl h3 hi (by omega) hvr (by omega);have hrun:=Y0 (o:=base+i*k'+off) (u:=v) ht hh hf.1 (by simp at hvl;omega) (by simp at hvl;omega) (all2_oneCell hc1)
    have s2:=Step.write (i:=r) hm1 hp (by rw[hb];rfl) (blk:=.row k' (rows.set i (splice (rows.getD i []) off vs'))) rfl (vs:=(splice vs.toList (base+i*k'+off) v.cells.toList).toArray) (T:=T) (fr:=fr)
     ⟨hr1,_,hp,by simpa using hcap,_,T,fr,Yh (Array.getElem?_eq_some_iff.1 hh).1,rFr_splice hf (by simp at hvl ⊢;omega),(by simp;rw[Yj (by simp at hvl ⊢;omega)];simpa using h2),(by
      intro i' r' j v' hi' hj;obtain ⟨x,hx,hv'⟩:=hr2 i' r' j v' hi' hj
      exact ⟨x,hx,hv'.mono (Keep.setBlk (.inr ⟨r,_,_,hp,by rw[hb];rfl⟩) _) fun _ _ h=>h⟩)⟩
    refine ⟨(),setBlk w b (.cells (splice vs.toList (base+i*k'+off) v.cells.toList).toArray T fr),ρ,?_,?_,trivial⟩
    .simpa[Instr.storeAt,Instr.sureAddr] using hrun
    .rw[Z7];exact s1.trans s2
   .exact hg.elim
  .exact hg.elim
 .exact hg.elim
end Eng
end Go.Proofs.YtgenjpingdkmgaaGreatDoor
