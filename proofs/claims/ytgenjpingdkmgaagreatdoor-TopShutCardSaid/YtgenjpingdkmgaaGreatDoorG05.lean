/- Contracts of functions that this seat's law calls. No condition. -/
import Derived.Lib.ConvBytes
import Derived.Laws.BytesArg
import Derived.Laws.StructEq
import Derived.Test.YtgenjpingdkmgaaGreatDoorG04
set_option maxRecDepth 100000
set_option linter.unusedSimpArgs false
set_option linter.unusedVariables false
namespace Go.Proofs.YtgenjpingdkmgaaGreatDoor
namespace Eng
section
def appendNE (Γ:Nat->Option Ty) (ts:Array TypeId) (nx:Nat) (s:D) (n:Int):Tr (D×Ups) :=
 match ts[0]?,ts[1]? with
 | some t0,some t1=>match Γ t0,Γ t1 with
  | some ty0,some ty1=>match ty0.desc,ty1.desc with
   | .slice e,.int _=>match Γ e with
    | some te=>match s with
     | .e (.c (.v (.x (.slice none 0 0))))=>.ask (te.size≠0/\0<n/\n<=70368744177664/\n*te.bytes<=70368744177664) (.ret (.e (.c (.o nx n.toNat)),[(nx,.row te.size (List.replicate n.toNat (zeroV te)))]))
     | _=>.fail
    | none=>.fail
   | _,_=>.fail
  | _,_=>.fail
 | _,_=>.fail
def makeSliceE (Γ:Nat->Option Ty) (ty:Ty) (nx:Nat) (d e:D):Tr (D×Ups) :=
 match d,e with
 | .e (.c (.v (.x (.int _ l)))),.e (.c (.v (.x (.int _ c))))=>match ty.desc with
  | .slice el=>match Γ el with
   | some te=>.ask (te.size≠0/\0<=l/\l<=c/\c*te.bytes<=70368744177664/\c<=70368744177664) (.ret (.e (.c (.o nx l.toNat)),[(nx,.row te.size (List.replicate l.toNat (zeroV te)))]))
   | none=>.fail
  | _=>.fail
 | _,_=>.fail
def capE (ty:Ty) (x:D):Tr (D×Ups) :=
 match ty.desc with
 | .slice _=>match x with
  | .e (.c (.v (.x (.slice none 0 0))))=>.ret (.x (.int .i64 0),[])
  | _=>.fail
 | _=>.fail
def byteOf:List V->UInt8
 | [.x (.int .u8 n)]=>UInt8.ofNat n.toNat
 | _=>0
def isByte:List V->Prop
 | [.x (.int .u8 _)]=>True
 | _=>False
def strRows (rows:List (List V)):ByteArray:=⟨(rows.map byteOf).toArray⟩
def areBytes (rows:List (List V)):Prop:=∀r,r∈rows->isByte r
def convHE (Γ:Nat->Option Ty) (H:Nat->Option Blk) (nx:Nat) (src dst:TypeId) (x:D):Tr (D×Ups) :=
 match Γ src,Γ dst with
 | some ts,some td=>match td.desc with
  | .string=>match ts.desc with
   | .slice e=>match Γ e with
    | some te=>match te.desc with
     | .int .u8=>match rowsOf H x with
      | some rows=>.ask (areBytes rows/\∀r n,x=.e (.c (.o r n))->n=rows.length) (.ret (.x (.string (strRows rows)),[]))
      | none=>.fail
     | _=>.fail
    | none=>.fail
   | _=>convE Γ src dst x
  | .slice e=>match Γ e with
   | some te=>match te.desc with
    | .int .u8=>match x with
     | .x (.string s)=>.ret (.e (.c (.o nx s.size)),[(nx,.row 1 (bytesRows s))])
     | .e (.c (.o r n))=>match H r with
      | some (.row k rows)=>.ask (src=dst/\0<n/\k=1) (.ret (.e (.c (.o r n)),[(r,.row k rows)]))
      | _=>.fail
     | _=>.fail
    | _=>.fail
   | none=>.fail
  | _=>convE Γ src dst x
 | _,_=>.fail
def capsE:(Nat->Option Blk)->List D->Option (List (List V)×Ups)
 | _,[]=>some ([],[])
 | h,.p b 0::r=>match h b with
  | some (.loc cs)=>match allV cs with
   | some vs=>match capsE (upd h b (some (.ice vs.length [vs]))) r with
    | some (vss,u)=>some (vs::vss,(b,.ice vs.length [vs])::u)
    | none=>none
   | none=>none
  | some (.ice _ [vs])=>match capsE h r with
   | some (vss,u)=>some (vs::vss,u)
   | none=>none
  | _=>none
 | h,.q cs::r=>match capsE h r with
  | some (vss,u)=>some (cs::vss,u)
  | none=>none
 | _,_::_=>none
def makeFuncE (H:Nat->Option Blk) (fn:Fn) (first:Array Operand) (ds:List D):Tr (D×Ups) :=
 match fn with
 | .func f=>if first.size=0 then (match capsE H ds with
  | some (vss,u)=>.ret (.e (.c (.v (.f f vss))),u)
  | none=>.fail) else .fail
 | _=>.fail
variable {P:Program} {Γ:Nat->Option Ty} {own0 mt:Nat->Prop} {w0 w:World} {ow:Nat->Prop} {ρ:Nat->Option Pl} {H:Nat->Option Blk} {q:Bool}
 {d':D} {ups:Ups}
def eqC:C->C->Bool
 | .v (.x (.int _ a)),.v (.x (.int _ b))=>a == b
 | .v (.x (.bool a)),.v (.x (.bool b))=>a == b
 | .v (.x (.string a)),.v (.x (.string b))=>a.data.toList == b.data.toList
 | _,_=>false
def okEq (n:Nat) (a b:C):Prop :=
 match n,a,b with
 | 0,.v (.x (.bool _)),.v (.x (.bool _))=>True
 | 1,.v (.x (.int k _)),.v (.x (.int k' _))=>k=k'
 | 2,.v (.x (.string _)),.v (.x (.string _))=>True
 | _,_,_=>False
def eqAll:List (Nat×Nat)->List C->List C->Bool
 | [],_,_=>true
 | (o,_)::l,xs,ys=>eqC (xs.getD o default) (ys.getD o default) && eqAll l xs ys
def okAll:List (Nat×Nat)->List C->List C->Prop
 | [],_,_=>True
 | (o,n)::l,xs,ys=>(o<xs.length/\o<ys.length/\okEq n (xs.getD o default) (ys.getD o default))/\okAll l xs ys
def eqAggE (op:BinOp) (l:Option (List (Nat×Nat))) (xs ys:List C):Tr (D×Ups) :=
 match l with
 | some l=>match op with
  | .eql=>.ask (okAll l xs ys) (.ret (.x (.bool (eqAll l xs ys)),[]))
  | .neq=>.ask (okAll l xs ys) (.ret (.x (.bool (!eqAll l xs ys)),[]))
  | _=>.fail
 | none=>.fail
def binAE (Γ:Nat->Option Ty) (q:Bool) (op:BinOp) (t:TypeId) (x y:D):Tr (D×Ups) :=
 match x,y with
 | .e (.a xs),.e (.a ys)=>match Γ t with
  | some ty=>eqAggE op ty.eqL xs ys
  | none=>.fail
 | x,y=>binE Γ q op t x y
def isIfaceD:TypeDesc->Bool
 | .interface _=>true
 | _=>false
def constNil:Operand->Bool
 | .const .nilIface=>true
 | _=>false
def binNE (Γ:Nat->Option Ty) (q:Bool) (op:BinOp) (t:TypeId) (Y:Operand) (x y:D):Tr (D×Ups) :=
 match x,y with
 | .e (.c (.v (.x .nilIface))),.e (.c (.v (.x .nilIface)))=>match Γ t with
  | some ty=>if constNil Y && isIfaceD ty.desc then (match op with
   | .eql=>.ret (.x (.bool true),[])
   | .neq=>.ret (.x (.bool false),[])
   | _=>.fail) else .fail
  | none=>.fail
 | x,y=>binAE Γ q op t x y
theorem part_cell {t:TypeId} {d:TypeDesc} (hu:P.underlying t=some d) (hd:isAggD d=false) {us:List Value} {o:Nat} {v:Value} (h:us[o]?=some v) (w:World):(part t us.toArray o).run P w=.ok v w:=by
 have hlt:=(List.getElem?_eq_some_iff.1 h).1;unfold part
 have:(isAgg t).run P w=.ok false w:=by
  unfold isAgg;cases d<;>first|(cases hd;done)|simp[run_underlying hu]
 rw[Sem.run_bind,this];simp[h]
theorem isAgg_struct {t:TypeId} {fs:Array Field} (hu:P.underlying t=some (.struct fs)) (w:World):(isAgg t).run P w=.ok true w:=by
 unfold isAgg;simp[run_underlying hu]
theorem isAgg_cell {t:TypeId} {d:TypeDesc} (hu:P.underlying t=some d) (hd:isAggD d=false) (w:World):(isAgg t).run P w=.ok false w:=by
 unfold isAgg;cases d<;>first|(cases hd;done)|simp[run_underlying hu]
theorem part_struct {t:TypeId} {fs:Array Field} {i:TypeInfo} (hu:P.underlying t=some (.struct fs)) (hi:P.info? t=some i) (us:Array Value) (o:Nat) (w:World):(part t us o).run P w=.ok (.agg (us.extract o (o+i.size))) w:=by
 unfold part;rw[Sem.run_bind,isAgg_struct hu];simp[sizeOf,typeInfo,hi]
theorem okAll_app:∀ {l1 l2:List (Nat×Nat)} {xs ys:List C},okAll (l1++l2) xs ys->okAll l1 xs ys/\okAll l2 xs ys
 | [],_,_,_,h=>⟨trivial,h⟩
 | (_,_)::_,_,_,_,h=>⟨⟨h.1,(okAll_app h.2).1⟩,(okAll_app h.2).2⟩
theorem eqAll_app:∀(l1 l2:List (Nat×Nat)) (xs ys:List C),eqAll (l1++l2) xs ys=(eqAll l1 xs ys && eqAll l2 xs ys)
 | [],_,_,_=>by simp[eqAll]
 | (_,_)::l1,l2,xs,ys=>by simp only[List.cons_append,eqAll,eqAll_app l1 l2,Bool.and_assoc]
def PartOf (P:Program) (t:TypeId) (us:List Value) (o:Nat) (u:Value):Prop:=∀w:World,(part t us.toArray o).run P w=.ok u w
theorem partOf_fun {t:TypeId} {us:List Value} {o:Nat} {u u':Value} (h:PartOf P t us o u) (h':PartOf P t us o u') (w:World):u=u':=by
 have:=h w;rw[h' w]at this;cases this;rfl
theorem partOf_exists {d:Nat} {t:TypeId} {base:Nat} {l:List (Nat×Nat)} (he:EqP P d t base l) {xs ys:List C} {us vs:List Value} (hx:All2 (RepC w ow ρ) xs us) (hy:All2 (RepC w ow ρ) ys vs) (ho:okAll l xs ys):(∃u,PartOf P t us base u)/\∃v,PartOf P t vs base v:=by
 cases d with
 | zero=>exact he.elim
 | succ d =>
  rcases he with ⟨i,hi,h1,hc⟩|⟨i,fs,hi,hst,hu,hf⟩
  .have cell:∀ {n:Nat} {dd:TypeDesc},P.underlying t=some dd->isAggD dd=false->l=[(base,n)]->(∃u,PartOf P t us base u)/\∃v,PartOf P t vs base v:=by
    intro n dd hu hd hl;subst hl;obtain ⟨⟨g1,g2,_⟩,_⟩:=ho;rw[hx.length]at g1;rw[hy.length]at g2;exact ⟨⟨_,fun w=>part_cell hu hd (List.getElem?_eq_getElem g1) w⟩,⟨_,fun w=>part_cell hu hd (List.getElem?_eq_getElem g2) w⟩⟩
   rcases hc with ⟨hl,hu⟩|⟨hl,k,hu⟩|⟨hl,hu⟩
   .exact cell hu rfl hl
   .exact cell hu rfl hl
   .exact cell hu rfl hl
  .exact ⟨⟨_,fun w=>part_struct hu hi _ _ w⟩,⟨_,fun w=>part_struct hu hi _ _ w⟩⟩
theorem part_sub {d:Nat} {t:TypeId} {base o size:Nat} {l:List (Nat×Nat)} (he:EqP P d t (base+o) l) {j:TypeInfo} (hj:P.info? t=some j) (hs:o+j.size<=size) (us:List Value) (w:World) :
 (part t (us.toArray.extract base (base+size)) o).run P w=(part t us.toArray (base+o)).run P w:=by
 cases d with
 | zero=>exact he.elim
 | succ d =>
  rcases he with ⟨i,hi,h1,hc⟩|⟨i,fs,hi,hst,hu,hf⟩
  .rw[hi]at hj;cases hj
   have cell:∀ {dd:TypeDesc},P.underlying t=some dd->isAggD dd=false->(part t (us.toArray.extract base (base+size)) o).run P w=(part t us.toArray (base+o)).run P w:=by
    intro dd hu hd;unfold part;rw[Sem.run_bind,Sem.run_bind,isAgg_cell hu hd];simp only[Result.andThen_ok,Bool.false_eq_true,if_false]
    have:(us.toArray.extract base (base+size))[o]?=us.toArray[base+o]?:=by
     rw[Array.getElem?_extract];by_cases h:base+o<us.toArray.size
     .rw[if_pos (by omega)]
     .rw[if_neg (by omega),Array.getElem?_eq_none (by omega)]
    rw[this]
   rcases hc with ⟨_,hu⟩|⟨_,k,hu⟩|⟨_,hu⟩
   .exact cell hu rfl
   .exact cell hu rfl
   .exact cell hu rfl
  .rw[hi]at hj;cases hj;rw[part_struct hu hi,part_struct hu hi,Array.extract_extract];congr 3;rw[Nat.min_eq_left (by omega)];omega
theorem eqP_run:∀(d:Nat) {t:TypeId} {base:Nat} {l:List (Nat×Nat)},EqP P d t base l->∀(n:Nat),d<=n->∀ {xs ys:List C} {us vs:List Value},All2 (RepC w ow ρ) xs us->All2 (RepC w ow ρ) ys vs->okAll l xs ys->∀ {u v:Value},PartOf P t us base u->PartOf P t vs base v ->
 (Op.equalIn n t u v).run P w=.ok (eqAll l xs ys) w
 | 0,_,_,_,he,_,_,_,_,_,_,_,_,_,_,_,_,_=>he.elim
 | d+1,t,base,l,he,n,hn,xs,ys,us,vs,hx,hy,ho,u,v,hu,hv=>by
  obtain ⟨n,rfl⟩:∃m,n=m+1:=⟨n - 1,by omega⟩
  rcases he with ⟨i,hi,h1,hc⟩|⟨i,fs,hi,hst,hund,hf⟩
  .have one:∀ {c:Value} {z:Value},RepC w ow ρ (.v (.x c)) z->z=c:=fun h=>by
    have h:RepV w ow (.x _) _:=h;cases h;rfl
   have cell:∀ {k:Nat} {dd:TypeDesc},P.underlying t=some dd->isAggD dd=false->l=[(base,k)]->∃a b,okEq k a b/\RepC w ow ρ a u/\RepC w ow ρ b v/\eqAll l xs ys=(eqC a b && true):=by
    intro k dd hd0 hd hl;subst hl;obtain ⟨⟨g1,g2,g3⟩,_⟩:=ho;have ex:xs[base]?=some (xs.getD base default):=by rw[List.getD_eq_getElem?_getD,List.getElem?_eq_getElem g1];rfl
    have ey:ys[base]?=some (ys.getD base default):=by rw[List.getD_eq_getElem?_getD,List.getElem?_eq_getElem g2];rfl
    obtain ⟨u1,hu1,hur⟩:=hx.get ex;obtain ⟨v1,hv1,hvr⟩:=hy.get ey;have:=partOf_fun hu (fun w=>part_cell hd0 hd hu1 w) w;subst this;have:=partOf_fun hv (fun w=>part_cell hd0 hd hv1 w) w;subst this;exact ⟨_,_,g3,hur,hvr,rfl⟩
   rcases hc with ⟨hl,hu0⟩|⟨hl,k,hu0⟩|⟨hl,hu0⟩
   .obtain ⟨a,b,h3,hur,hvr,e⟩:=cell hu0 rfl hl;rw[e,Bool.and_true];unfold okEq at h3
    split at h3
    .have:=one hur;subst this;have:=one hvr;subst this;exact run_equalIn_bool' w n _ _ _ hu0
    .simp_all
    .simp_all
    .exact h3.elim
   .obtain ⟨a,b,h3,hur,hvr,e⟩:=cell hu0 rfl hl;rw[e,Bool.and_true];unfold okEq at h3
    split at h3
    .simp_all
    .subst h3;have:=one hur;subst this;have:=one hvr;subst this;exact run_equalIn_int w n _ _ _ _ _ hu0
    .simp_all
    .exact h3.elim
   .obtain ⟨a,b,h3,hur,hvr,e⟩:=cell hu0 rfl hl;rw[e,Bool.and_true];unfold okEq at h3
    split at h3
    .simp_all
    .simp_all
    .rename_i x y;have:=one hur;subst this;have:=one hvr;subst this;rw[run_equalIn_string w n _ _ _ hu0,ba_toList,ba_toList];rfl
    .exact h3.elim
  .have e1:=partOf_fun hu (fun w=>part_struct hund hi _ _ w) w;have e2:=partOf_fun hv (fun w=>part_struct hund hi _ _ w) w;subst e1 e2;have hfo:P.fieldsOf t=fs:=by simp[Program.fieldsOf,hund]
   rw[run_equalIn_struct w n t _ _ (by rw[hfo];exact hund) hst,hfo]
   have key:∀(gs:List Field) (l:List (Nat×Nat)),EqFs P (EqP P d) i.size base gs l->okAll l xs ys->(Op.eqFields n (us.toArray.extract base (base+i.size)) (vs.toArray.extract base (base+i.size)) gs).run P w=.ok (eqAll l xs ys) w:=by
    intro gs
    induction gs with
    | nil=>intro l h _;have h:l=[]:=h;subst h;rfl
    | cons f gs ih =>
     intro l h ho;obtain ⟨hname,l1,l2,rfl,hR,⟨j,hj,hs⟩,hrest⟩:=h;obtain ⟨o1,o2⟩:=okAll_app ho;obtain ⟨⟨u1,hu1⟩,⟨v1,hv1⟩⟩:=partOf_exists hR hx hy o1;have hr:=eqP_run d hR n (by omega) hx hy o1 hu1 hv1;have ih:=ih l2 hrest o2;simp only[Op.eqFields];rw[if_pos hname,Sem.run_bind,part_sub hR hj hs us w,hu1 w,Result.andThen_ok,Sem.run_bind,part_sub hR hj hs vs w,hv1 w,Result.andThen_ok,Sem.run_bind,hr,Result.andThen_ok,eqAll_app];cases eqAll l1 xs ys
     .rfl
     .simpa using ih
   exact key fs.toList l hf ho
theorem eqFs_run {d:Nat} {size n:Nat} (hn:d<=n) {xs ys:List C} {us vs:List Value} (hx:All2 (RepC w ow ρ) xs us) (hy:All2 (RepC w ow ρ) ys vs):∀(gs:List Field) (l:List (Nat×Nat)),EqFs P (EqP P d) size 0 gs l->okAll l xs ys->(Op.eqFields n us.toArray vs.toArray gs).run P w=.ok (eqAll l xs ys) w:=by
 intro gs
 induction gs with
 | nil=>intro l h _;have h:l=[]:=h;subst h;rfl
 | cons f gs ih =>
  intro l h ho;obtain ⟨hname,l1,l2,rfl,hR,_,hrest⟩:=h;rw[Nat.zero_add]at hR;obtain ⟨o1,o2⟩:=okAll_app ho;obtain ⟨⟨u1,hu1⟩,⟨v1,hv1⟩⟩:=partOf_exists hR hx hy o1;have hr:=eqP_run d hR n hn hx hy o1 hu1 hv1;have ih:=ih l2 hrest o2;simp only[Op.eqFields];rw[if_pos hname,Sem.run_bind,hu1 w,Result.andThen_ok,Sem.run_bind,hv1 w,Result.andThen_ok,Sem.run_bind,hr,Result.andThen_ok,eqAll_app];cases eqAll l1 xs ys
  .rfl
  .simpa using ih
theorem binA_sound (hΓ:TysOk P Γ) {op:BinOp} {t:TypeId} {x y:D} {u v:Value} (hq:q=true) (hx:RepD w ow ρ x u) (hy:RepD w ow ρ y v) (X Y:Operand)
 (hg:(binAE Γ q op t x y).gives P (d',ups)) :
 ups=[]/\∃r,(do eqGuard op t X Y u v;Go.binOp op t u v:Sem Value).run P w=.ok r w/\RepD w ow ρ d' r:=by
 unfold binAE at hg
 split at hg
 .rename_i xs ys
  split at hg
  .rename_i ty hty;have ht:=hΓ _ _ hty;unfold eqAggE at hg
   split at hg
   .rename_i l hl;obtain ⟨hgd,hst,dp,fs,i,hdp,hfs,hpl⟩:=ht.eqs l hl;obtain ⟨us,rfl,hx⟩:=hx;obtain ⟨vs,rfl,hy⟩:=hy;have hfo:P.fieldsOf t=fs:=by simp[Program.fieldsOf,hfs]
    have heq:okAll l xs ys->(Op.equalIn 10000 t (.agg us.toArray) (.agg vs.toArray)).run P w=.ok (eqAll l xs ys) w:=fun hok=>by
     rw[show (10000:Nat)=9999+1 from rfl,run_equalIn_struct w 9999 t us.toArray vs.toArray (by rw[hfo];exact hfs) hst,hfo];exact eqFs_run hdp hx hy fs.toList l hpl hok
    split at hg
    .obtain ⟨hok,hg⟩:=hg;refine ok_x hg rfl ?_;rw[Sem.run_bind,run_eqGuard_agg w _ _ _ _ _ _ hgd,Result.andThen_ok,run_eql_struct,heq hok];rfl
    .obtain ⟨hok,hg⟩:=hg;refine ok_x hg rfl ?_;rw[Sem.run_bind,run_eqGuard_agg w _ _ _ _ _ _ hgd,Result.andThen_ok,run_neq_struct,heq hok];rfl
    .exact hg.elim
   .exact hg.elim
  .exact hg.elim
 .exact binE_sound hΓ hq hx hy X Y hg
theorem binN_sound (hΓ:TysOk P Γ) {op:BinOp} {t:TypeId} {x y:D} {u v:Value} (hq:q=true) (hx:RepD w ow ρ x u) (hy:RepD w ow ρ y v) (X Y:Operand)
 (hg:(binNE Γ q op t Y x y).gives P (d',ups)) :
 ups=[]/\∃r,(do eqGuard op t X Y u v;Go.binOp op t u v:Sem Value).run P w=.ok r w/\RepD w ow ρ d' r:=by
 unfold binNE at hg
 split at hg
 .have:=(rep_x hx).1;subst this;have:=(rep_x hy).1;subst this
  split at hg
  .rename_i ty hty;have ht:=hΓ _ _ hty
   split at hg
   .rename_i hc;simp only[Bool.and_eq_true]at hc
    have hY:∃c,Y=.const c:=by
     cases Y with
     | const c=>exact ⟨c,rfl⟩
     | _=>cases hc.1
    obtain ⟨c,rfl⟩:=hY
    have hu:∃ms,P.underlying t=some (.interface ms):=by
     have h2:=hc.2;unfold isIfaceD at h2
     split at h2
     .rename_i ms hd;exact ⟨ms,by rw[ht.under,hd]⟩
     .cases h2
    obtain ⟨ms,hu⟩:=hu
    have heq:(Op.equal t .nilIface .nilIface).run P w=.ok true w:=by
     have h:∀n,(Op.equalIn (n+1) t .nilIface .nilIface).run P w=.ok true w:=by
      intro n;rw[Op.equalIn,Sem.run_bind,run_underlying hu];rfl
     exact h 9999
    have hgd:(eqGuard op t X (.const c) .nilIface .nilIface).run P w=.ok () w:=by
     cases op<;>first|rfl|simp[eqGuard]
    split at hg
    .refine ok_x hg rfl ?_;rw[Sem.run_bind,hgd,Result.andThen_ok];change (do pure (.bool (<-Op.equal t _ _)):Sem Value).run P w=_;rw[Sem.run_bind,heq];rfl
    .refine ok_x hg rfl ?_;rw[Sem.run_bind,hgd,Result.andThen_ok];change (do pure (.bool (!(<-Op.equal t _ _))):Sem Value).run P w=_;rw[Sem.run_bind,heq];rfl
    .exact hg.elim
   .exact hg.elim
  .exact hg.elim
 .exact binA_sound hΓ hq hx hy X Y hg
theorem allV_rep:∀ {cs:List C} {vs:List V} {us:List Value},allV cs=some vs->All2 (RepC w ow ρ) cs us->All2 (RepV w ow) vs us
 | [],vs,us,h,ha=>by
  cases h
  cases us with
  | nil=>trivial
  | cons _ _=>exact ha.elim
 | .v a::r,vs,us,h,ha=>by
  simp only[allV,Option.map_eq_some_iff]at h;obtain ⟨vs',h,rfl⟩:=h
  cases us with
  | nil=>exact ha.elim
  | cons u us=>exact ⟨ha.1,allV_rep h ha.2⟩
 | .o _ _::_,_,_,h,_=>by cases h
theorem Step.still (hm:Mem own0 mt w0 ρ H w) {b:Nat} {cs:List C} {vs:List V} (h:H b=some (.loc cs)) (hv:allV cs=some vs):Step own0 mt w0 ρ H w ρ (upd H b (some (.ice vs.length [vs]))) w:=by
 have hmem:Mem own0 mt w0 ρ (upd H b (some (.ice vs.length [vs]))) w:=hm.relax (by simp[live]) (by simp[h,solid]) (by
  obtain ⟨bn,c,hp,xs,T,fr,hh,⟨hf,rfl,hfr⟩,hall⟩:=hm.blks b _ h;have hr:=allV_rep hv hall;have hl:=hr.length;refine ⟨by simp,_,hp,by simp,xs,T,fr,hh,⟨hf,.inr hfr⟩,by simp at hl ⊢;omega,fun i r j v hi hj=>?_⟩
  cases i with
  | zero =>
   cases hi;obtain ⟨x,hx,hv'⟩:=hr.get hj
   exact ⟨x,by simpa using hx,hv'.mono (Keep.refl _ _) fun b _ hb=>Z6 (by simp[live]) hb⟩
  | succ i=>simp at hi)
 exact ⟨.refl _,Keep.refl _ _,fun x _ hx=>Z6 (by simp[live]) hx,hmem⟩
theorem still_q (hm:Mem own0 mt w0 ρ H w) {b k:Nat} {vs:List V} (h:H b=some (.ice k [vs])) {u:Value} (hd:RepD w (Ow own0 ρ H) ρ (.p b 0) u):RepD w (Ow own0 ρ H) ρ (.q vs) u:=by
 obtain ⟨bn,z,c,hp,rfl⟩:=hd;obtain ⟨_,m,hp',hb⟩:=hm.blks b _ h;rw[hp]at hp';cases hp';obtain ⟨_,xs,T,fr,hh,_,_,h3⟩:=hb;refine ⟨_,rfl,fun j v hj=>?_⟩;obtain ⟨x,hx,hv⟩:=h3 0 vs j v rfl hj;refine ⟨x,?_,hv,fun ho=>?_⟩
 .rw[Zw,Yi hh];simpa using hx
 .rcases ho with ho|⟨j,base,cap,hj,hl⟩
  .exact (hm.fresh b _ _ _ hp).2.2 ho
  .by_cases e:j=b
   .subst e;rw[h]at hl;simp[live]at hl
   .exact hm.inj j b _ _ _ _ _ _ (Yu hl) (by rw[h];rfl) hj hp e rfl
theorem capsE_sound:∀ {ds:List D} {us:List Value} {H:Nat->Option Blk} {vss:List (List V)} {ups:Ups},Mem own0 mt w0 ρ H w->All2 (RepD w (Ow own0 ρ H) ρ) ds us->capsE H ds=some (vss,ups) ->
 Step own0 mt w0 ρ H w ρ (updL H ups) w/\All2 (fun cs u=>RepD w (Ow own0 ρ (updL H ups)) ρ (.q cs) u) vss us
 | [],[],H,vss,ups,hm,_,h=>by cases h;exact ⟨Step.refl hm,trivial⟩
 | [],_::_,_,_,_,_,h,_=>h.elim
 | _::_,[],_,_,_,_,h,_=>h.elim
 | d::ds,u::us,H,vss,ups,hm,⟨hd,ha⟩,h=>by
  unfold capsE at h
  split at h
  .rename_i heq;cases heq
  .rename_i b r heq;cases heq
   split at h
   .rename_i cs hb
    split at h
    .rename_i vs hvs
     split at h
     .rename_i vss' u' hrec;cases h;have hk:=Step.still hm hb hvs;obtain ⟨s2,h2⟩:=capsE_sound hk.mem (ha.mono fun _ _ h=>hk.rep h) hrec;refine ⟨hk.trans s2,?_,h2⟩;obtain ⟨bn,c,hp,xs,T,fr,hh,_,hall⟩:=hm.blks b _ hb;obtain ⟨bn',z,c',hp',rfl⟩:=hd;rw[hp]at hp';cases hp';have hv:=allV_rep hvs hall;refine ⟨⟨bn,0,none⟩,rfl,fun j v hj=>?_⟩;obtain ⟨x,hx,hr⟩:=hv.get hj;refine ⟨x,?_,(hr.mono (Keep.refl _ _) (fun b hb h=>hk.ow b hb (s2.ow b hb h))),fun ho=>?_⟩
      .rw[Zw,Yi hh,Nat.zero_add];simpa using hx
      .have hlt:bn<w.heap.size:=(Array.getElem?_eq_some_iff.1 hh).1;have ho:=s2.ow bn hlt ho;rcases ho with ho|⟨j,base,cap,hj,hl⟩
       .exact (hm.fresh b _ _ _ hp).2.2 ho
       .by_cases e:j=b
        .subst e;simp[live]at hl
        .rw[Zg _ _ e]at hl;exact hm.inj j b _ _ _ _ _ _ (Yu hl) (by rw[hb];rfl) hj hp e rfl
     .cases h
    .cases h
   .rename_i k vs hb
    split at h
    .rename_i vss' u' hrec;cases h;obtain ⟨s2,h2⟩:=capsE_sound hm ha hrec;exact ⟨s2,s2.rep (d:=.q vs) (still_q hm hb hd),h2⟩
    .cases h
   .cases h
  .rename_i cs r heq;cases heq
   split at h
   .rename_i vss' u' hrec;cases h;obtain ⟨s2,h2⟩:=capsE_sound hm ha hrec;exact ⟨s2,s2.rep (d:=.q cs) hd,h2⟩
   .cases h
  .cases h
theorem mk_f {fn:Nat} {caps:List (List V)} {us:List Value} (h:All2 (fun cs u=>RepD w ow ρ (.q cs) u) caps us):RepV w ow (.f fn caps) (.func (.func fn) #[] us.toArray):=by
 have key:∀ {caps:List (List V)} {us:List Value},All2 (fun cs u=>RepD w ow ρ (.q cs) u) caps us->∃ads:List Addr,ads.length=caps.length/\us=ads.map (fun a=>Value.pointer (some a)) /\
  ∀(i:Nat) (ad:Addr) (r:List V) (j:Nat) (v:V),ads[i]?=some ad->caps[i]?=some r->r[j]?=some v->∃x,w.cell? (ad.add j)=some x/\RepV w ow v x/\¬ow ad.block:=by
  intro caps
  induction caps with
  | nil =>
   intro us h
   cases us with
   | nil=>exact ⟨[],rfl,rfl,fun i ad r j v h=>by simp at h⟩
   | cons _ _=>exact h.elim
  | cons cs caps ih =>
   intro us h
   cases us with
   | nil=>exact h.elim
   | cons u us =>
    obtain ⟨⟨ad,rfl,h0⟩,h1⟩:=h;obtain ⟨ads,e1,rfl,e3⟩:=ih h1;refine ⟨ad::ads,by simp[e1],rfl,fun i ad' r j v ha hi hj=>?_⟩
    cases i with
    | zero=>simp at ha hi;subst ha;subst hi;exact h0 j v hj
    | succ i=>exact e3 i ad' r j v (by simpa using ha) (by simpa using hi) hj
 obtain ⟨ads,e1,rfl,e3⟩:=key h;refine .f fn caps ads (fun i j=>((ads[i]?).bind fun ad=>w.cell? (ad.add j)).getD undef) e1 (fun i ad r j v ha hi hj=>?_) (fun i r j v hi hj=>?_)
 .obtain ⟨x,hx,_,hn⟩:=e3 i ad r j v ha hi hj;simp[ha,hx,hn]
 .have hlt:=(List.getElem?_eq_some_iff.1 hi).1;obtain ⟨x,hx,hv,_⟩:=e3 i (ads[i]'(by omega)) r j v (List.getElem?_eq_getElem (by omega)) hi hj;simp[List.getElem?_eq_getElem (show i<ads.length by omega),hx,hv]
theorem rep_f {fn:Nat} {caps:List (List V)} {u:Value} (h:RepV w ow (.f fn caps) u):∃us:List Value,u=.func (.func fn) #[] us.toArray/\All2 (fun cs u=>RepD w ow ρ (.q cs) u) caps us:=by
 cases h with
 | f _ _ ads g hn hc hr =>
  refine ⟨_,rfl,All2.of_get (by simp[hn]) fun i r u hi hu=>?_⟩;simp only[List.getElem?_map,Option.map_eq_some_iff]at hu;obtain ⟨ad,ha,rfl⟩:=hu;refine ⟨ad,rfl,fun j v hj=>?_⟩;obtain ⟨h1,h2⟩:=hc i ad r j v ha hi hj;exact ⟨_,h1,hr i r j v hi hj,h2⟩
theorem makeFunc_sound (hm:Mem own0 mt w0 ρ H w) {fn:Fn} {first:Array Operand} {ds:List D} {us:List Value} (f:Operand->Value) (hd:All2 (RepD w (Ow own0 ρ H) ρ) ds us) (hg:(makeFuncE H fn first ds).gives P (d',ups)) :
 MRun P own0 mt w0 ρ H w (Instr.makeFunc fn (first.map f) us.toArray) ups fun w' ow' ρ' v=>RepD w' ow' ρ' d' v:=by
 unfold makeFuncE at hg
 split at hg
 .rename_i fi
  split at hg
  .rename_i hf
   split at hg
   .rename_i vss u hc;have hg':(d',ups)=(_,_):=hg;cases hg';obtain ⟨s,h⟩:=capsE_sound hm hd hc;have e:first.map f=#[]:=by apply Array.eq_empty_of_size_eq_zero;simpa using hf
    refine ⟨_,w,ρ,by rw[e];rfl,s,mk_f h⟩
   .exact hg.elim
  .exact hg.elim
 .exact hg.elim
theorem cap_sound {t:TypeId} {ty:Ty} (ht:TyOk P t ty) {d:D} {u:Value} (hd:RepD w ow ρ d u) {ts:Array TypeId} (hts:ts[0]?=some t) (T:TypeId)
 (hg:(capE ty d).gives P (d',ups)):ups=[]/\∃r,(Builtin.cap_ ts T #[u]).run P w=.ok r w/\RepD w ow ρ d' r:=by
 unfold capE at hg;have hu:=ht.under
 split at hg
 .rename_i hdesc;rw[hdesc]at hu
  split at hg
  .obtain ⟨rfl,_⟩:=rep_x hd;exact ok_x hg rfl (by simp[Builtin.cap_,hts,run_underlying hu,goInt])
  .exact hg.elim
 .exact hg.elim
theorem bytes_news:∀ {rows:List (List V)} {news:List Value},areBytes rows->All2 (RepV w ow) rows.flatten news->∃ns:List Int,news=ns.map (Value.int .u8)/\rows.map byteOf=ns.map fun n=>UInt8.ofNat n.toNat
 | [],[],_,_=>⟨[],rfl,rfl⟩
 | [],_::_,_,h=>h.elim
 | r::rows,news,hb,h=>by
  have h0:isByte r:=hb r (by simp)
  have:∃n:Int,r=[.x (.int .u8 n)]:=by
   unfold isByte at h0
   split at h0
   .exact ⟨_,rfl⟩
   .exact h0.elim
  obtain ⟨n,rfl⟩:=this
  cases news with
  | nil=>exact h.elim
  | cons x news =>
   obtain ⟨h1,h2⟩:=h;obtain ⟨ns,rfl,h3⟩:=bytes_news (fun r hr=>hb r (by simp[hr])) h2;cases h1;exact ⟨n::ns,rfl,by simp only[List.map_cons,h3];rfl⟩
theorem run_bytes_str {src dst e:TypeId} (hs:P.underlying src=some (.slice e)) (he:P.underlying e=some (.int .u8)) (hd:P.underlying dst=some .string) {rows:List (List V)} (hb:areBytes rows) {a:Option Addr} {n c:Nat}
 (h:Source P w ow 1 rows (.slice a n c)):(Go.convert src dst (.slice a n c)).run P w=.ok (.string (strRows rows)) w:=by
 obtain ⟨hl,news,hn,hf⟩:=h
 have e1:n=rows.length:=by
  have:=hl w;simpa[Builtin.lenOf] using this
 subst e1;have hf:=hf w fun _=>rfl;obtain ⟨ns,rfl,hns⟩:=bytes_news hb hn;rw[run_convert_bytes_string w src dst e _ _ c hs he hd]
 cases a with
 | none =>
  have h0:ns=[]:=by
   simp only[Builtin.firstCells,Sem.run_pure,Result.ok.injEq,and_true]at hf;have:=congrArg Array.toList hf;simpa using this.symm
  subst h0;simp[Conv.bytesToString,strRows,hns]
  rfl
 | some ad =>
  have hf:(loadCells ad rows.length).run P w=.ok (ns.map (Value.int .u8)).toArray w:=by simpa[Builtin.firstCells] using hf
  rw[run_bytesToString w ad _ c ns hf,foldl_push_bytes];simp[strRows,hns,ByteArray.empty,ByteArray.emptyWithCapacity];rfl
theorem bytesWorld_eq (e:TypeId) (s:ByteArray):Go.Lib.bytesWorld w e s=w.drew.alloc (.cells (Go.Lib.bytesCells w e s) e ((Go.Lib.bytesCells w e s).size,(Go.Lib.bytesCells w e s).size+1)):=by
 simp only[Go.Lib.bytesWorld,World.freeze,World.alloc,World.drew];rw[if_neg (by decide)];congr 1;apply Array.ext';simp[Array.toList_modify,List.modify_eq_set]
theorem conv_sound (hΓ:TysOk P Γ) (hm:Mem own0 mt w0 ρ H w) {nx:Nat} (hnx:H nx=none) {s t:TypeId} {d:D} {u:Value} (hd:RepD w (Ow own0 ρ H) ρ d u) (hg:(convHE Γ H nx s t d).gives P (d',ups)) :
 MRun P own0 mt w0 ρ H w (Go.convert s t u) ups fun w' ow' ρ' v=>RepD w' ow' ρ' d' v:=by
 have old:(convE Γ s t d).gives P (d',ups)->MRun P own0 mt w0 ρ H w (Go.convert s t u) ups fun w' ow' ρ' v=>RepD w' ow' ρ' d' v:=fun hg=>by
  obtain ⟨rfl,v,hr,hd⟩:=convE_sound hΓ hd hg;exact MRun.pure hm hr hd
 unfold convHE at hg
 split at hg
 .rename_i tys tyd hts htd;have hts':=(hΓ _ _ hts).under;have htd':=(hΓ _ _ htd).under
  split at hg
  .rename_i hdd;rw[hdd]at htd'
   split at hg
   .rename_i e hds;rw[hds]at hts'
    split at hg
    .rename_i te hte;have hte':=(hΓ _ _ hte).under
     split at hg
     .rename_i hde;rw[hde]at hte'
      split at hg
      .rename_i rows hrows;obtain ⟨⟨hb,hlen⟩,hg⟩:=hg;have hg':(d',ups)=(_,_):=hg;cases hg'
       have hk:∀r,r∈rows->r.length=1:=fun r hr=>by
        have:=hb r hr;unfold isByte at this
        split at this
        .rfl
        .exact this.elim
       have hsrc:=source_rows (P:=P) hm hd hrows hk hlen
       have:∃a n c,u=.slice a n c:=by
        have:=hsrc.1 w;cases u<;>first|exact ⟨_,_,_,rfl⟩|skip
        all_goals
         unfold rowsOf at hrows
         split at hrows
         .obtain ⟨a,c,h,_⟩:=rep_s (show RepV w _ (.s _ _) _ from hd);cases h
         .have:=rep_nil hd;cases this
         .obtain ⟨m,_,h⟩:=hd
          cases m with
          | nil=>obtain ⟨_,_,h⟩:=h;cases h
          | blk b base cap=>obtain ⟨h,_⟩:=h;cases h
         .cases hrows
       obtain ⟨a,n,c,rfl⟩:=this;exact MRun.pure hm (run_bytes_str hts' hte' htd' hb hsrc) (RepV.x _ rfl)
      .exact hg.elim
     .exact hg.elim
    .exact hg.elim
   .exact old hg
  .rename_i e hdd;rw[hdd]at htd'
   split at hg
   .rename_i te hte;have hte':=(hΓ _ _ hte).under
    split at hg
    .rename_i hde;rw[hde]at hte'
     split at hg
     .rename_i str;have hg':(d',ups)=(_,_):=hg;cases hg';obtain ⟨rfl,_⟩:=rep_x hd;have hrun:=Go.Lib.run_convert_string_bytes (P:=P) w s t e str hts' htd' hte';rw[bytesWorld_eq]at hrun;have hge:=grownCap_ge w str.size 0 e;have hl:str.data.size=str.size:=rfl;refine ⟨_,_,_,hrun,(Step.drew hm).trans (Step.new (Step.drew hm).mem hnx (c:=grownCap w str.size 0 e) ⟨fun r hr=>?_,.blk w.drew.heap.size 0 (grownCap w str.size 0 e),by rw[upd_same],?_,_,_,_,heap_alloc_new _ _,⟨.inr (Nat.le_refl _),.inl rfl⟩,?_,fun i r j v hi hj=>?_⟩),.blk w.drew.heap.size 0 (grownCap w str.size 0 e),by rw[upd_same],rfl,hge⟩
      .obtain ⟨b,_,rfl⟩:=List.mem_map.1 hr;rfl
      .simpa[bytesRows] using hge
      .simp[Go.Lib.bytesCells];omega
      .simp only[bytesRows,List.getElem?_map,Option.map_eq_some_iff]at hi;obtain ⟨b,hb,rfl⟩:=hi
       have hj0:j=0:=by
        have:=(List.getElem?_eq_some_iff.1 hj).1;simp at this;exact this
       subst hj0;simp at hj;subst hj;have hlt:=(List.getElem?_eq_some_iff.1 hb).1;refine ⟨.int .u8 b.toNat,?_,RepV.x _ rfl⟩;simp only[Go.Lib.bytesCells,Nat.zero_add,Nat.mul_one,Nat.add_zero];rw[Array.getElem?_append_left (by simpa using hlt)];simp at hb ⊢;simp[hb]
     .rename_i r n
      split at hg
      .rename_i k rows hr;obtain ⟨⟨rfl,hn,hk1⟩,hg⟩:=hg;have hg':(d',ups)=(_,_):=hg;cases hg';obtain ⟨hrl,m,hm',hrow⟩:=hm.blks r _ hr;obtain ⟨m',hm'',hc⟩:=hd;rw[hm']at hm'';cases hm''
       cases m with
       | nil=>obtain ⟨rfl,_⟩:=hc;omega
       | blk b base cap =>
        obtain ⟨rfl,hle⟩:=hc;obtain ⟨hcap,vs,T',fr,hh,hf,h2,h3⟩:=hrow;clear hts';have hlive:live (H r)=true:=by rw[hr];rfl
        have hlt:b<w.heap.size:=(Array.getElem?_eq_some_iff.1 hh).1
        have hfz:w.freeze ⟨b,vs.size,none⟩ 1=setBlk w b (.cells vs T' (if fr.1=fr.2 then (vs.size,vs.size+1) else (min fr.1 vs.size,max fr.2 (vs.size+1)))):=by
         have hget:w.heap[b]'hlt=.cells vs T' fr:=by
          have:=Array.getElem?_eq_getElem hlt;rw[hh]at this;exact (Option.some.inj this).symm
         obtain ⟨lo,hi⟩:=fr;simp only[World.freeze,setBlk];rw[if_neg (by decide)];congr 1;apply Array.ext_getElem?;intro i;by_cases e:b=i
         .subst e;rw[Array.getElem?_setIfInBounds_self_of_lt hlt,Array.getElem?_modify,if_pos rfl,hh];simp
         .rw[Array.getElem?_setIfInBounds_ne e,Array.getElem?_modify,if_neg e]
        have hf':RFr k vs (if fr.1=fr.2 then (vs.size,vs.size+1) else (min fr.1 vs.size,max fr.2 (vs.size+1))):=by
         refine ⟨?_,.inl hk1⟩
         split
         .exact .inr (Nat.le_refl _)
         .rename_i hne;refine .inr ?_;rcases hf.1 with h|h
          .exact absurd h hne
          .simp only[];omega
        refine ⟨_,_,ρ,?_,Step.write hm hm' hlive rfl (T:=T') (vs:=vs) (fr:=if fr.1=fr.2 then (vs.size,vs.size+1) else (min fr.1 vs.size,max fr.2 (vs.size+1))) ⟨hrl,_,hm',hcap,vs,T',_,Yh hlt,hf',h2,fun i r' j v hi hj=>?_⟩,_,hm',rfl,hle⟩
        .rw[<-hfz];have hsh:w.shape? b=some (T',vs.size):=by simp[World.shape?,hh]
         simp[Go.convert,run_underlying htd',run_underlying hte',markStringish,hsh,Result.andThen]
        .obtain ⟨x,hx,hv⟩:=h3 i r' j v hi hj;exact ⟨x,hx,hv.mono (Keep.setBlk (.inr ⟨r,_,_,hm',hlive⟩) _) fun _ _ h=>h⟩
      .exact hg.elim
     .exact hg.elim
    .exact hg.elim
   .exact hg.elim
  .exact old hg
 .exact hg.elim
theorem run_append_zeros (ts:Array TypeId) (T t0 t1 e:TypeId) (k:IntKind) (te:Ty) (h0:ts[0]?=some t0) (h1:ts[1]?=some t1) (ht0:P.underlying t0=some (.slice e)) (ht1:P.underlying t1=some (.int k))
 (hte:TyOk P e te) (w:World) (k':IntKind) (n:Nat) (hsz:te.size≠0) (hn:0<n) (h63:n<=70368744177664) (h48:n*te.bytes<=70368744177664) :
 (Builtin.append_ ts T #[.slice none 0 0,.int k' n]).run P w =
  .ok (.slice (some ⟨w.heap.size,0,none⟩) n (grownCap w n 0 e)) (w.drew.alloc (.cells ((Builtin.zeroCells te.zero.cells n).toList++(Builtin.zeroCells te.zero.cells (grownCap w n 0 e - n)).toList).toArray e)):=by
 obtain ⟨i,hi,hiz,his,hib⟩:=hte.info;have hn':¬n=0:=by omega
 have hw:IntKind.i64.wrap (n:Int)=(n:Int):=by
  simp only[IntKind.wrap,IntKind.bits,IntKind.signed];simp;omega
 have h63':¬(9223372036854775807<(n:Int)):=by omega
 have h48':¬(281474976710656<Builtin.nextslicecap n 0*i.bytes):=by
  have:=nextslicecap_le (need:=n) (old:=0) (by omega);have h2:Builtin.nextslicecap n 0*i.bytes<=(2*n)*i.bytes:=Nat.mul_le_mul_right _ this;rw[hib]at h2 ⊢;rw[Nat.mul_assoc]at h2;omega
 have h48i:¬(281474976710656<(n:Int)*(i.bytes:Int)):=by
  rw[hib];have:(n:Int)*(te.bytes:Int)=((n*te.bytes:Nat):Int):=by simp
  rw[this];omega
 have hns:¬(n*te.size=0):=Nat.mul_ne_zero hn' hsz;have hneg:¬((n:Int)<0):=by omega
 simp[Builtin.append_,h0,h1,run_underlying ht0,run_underlying ht1,Zr hte,hw,hn',typeInfo,hi,h63',h48',h48i,Question.forced,run_zero hte,newRow,grownCap,asInt,asIntOf,Builtin.firstCells,hns,hneg];congr 2;apply Array.ext';simp
theorem appendN_sound (hΓ:TysOk P Γ) (hm:Mem own0 mt w0 ρ H w) {nx:Nat} (hnx:H nx=none) {ts:Array TypeId} {s:D} {us ux:Value} {k':IntKind} {n:Int} (hs:RepD w (Ow own0 ρ H) ρ s us) (hx:RepD w (Ow own0 ρ H) ρ (.x (.int k' n)) ux) (T:TypeId)
 (hg:(appendNE Γ ts nx s n).gives P (d',ups)):MRun P own0 mt w0 ρ H w (Builtin.append_ ts T #[us,ux]) ups fun w' ow' ρ' v=>RepD w' ow' ρ' d' v:=by
 unfold appendNE at hg
 split at hg
 .rename_i t0 t1 h0 h1
  split at hg
  .rename_i ty0 ty1 hy0 hy1;have ht0:=(hΓ _ _ hy0).under;have ht1:=(hΓ _ _ hy1).under
   split at hg
   .rename_i e k hd0 hd1;rw[hd0]at ht0;rw[hd1]at ht1
    split at hg
    .rename_i te hte;have hte:=hΓ _ _ hte
     split at hg
     .obtain ⟨⟨hsz,hn,h63,h48⟩,hg⟩:=hg;have hg':(d',ups)=(_,_):=hg;cases hg';have:=rep_nil hs;subst this;have hux:=(rep_x hx).1;subst hux;obtain ⟨m,rfl⟩:∃m:Nat,n=m:=⟨n.toNat,by omega⟩
      have h48':m*te.bytes<=70368744177664:=by
       have:(m:Int)*(te.bytes:Int)=((m*te.bytes:Nat):Int):=by simp
       rw[this]at h48;omega
      have hrun:=run_append_zeros (P:=P) ts T t0 t1 e k te h0 h1 ht0 ht1 hte w k' m hsz (by omega) (by omega) h48';have hge:=grownCap_ge w m 0 e;simp only[Int.toNat_natCast]
      have hz:All2 (RepV w.drew (Ow own0 ρ H)) (List.replicate m (zeroV te)).flatten (Builtin.zeroCells te.zero.cells m).toList:=by
       rw[Yv hte];clear hrun hge h48' hn h63 h48 hg hx
       induction m with
       | zero=>trivial
       | succ m ih =>
        simp only[List.replicate_succ,List.flatten_cons];refine All2.append ?_ ih;have hz:=all2_zero (w:=w.drew) (ow:=Ow own0 ρ H) (ρ:=ρ) hte;unfold zeroV;generalize te.zero.cells.toList=l at hz
        induction l with
        | nil=>trivial
        | cons x l ih=>exact ⟨hz.1,ih hz.2⟩
      have hk:∀x,x∈List.replicate m (zeroV te)->x.length=te.size:=fun x h=>by
       rw[(List.mem_replicate.1 h).2];simp[zeroV,hte.zsize]
      have hst:=newRow_step (Step.drew hm).mem hnx hte (rows:=List.replicate m (zeroV te)) (cap:=grownCap w m 0 e) hk hz (by simpa using hge)
       (Builtin.zeroCells te.zero.cells (grownCap w m 0 e - m)).toList (by simp[zeroCells_len hte]) e
      exact ⟨_,_,_,hrun,(Step.drew hm).trans hst,.blk w.drew.heap.size 0 (grownCap w m 0 e),by rw[upd_same],rfl,hge⟩
     .exact hg.elim
    .exact hg.elim
   .exact hg.elim
  .exact hg.elim
 .exact hg.elim
theorem run_makeSlice {t e:TypeId} {te:Ty} (hu:P.underlying t=some (.slice e)) (hte:TyOk P e te) (w:World) (k k':IntKind) (l c:Nat) (hl:l<=c) (h63:c<=70368744177664) (h48:c*te.bytes<=70368744177664) :
 (Instr.makeSlice t (.int k l) (.int k' c)).run P w=.ok (.slice (some ⟨w.heap.size,0,none⟩) l c) (w.alloc (.cells (Builtin.zeroCells te.zero.cells c) e)):=by
 obtain ⟨i,hi,hiz,his,hib⟩:=hte.info
 have wl:∀n:Nat,n<=70368744177664->IntKind.i64.wrap (n:Int)=(n:Int):=fun n hn=>by
  simp only[IntKind.wrap,IntKind.bits,IntKind.signed];simp;omega
 have h48i:∀n:Nat,n<=c->¬(281474976710656<(i.bytes:Int)*(n:Int)):=fun n hn=>by
  rw[hib];have h1:n*te.bytes<=c*te.bytes:=Nat.mul_le_mul_right _ hn;have:(te.bytes:Int)*(n:Int)=((n*te.bytes:Nat):Int):=by rw[Int.mul_comm];simp
  rw[this];omega
 have hneg:∀n:Nat,¬((n:Int)<0):=fun n=>by omega
 have hlc:¬((l:Int)>(c:Int)):=by omega
 have hz:=hte.zsize;by_cases hn:c*te.size=0
 .simp[Instr.makeSlice,run_underlying hu,asInt,asIntOf,typeInfo,hi,wl c h63,wl l (by omega),h48i c (Nat.le_refl _),hneg,hlc,Zr hte,hn,newRow,Builtin.zeroCells,hz];have hr:Array.range 0=#[]:=rfl;rw[hr,Array.map_empty,Array.map_empty]
 .simp[Instr.makeSlice,run_underlying hu,asInt,asIntOf,typeInfo,hi,wl c h63,wl l (by omega),h48i c (Nat.le_refl _),hneg,hlc,Zr hte,hn,newRow,Builtin.zeroCells,hz,run_zero hte]
theorem makeSlice_sound (hΓ:TysOk P Γ) (hm:Mem own0 mt w0 ρ H w) {nx:Nat} (hnx:H nx=none) {t:TypeId} {ty:Ty} (ht:TyOk P t ty) {d e:D} {u v:Value} (hd:RepD w (Ow own0 ρ H) ρ d u) (he:RepD w (Ow own0 ρ H) ρ e v)
 (hg:(makeSliceE Γ ty nx d e).gives P (d',ups)):MRun P own0 mt w0 ρ H w (Instr.makeSlice t u v) ups fun w' ow' ρ' v=>RepD w' ow' ρ' d' v:=by
 unfold makeSliceE at hg;have hu:=ht.under
 split at hg
 .rename_i k l k' c
  split at hg
  .rename_i el hdesc;rw[hdesc]at hu
   split at hg
   .rename_i te hte;have hte:=hΓ _ _ hte;obtain ⟨⟨hsz,h0,hlc,h48,h63⟩,hg⟩:=hg;have hg':(d',ups)=(_,_):=hg;cases hg';have e1:=(rep_x hd).1;have e2:=(rep_x he).1;subst e1 e2;obtain ⟨m,rfl⟩:∃m:Nat,l=m:=⟨l.toNat,by omega⟩
    obtain ⟨n,rfl⟩:∃n:Nat,c=n:=⟨c.toNat,by omega⟩
    have h48':n*te.bytes<=70368744177664:=by
     have:(n:Int)*(te.bytes:Int)=((n*te.bytes:Nat):Int):=by simp
     rw[this]at h48;omega
    have hmn:m<=n:=by omega
    have hrun:=run_makeSlice (P:=P) hu hte w k k' m n hmn (by omega) h48';simp only[Int.toNat_natCast]
    have hz:All2 (RepV w (Ow own0 ρ H)) (List.replicate m (zeroV te)).flatten (Builtin.zeroCells te.zero.cells m).toList:=by
     rw[Yv hte];clear hrun h48' h63 h48 hg hlc h0 hd hmn
     induction m with
     | zero=>trivial
     | succ m ih =>
      simp only[List.replicate_succ,List.flatten_cons];refine All2.append ?_ ih;have hz:=all2_zero (w:=w) (ow:=Ow own0 ρ H) (ρ:=ρ) hte;unfold zeroV;generalize te.zero.cells.toList=l at hz
      induction l with
      | nil=>trivial
      | cons x l ih=>exact ⟨hz.1,ih hz.2⟩
    have hk:∀x,x∈List.replicate m (zeroV te)->x.length=te.size:=fun x h=>by
     rw[(List.mem_replicate.1 h).2];simp[zeroV,hte.zsize]
    have hst:=newRow_step hm hnx hte (rows:=List.replicate m (zeroV te)) (cap:=n) hk hz (by simpa using hmn)
     (Builtin.zeroCells te.zero.cells (n - m)).toList (by simp[zeroCells_len hte]) el
    have ecells:((Builtin.zeroCells te.zero.cells m).toList++(Builtin.zeroCells te.zero.cells (n - m)).toList).toArray=Builtin.zeroCells te.zero.cells n:=by
     apply Array.ext';simp only[];rw[Yv hte,Yv hte,Yv hte,<-List.flatten_append,List.replicate_append_replicate];congr 2;omega
    rw[ecells]at hst;exact ⟨_,_,_,hrun,hst,.blk w.heap.size 0 n,by rw[upd_same],rfl,hmn⟩
   .exact hg.elim
  .exact hg.elim
 .exact hg.elim
end
end Eng
end Go.Proofs.YtgenjpingdkmgaaGreatDoor
