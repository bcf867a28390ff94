/- Contracts of functions that this seat's law calls. No condition. -/
import Derived.Lib.Bytealg
import Derived.Laws.Externs
import Derived.Lib.Overlaps
import Derived.Test.YtgenjpingdkmgaaGreatDoorG15
set_option maxRecDepth 100000
set_option linter.unusedSimpArgs false
set_option linter.unusedVariables false
open Go.Proofs.Tryz
namespace Go.Proofs.YtgenjpingdkmgaaGreatDoor
namespace Eng
namespace NS
def smallB (n:Int):Bool:=decide (0<=n) && decide (n<=1099511627776)
theorem small_c (n:Int):ACall prog 57 [] [I n] (B (smallB n)) []:=by
 have hch:True:=trivial;refine Ac func57 ?_;refine Wk @hch trivial ?_;refine Fn @results57 @hch ?_;try exact ⟨⟩
 rfl
theorem mwhen_c (n:Int):ACall prog 58 [] [I n] (B (whenB n)) []:=by
 have hch:True:=trivial;refine Ac func58 ?_;refine Wk @hch trivial ?_;refine Fn @results58 @hch ?_;try exact ⟨⟩
 rfl
def ixB (s:ByteArray):Int:=Lib.indexByte s.data.toList 1
theorem ix_x (s:ByteArray):XCall prog 282 [] [.e (.c (.v (.x (.string s)))),.e (.c (.v (.x (.int .u8 1))))] (I (ixB s)) []:=by
 intro own0 w ρ vs hm ha
 match vs,ha with
 | [a,b],⟨h1,h2,_⟩ =>
  obtain ⟨rfl,_⟩:=rep_x h1;obtain ⟨rfl,_⟩:=rep_x h2;refine ⟨.int .i64 (ixB s),ρ,?_,Sub.refl _,rep_x_mk rfl,hm⟩;show (callFunc 282 #[.string s,.int .u8 1]).run prog w=_;rw[run_callFunc_extern func282 (by kernel_rfl) (by kernel_rfl) (by kernel_rfl) (e:=Extern.BytealgIndexByte.indexByte) (by kernel_rfl),Lib.run_indexByteString];rfl
theorem ix45_c (s:ByteArray):ACall prog 247 [] [.e (.c (.v (.x (.string s)))),.e (.c (.v (.x (.int .u8 1))))] (I (ixB s)) []:=by
 have hch:True:=trivial;have hx:=ix_x s;refine Ac func247 ?_;refine Wk @hch @hx ?_;refine Fn @results247 @hch ?_;try exact ⟨⟩
theorem ix41_c (s:ByteArray):ACall prog 201 [] [.e (.c (.v (.x (.string s)))),.e (.c (.v (.x (.int .u8 1))))] (I (ixB s)) []:=by
 have hch:True:=trivial;have hx:=ix45_c s;refine Ac func201 ?_;refine Wk @hch @hx ?_;refine Fn @results201 @hch ?_;try exact ⟨⟩
def saysB (s:ByteArray):Bool:=decide ((s.size:Int)<=64) && decide (ixB s<0)
theorem says_c (s:ByteArray):ACall prog 287 [] [.e (.c (.v (.x (.string s))))] (B (saysB s)) []:=by
 have hch:True:=trivial;have hx:=ix41_c s;refine Ac func287 ?_;refine Wk @hch @hx ?_;refine Fn @results287 @hch ?_;try exact ⟨⟩
 rfl
def okB (c:Int):Bool:=decide (65<=c) && decide (c<=90) || decide (97<=c) && decide (c<=122) || decide (48<=c) && decide (c<=57)
def nameB (s:ByteArray):Bool:=decide (1<=s.size) && decide (s.size<=16) && (List.range s.size).all fun i=>okB (strAt s i).toNat
theorem name_c (s:ByteArray):ACall prog 56 [] [.e (.c (.v (.x (.string s))))] (B (nameB s)) []:=by
 have hx:True:=trivial;obtain ⟨r,hr⟩:∃r,nameB s=r:=⟨_,rfl⟩
 rw[hr];refine Ac func56 ?_;have hch:True:=trivial;refine Wk @hch @hx ?_;refine Cb ?_ ?_<;>intro hc<;>(try exact ⟨⟩)
 .have e:r=false:=by
   rw[<-hr];unfold nameB;rw[Bool.and_eq_false_iff,Bool.and_eq_false_iff,decide_eq_false_iff_not,decide_eq_false_iff_not];rcases hc with h|h
   .exact .inl (.inl (by omega))
   .exact .inl (.inr (by omega))
  subst e;refine Wk @hch @hx ?_;refine Fn @results56 @hch ?_;try exact ⟨⟩
 .have hb:((List.range s.size).all fun i=>okB (strAt s i).toNat)=r:=by
   rw[<-hr];unfold nameB;rw[decide_eq_true (by omega),decide_eq_true (by omega)];rfl
  refine Wk @hch @hx ?_
  refine AWp.loop (τ:=ren []) (fun k:Nat=>mkSt [(0,.e (.c (.v (.x (.string s))))),(14,I s.size),(15,I k)] [] 0)
   (fun k=>k<=s.size/\∀i,i<k->okB (strAt s i).toNat=true) (fun k=>s.size - k) 0 ⟨Nat.zero_le _,fun i hi=>by omega⟩ (by refine Le.of (τ:=[]) (ν:=[]) (by kernel_rfl) ?_ ?_<;>((refine Lw @hch ?_;try exact ⟨⟩);try omega)) fun k hs=>?_
  obtain ⟨hk,hi⟩:=hs;by_cases hks:k<s.size
  .obtain ⟨x,hx⟩:∃x:Nat,(strAt s k).toNat=x:=⟨_,rfl⟩
   have hch:=hx;have hx':=trivial;refine Wk @hch @hx ?_;refine Cb ?_ ?_<;>intro hc<;>(try exact ⟨⟩)
   .refine Wk @hch @hx ?_;refine Cb ?_ ?_<;>intro hc<;>(try exact ⟨⟩)
    .have e:r=false:=by
      rw[<-hb,Bool.eq_false_iff];intro h;have:=List.all_eq_true.1 h k (List.mem_range.2 hks);rw[hx]at this;simp only[okB,Bool.or_eq_true,Bool.and_eq_true,decide_eq_true_eq]at this;omega
     subst e;refine Wk @hch @hx ?_;refine Fn @results56 @hch ?_;try exact ⟨⟩
    .refine Wk @hch @hx ?_;refine Za (τ:=ren []) (ν:=[]) (k+1) ⟨hks,?_⟩ (by omega) ?_
     .intro i h;rcases Nat.lt_or_eq_of_le (Nat.le_of_lt_succ h) with h|rfl
      .exact hi i h
      .rw[hx];simp only[okB,Bool.or_eq_true,Bool.and_eq_true,decide_eq_true_eq];omega
     .refine Le.of (by kernel_rfl) ?_ ?_<;>((refine Lw @hch ?_;try exact ⟨⟩);try omega)
   .omega
  .obtain rfl:k=s.size:=by omega
   have e:r=true:=by
    rw[<-hb,List.all_eq_true];exact fun i h=>hi i (List.mem_range.1 h)
   subst e;refine Wk @hch @hx ?_;refine Cb ?_ ?_<;>intro hc<;>(try exact ⟨⟩)
   .omega
   .refine Wk @hch @hx ?_;refine Fn @results56 @hch ?_;try exact ⟨⟩
def ekB (m:Msg):Bool:=if m.ekind=4\/m.ekind=7\/m.ekind=8 then nameB m.ref else decide (m.ekind=1\/m.ekind=2\/m.ekind=3\/m.ekind=5\/m.ekind=6) && (m.ref.data.toList == (⟨#[]⟩:ByteArray).data.toList)
def exB (m:Msg):Bool:=nameB m.id && nameB m.order && nameB m.account && nameB m.symbol && ekB m && (smallB m.qty && smallB m.price && whenB m.etime)
end NS
namespace NS
theorem ex_c (m:Msg) (r:Bool) (hr:exB m=r):ACall prog 20 [] [.e (.a [.v (vS m.id),.v (vS m.ref),.v (vS m.order),.v (vS m.account),.v (vS m.symbol),.v (vI m.ekind),.v (vB m.buy),.v (vI m.qty),.v (vI m.price),.v (vI m.etime)])] (B r) []:=by
 have hch:True:=trivial;refine Ac func20 ?_
 iterate 14 (all_goals (try (refine Wk @hch (An @name_c (An @small_c @mwhen_c)) ?_));all_goals (try (refine Cb ?_ ?_<;>intro hc<;>(try exact ⟨⟩)));all_goals (try (exfalso;omega)))
 all_goals (refine Fn @results20 @hch ?_;try exact ⟨⟩)
 all_goals first|(subst hr;unfold exB ekB;simp_all;done)|(subst hr;unfold exB;rcases hc with ((h|h)|h)|h<;>simp[h])
end NS
structure Ask where
 kind:Int
 ven:Int
 o:Ord
 id:ByteArray
 x:Exe
 now:Int
 on:Bool
 l:NA.Lim
abbrev aC (a:Ask):List C:=[.v (vI a.kind),.v (vI a.ven),.v (vS a.o.id),.v (vS a.o.acc),.v (vS a.o.sym),.v (vB a.o.buy),.v (vI a.o.qty),.v (vI a.o.price),.v (vI a.o.done),.v (vB a.o.op),.v (vS a.id),
 .v (vS a.x.id),.v (vS a.x.ref),.v (vS a.x.ord),.v (vS a.x.acc),.v (vS a.x.sym),.v (vI a.x.kind),.v (vB a.x.buy),.v (vI a.x.qty),.v (vI a.x.price),.v (vI a.x.time),.v (vI a.now),.v (vB a.on),
 .v (vS a.l.acc),.v (vS a.l.sym),.v (vI a.l.long),.v (vI a.l.short),.v (vI a.l.qty),.v (vI a.l.value)]
abbrev aD (a:Ask):D:=.e (.a (aC a))
def venB (n:Int):Bool:=decide (0<=n) && decide (n<=9)
def qKA1:=PLift.up (An @Zh (An @getD_rI @getD_mapD))
theorem isVenue_c (n:Int):ACall prog 143 [] [I n] (B (venB n)) []:=by
 refine Ac func143 ?_;refine Wk qKA1.1 trivial ?_;refine Fn @results143 qKA1.1 ?_;try exact ⟨⟩
 rfl
theorem names_c (l:List ByteArray) (hl:l.length<=100) (r:Bool) (hr:l.all NS.nameB=r):ACall prog 144 [] [ssD l] (B r) []:=by
 refine Ac func144 ?_;refine Wk qKA1.1 @NS.name_c ?_;refine AWp.loop (fun k:Nat=>mkSt [(5,ssD l),(6,I l.length),(7,I k)] [] 0) (fun k=>k<=l.length/\∀i,i<k->NS.nameB (l.getD i default)=true) (fun k=>l.length - k) 0 ⟨Nat.zero_le _,fun i h=>by omega⟩ (by refine Le.of (τ:=[]) (ν:=[]) (by kernel_rfl) ?_ ?_<;>((refine Lw qKA1.1 ?_;try exact ⟨⟩);try omega)) fun k hk=>?_;obtain ⟨hk,hi⟩:=hk;refine Wk qKA1.1 @NS.name_c ?_;refine Cb ?_ ?_<;>intro hc<;>(try exact ⟨⟩)
 .have hkl:k<l.length:=by omega
  refine Wk qKA1.1 @NS.name_c ?_;refine Cb ?_ ?_<;>intro hc<;>(try exact ⟨⟩)
  .have e:r=false:=by
    rw[<-hr,List.all_eq_false];refine ⟨l.getD k default,?_,by rw[hc];decide⟩;rw[List.getD_eq_getElem?_getD,List.getElem?_eq_getElem hkl];exact List.getElem_mem hkl
   subst e;refine Wk qKA1.1 @NS.name_c ?_;refine Fn @results144 qKA1.1 ?_;try exact ⟨⟩
  .refine Wk qKA1.1 @NS.name_c ?_;refine Za (k+1) ⟨by omega,fun i h=>?_⟩ (by omega) (by refine Le.of (τ:=[]) (ν:=[]) (by kernel_rfl) ?_ ?_<;>((refine Lw qKA1.1 ?_;try exact ⟨⟩);try omega));rcases Nat.lt_or_eq_of_le (Nat.le_of_lt_succ h) with h|rfl
   .exact hi i h
   .simpa using hc
 .have e:r=true:=by
   rw[<-hr,List.all_eq_true];intro x hx;obtain ⟨i,h,rfl⟩:=List.getElem_of_mem hx;have:=hi i (by omega)
   rwa [List.getD_eq_getElem?_getD,List.getElem?_eq_getElem h]at this
  subst e;refine Wk qKA1.1 @NS.name_c ?_;refine Fn @results144 qKA1.1 ?_;try exact ⟨⟩
def numB (n:Int):Bool:=decide (0<=n) && decide (n<=4611686018427387904)
theorem numbers_c (l:List Int) (hl:l.length<=100) (r:Bool) (hr:l.all numB=r):ACall prog 145 [] [.e (.c (.v (sI l)))] (B r) []:=by
 refine Ac func145 ?_;refine Wk qKA1.1 @NS.name_c ?_;refine AWp.loop (fun k:Nat=>mkSt [(5,.e (.c (.v (sI l)))),(6,I l.length),(7,I k)] [] 0) (fun k=>k<=l.length/\∀i,i<k->numB (l.getD i 0)=true) (fun k=>l.length - k) 0 ⟨Nat.zero_le _,fun i h=>by omega⟩ (by refine Le.of (τ:=[]) (ν:=[]) (by kernel_rfl) ?_ ?_<;>((refine Lw qKA1.1 ?_;try exact ⟨⟩);try omega)) fun k hk=>?_;obtain ⟨hk,hi⟩:=hk;refine Wk qKA1.1 @NS.name_c ?_;refine Cb ?_ ?_<;>intro hc<;>(try exact ⟨⟩)
 .have hkl:k<l.length:=by omega
  refine Wk qKA1.1 @NS.name_c ?_;refine Cb ?_ ?_<;>intro hc<;>(try exact ⟨⟩)
  .have e:r=false:=by
    rw[<-hr,List.all_eq_false];refine ⟨l.getD k 0,?_,?_⟩
    .rw[List.getD_eq_getElem?_getD,List.getElem?_eq_getElem hkl];exact List.getElem_mem hkl
    .simp only[numB,Bool.and_eq_true,decide_eq_true_eq];omega
   subst e;refine Wk qKA1.1 @NS.name_c ?_;refine Fn @results145 qKA1.1 ?_;try exact ⟨⟩
  .refine Wk qKA1.1 @NS.name_c ?_;refine Za (k+1) ⟨by omega,fun i h=>?_⟩ (by omega) (by refine Le.of (τ:=[]) (ν:=[]) (by kernel_rfl) ?_ ?_<;>((refine Lw qKA1.1 ?_;try exact ⟨⟩);try omega));rcases Nat.lt_or_eq_of_le (Nat.le_of_lt_succ h) with h|rfl
   .exact hi i h
   .simp only[numB,Bool.and_eq_true,decide_eq_true_eq];omega
 .have e:r=true:=by
   rw[<-hr,List.all_eq_true];intro x hx;obtain ⟨i,h,rfl⟩:=List.getElem_of_mem hx;have:=hi i (by omega)
   rwa [List.getD_eq_getElem?_getD,List.getElem?_eq_getElem h]at this
  subst e;refine Wk qKA1.1 @NS.name_c ?_;refine Fn @results145 qKA1.1 ?_;try exact ⟨⟩
def mayK (a:Ask):Bool :=
 if a.kind=1 then venB a.ven && [a.o.id,a.o.acc,a.o.sym].all NS.nameB && [a.o.qty,a.o.price].all numB
 else if a.kind=2 then venB a.ven && [a.id,a.o.id].all NS.nameB && [a.o.qty,a.o.price].all numB
 else if a.kind=3 then venB a.ven && NS.exB { NS.zM with id:=a.x.id,ref:=a.x.ref,order:=a.x.ord,account:=a.x.acc,symbol:=a.x.sym,ekind:=a.x.kind,buy:=a.x.buy,qty:=a.x.qty,price:=a.x.price,etime:=a.x.time }
 else if a.kind=4 then [a.now].all numB
 else if a.kind=5 then true
 else if a.kind=6\/a.kind=7 then venB a.ven
 else if a.kind=8 then [a.l.acc,a.l.sym].all NS.nameB && [a.l.long,a.l.short,a.l.qty,a.l.value].all numB
 else false
def stI (v:Ven) (now pat:Int):Int :=
 if v.bk.bad≠0 then 4
 else if 256<=v.bk.ids.length\/64<=v.bk.ords.length+v.sent.length then 3
 else if pat<now - v.last then 2
 else if v.gap=true then 1 else 0
def worstG (g:Gat) (acc sym:ByteArray):Int×Int:=sumW (g.vens.map fun v=>addW (ofW v.bk acc sym) (pendW v.sent acc sym))
def oA (o:Ord):NA.Ord:=⟨o.id,o.acc,o.sym,o.buy,o.qty,o.price,o.done,o.op⟩
noncomputable def whyL (l:List NA.Lim) (o:Ord) (w:Int×Int):Int:=NA.whyF (NA.findL l o.acc o.sym).1 (NA.findL l o.acc o.sym).2 (oA o) w.1 w.2
noncomputable def whyG (g:Gat) (at_:Nat) (o:Ord):Int :=
 if g.kill=true then 8
 else if stI (g.vens.getD at_ default) g.now g.pat≠0 then 16+stI (g.vens.getD at_ default) g.now g.pat
 else whyL g.lims o (worstG g o.acc o.sym)
def hasO (l:List Ord) (id:ByteArray):Bool:=l.any fun o=>eqB o.id id
def knownV (v:Ven) (id:ByteArray):Bool:=hasO v.bk.ords id || hasO v.sent id
def isAt (g:Gat) (at_:Int):Prop:=0<=at_/\at_<g.vens.length
instance (g:Gat) (at_:Int):Decidable (isAt g at_):=by unfold isAt;infer_instance
def setV (g:Gat) (at_:Int) (v:Ven):Gat:={ g with vens:=g.vens.set at_.toNat v }
abbrev vat (g:Gat) (at_:Int):Ven:=g.vens.getD at_.toNat default
noncomputable def limitG (g:Gat) (x:NA.Lim):Gat×Int:=if (NA.setL g.lims x).2=0 then ({ g with lims:=(NA.setL g.lims x).1 },0) else (g,(NA.setL g.lims x).2)
def killG (g:Gat) (on:Bool):Gat×Int:=({ g with kill:=on },0)
def tickG (g:Gat) (now:Int):Gat×Int:=if now<g.now\/4611686018427387904<now then (g,1) else ({ g with now:=now },0)
def gapG (g:Gat) (at_:Int) (gap:Bool):Gat×Int:=if isAt g at_ then (setV g at_ { vat g at_ with gap:=gap },0) else (g,1)
def resetG (g:Gat) (at_:Int):Gat×Int :=
 if isAt g at_ then (if (vat g at_).bk.bad=0 then (g,8) else (setV g at_ { vat g at_ with bk:={ (vat g at_).bk with bad:=0 } },0)) else (g,1)
def newO (o:Ord):Ord:=⟨o.id,o.acc,o.sym,o.buy,o.qty,o.price,0,true⟩
noncomputable def orderG (g:Gat) (at_:Int) (o:Ord):Gat×Int×Int :=
 if ¬isAt g at_\/NO.mayB (newO o)=false then (g,0,1)
 else if knownV (vat g at_) o.id=true then (g,0,7)
 else if whyG g at_.toNat (newO o)≠0 then (g,whyG g at_.toNat (newO o),0)
 else (setV g at_ { vat g at_ with sent:=(vat g at_).sent++[newO o] },0,0)
def chgO (o:Ord) (id:ByteArray) (qty price:Int):Ord:=⟨id,o.acc,o.sym,o.buy,qty,price,o.done,o.op⟩
def morO (o:Ord):Ord:=⟨o.id,o.acc,o.sym,o.buy,o.qty - o.done,o.price,0,o.op⟩
noncomputable def changeG (g:Gat) (at_:Int) (old id:ByteArray) (qty price:Int):Gat×Int×Int :=
 if ¬isAt g at_ then (g,0,1)
 else if (NO.findS (vat g at_).bk.ords old).2=false\/(NO.findS (vat g at_).bk.ords old).1.op=false then (g,0,6)
 else if NO.mayB (chgO (NO.findS (vat g at_).bk.ords old).1 id qty price)=false then (g,0,1)
 else if knownV (vat g at_) id=true then (g,0,7)
 else if whyG g at_.toNat (morO (chgO (NO.findS (vat g at_).bk.ords old).1 id qty price))≠0 then (g,whyG g at_.toNat (morO (chgO (NO.findS (vat g at_).bk.ords old).1 id qty price)),0)
 else (setV g at_ { vat g at_ with sent:=(vat g at_).sent++[chgO (NO.findS (vat g at_).bk.ords old).1 id qty price] },0,0)
def exM (x:Exe):NS.Msg:={ NS.zM with id:=x.id,ref:=x.ref,order:=x.ord,account:=x.acc,symbol:=x.sym,ekind:=x.kind,buy:=x.buy,qty:=x.qty,price:=x.price,etime:=x.time }
def exB (x:Exe):Bool:=NS.exB (exM x)
def sentP (x:Exe) (o:Ord):Bool:=eqB o.id x.ord && (eqB o.acc x.acc && (eqB o.sym x.sym && (o.buy == x.buy && (o.qty == x.qty && (o.price == x.price && (o.done == 0 || x.kind == 4))))))
def sentI (l:List Ord) (x:Exe):Int:=fstI (sentP x) l
noncomputable def toldG (g:Gat) (at_:Int) (x:Exe):Gat×Int×Int :=
 if ¬isAt g at_\/exB x=false then (g,0,1)
 else if (takeS (vat g at_).bk x).2=2\/(takeS (vat g at_).bk x).2=4 then (g,(takeS (vat g at_).bk x).2,0)
 else if (x.kind=1\/x.kind=4)/\sentI (vat g at_).sent x<0 then
  (setV g at_ { vat g at_ with bk:={ (vat g at_).bk with ids:=(vat g at_).bk.ids++[x.id],bad:=2 } },3,0)
 else if (takeS (vat g at_).bk x).2=1 then
  (if x.kind=1\/x.kind=4 then setV g at_ { vat g at_ with bk:=(takeS (vat g at_).bk x).1,last:=g.now,sent:=(vat g at_).sent.eraseIdx (sentI (vat g at_).sent x).toNat }
   else setV g at_ { vat g at_ with bk:=(takeS (vat g at_).bk x).1,last:=g.now },1,0)
 else (setV g at_ { vat g at_ with bk:=(takeS (vat g at_).bk x).1 },3,0)
theorem indexG_c (l:List Ord) (p:Ord->Bool) (f:Nat) (cs:List V) (hclo:∀o,ACall prog f [] [NO.oD o,.q cs] (B (p o)) []) (hl:l.length<=1000000):ACall prog 126 [] [NO.osD l,.e (.c (.v (.f f [cs])))] (I (fstI p l)) []:=by
 refine Ac func126 ?_;refine Wk @NO.Ze @hclo ?_;refine AWp.loop (fun k:Nat=>mkSt [(0,NO.osD l),(1,.e (.c (.v (.f f [cs])))),(7,I l.length),(8,I k)] [] 0) (fun k=>k<=l.length/\∀i,i<k->p (l.getD i default)=false) (fun k=>l.length - k) 0 ⟨Nat.zero_le _,fun i hi=>by omega⟩ (by refine Le.of (τ:=[]) (ν:=[]) (by kernel_rfl) ?_ ?_<;>((refine Lw @NO.Ze ?_;try exact ⟨⟩);try omega)) fun k hk=>?_;obtain ⟨hk,ho⟩:=hk;refine Wk @NO.Ze @hclo ?_;refine Cb ?_ ?_<;>intro hc<;>(try exact ⟨⟩)
 .refine Wk @NO.Ze @hclo ?_;refine Cb ?_ ?_<;>intro hc<;>(try exact ⟨⟩)
  .refine Wk @NO.Ze @hclo ?_;have e:fstI p l=k:=fstI_some (by omega) ho hc;rw[e];refine Fn @results126 @NO.Ze ?_;try exact ⟨⟩
  .refine Wk @NO.Ze @hclo ?_;refine Za (k+1) ⟨by omega,fun i hi=>?_⟩ (by omega) (by refine Le.of (τ:=[]) (ν:=[]) (by kernel_rfl) ?_ ?_<;>((refine Lw @NO.Ze ?_;try exact ⟨⟩);try omega));by_cases e:i=k
   .subst e;simpa using hc
   .exact ho i (by omega)
 .refine Wk @NO.Ze @hclo ?_;have e:fstI p l=-1:=fstI_none fun i hi=>ho i (by omega);rw[e];refine Fn @results126 @NO.Ze ?_;try exact ⟨⟩
theorem contG_c (l:List Ord) (p:Ord->Bool) (f:Nat) (cs:List V) (hclo:∀o,ACall prog f [] [NO.oD o,.q cs] (B (p o)) []) (hl:l.length<=1000000) (r:Bool) (hr:l.any p=r):ACall prog 179 [] [NO.osD l,.e (.c (.v (.f f [cs])))] (B r) []:=by
 subst hr;rw[<-fstI_any];have hix:=indexG_c l p f cs hclo hl;refine Ac func179 ?_;refine Wk @NO.Ze @hix ?_;refine Fn @results179 @NO.Ze ?_;try exact ⟨⟩
theorem has1_c (id:ByteArray) (o:Ord):ACall prog 180 [] [NO.oD o,.q [vS id]] (B (eqB o.id id)) []:=by
 refine Ac func180 ?_;refine Wk @NO.Ze trivial ?_;refine Fn @results180 @NO.Ze ?_;try exact ⟨⟩
theorem has_c (l:List Ord) (id:ByteArray) (hl:l.length<=1000000) (r:Bool) (hr:hasO l id=r):ACall prog 121 [] [NO.osD l,StD id] (B r) []:=by
 have hcont:=contG_c l (fun o=>eqB o.id id) 180 [vS id] (has1_c id) hl r hr;refine Ac func121 ?_;refine Wk @NO.Ze @hcont ?_;refine Fn @results121 @NO.Ze ?_;try exact ⟨⟩
theorem known_c (v:Ven) (id:ByteArray) (h1:v.bk.ords.length<=1000000) (h2:v.sent.length<=1000000) (r:Bool) (hr:knownV v id=r):ACall prog 51 [] [vnD v,StD id] (B r) []:=by
 subst hr;have hhas1:=has_c v.bk.ords id h1 _ rfl;have hhas2:=has_c v.sent id h2 _ rfl;refine Ac func51 ?_;refine Wk @NO.Ze (An @hhas1 @hhas2) ?_;refine Fn @results51 @NO.Ze ?_;try exact ⟨⟩
 rfl
theorem rightV_c (v:Ven) (now:Int) (h:venP v now):ACall prog 113 [] [vnD v,I now] (B true) []:=by
 have hbk:=bkRight_c v.bk h.bk;have hsr:ACall prog 100 [] [NO.osD v.sent] (B true) []:=by rw[<-h.sent];exact NO.right_c _
 have hroom:=h.room;have hlast:=h.last;refine Ac func113 ?_;refine Wk @NO.Ze (An @hbk @hsr) ?_;refine Cb ?_ ?_<;>intro hc<;>(try exact ⟨⟩)
 .contradiction
 .refine Wk @NO.Ze (An @hbk @hsr) ?_;refine Cb ?_ ?_<;>intro hc<;>(try exact ⟨⟩)
  .exfalso;omega
  .refine Wk @NO.Ze (An @hbk @hsr) ?_;refine AWp.loop (fun i:Nat=>mkSt [(2,.p 0 0),(38,NO.osD v.sent),(39,I v.sent.length),(40,I i)] [(0,.loc (vnC v))] 1) (fun i=>i<=v.sent.length) (fun i=>v.sent.length - i) 0 (Nat.zero_le _) (by refine Le.of (τ:=[]) (ν:=[]) (by kernel_rfl) ?_ ?_<;>((refine Lw @NO.Ze ?_;try exact ⟨⟩);try omega)) fun i hi=>?_;refine Wk @NO.Ze (An @hbk @hsr) ?_;refine Cb ?_ ?_<;>intro hc<;>(try exact ⟨⟩)
   .have hil:i<v.sent.length:=by omega
    obtain ⟨hop,hno⟩:=h.op _ (getD_memO hil);have hhas:=has_c v.bk.ords (v.sent.getD i default).id (by omega) false hno;refine Wk (An @hno (An @hop @NO.Ze)) (An @hbk (An @hsr @hhas)) ?_;refine Cb ?_ ?_<;>intro hc<;>(try exact ⟨⟩)
    .contradiction
    .refine Wk (An @hno (An @hop @NO.Ze)) (An @hbk (An @hsr @hhas)) ?_;refine Za (i+1) (show i+1<=v.sent.length by omega) (by omega) (by refine Le.of (τ:=[]) (ν:=[]) (by kernel_rfl) ?_ ?_<;>((refine Lw (An @hno (An @hop @NO.Ze)) ?_;try exact ⟨⟩);try omega))
   .refine Wk @NO.Ze (An @hbk @hsr) ?_;refine Fn @results113 @NO.Ze ?_;try exact ⟨⟩
def qGC1:=PLift.up (An @NO.Ze @getD_vR)
theorem near_c (n:Int) (h:timeP n):ACall prog 224 [] [I n] (I n) []:=by
 unfold timeP at h;refine Ac func224 ?_;refine Wk qGC1.1 trivial ?_;refine Fn @results224 qGC1.1 ?_;try exact ⟨⟩
def stV (last:Int) (gap nr:Bool) (bad now pat:Int):Int :=
 if bad≠0 then 4 else if nr=true then 3 else if pat<now - last then 2 else if gap=true then 1 else 0
theorem vstate_c (last:Int) (gap nr:Bool) (bad now pat:Int) (h1:timeP last) (h2:timeP now) (h3:timeP pat) :
 ACall prog 181 [] [.e (.a [.v (vI last),.v (vB gap),.v (vB nr),.v (vI bad)]),I now,I pat] (I (stV last gap nr bad now pat)) []:=by
 have hn1:=near_c now h2;have hn2:=near_c last h1;have hn3:=near_c pat h3;unfold timeP at h1 h2 h3;refine Ac func181 ?_;refine Wk qGC1.1 (An @hn1 (An @hn2 @hn3)) ?_
 refine AWp.loop (fun s:Int=>mkSt [(6,I 0),(7,.p 0 0),(8,I s)] [(0,.loc [.v (vB false),.v (vB gap),.v (vB (decide (pat<now - last))),.v (vB nr),.v (vB (decide (bad≠0)))])] 1)
  (fun s=>s=4\/(s=3/\bad=0)\/(s=2/\bad=0/\nr=false)\/(s=1/\bad=0/\nr=false/\¬pat<now - last)\/(s=0/\bad=0/\nr=false/\¬pat<now - last/\gap=false)) (fun s=>s.toNat) 4 (.inl rfl) (by refine Le.of (τ:=[(0,128)]) (ν:=[]) (by kernel_rfl) ?_ ?_<;>((refine Lw qGC1.1 ?_;try exact ⟨⟩);try (first|omega|rfl|(by_cases h:bad=0<;>simp[h];done)))) fun s hs=>?_
 rcases hs with rfl|⟨rfl,ha⟩|⟨rfl,ha,hb⟩|⟨rfl,ha,hb,hd⟩|⟨rfl,ha,hb,hd,he⟩
 .refine Wk qGC1.1 (An @hn1 (An @hn2 @hn3)) ?_;refine Cb ?_ ?_<;>intro hc<;>(try exact ⟨⟩)
  .refine Wk qGC1.1 (An @hn1 (An @hn2 @hn3)) ?_;refine Cb ?_ ?_<;>intro hc<;>(try exact ⟨⟩)
   .refine Wk qGC1.1 (An @hn1 (An @hn2 @hn3)) ?_;have e:stV last gap nr bad now pat=4:=by unfold stV;rw[if_pos hc]
    rw[e];refine Fn @results181 qGC1.1 ?_;try exact ⟨⟩
   .refine Wk qGC1.1 (An @hn1 (An @hn2 @hn3)) ?_;refine Za (3:Int) (.inr (.inl ⟨rfl,by simpa using hc⟩)) (by decide) (by refine Le.of (τ:=[]) (ν:=[]) (by kernel_rfl) ?_ ?_<;>((refine Lw qGC1.1 ?_;try exact ⟨⟩);try omega))
  .contradiction
 .refine Wk qGC1.1 (An @hn1 (An @hn2 @hn3)) ?_;refine Cb ?_ ?_<;>intro hc<;>(try exact ⟨⟩)
  .refine Wk qGC1.1 (An @hn1 (An @hn2 @hn3)) ?_;refine Cb ?_ ?_<;>intro hc<;>(try exact ⟨⟩)
   .refine Wk qGC1.1 (An @hn1 (An @hn2 @hn3)) ?_;have e:stV last gap nr bad now pat=3:=by unfold stV;rw[if_neg (by simpa using ha),if_pos hc]
    rw[e];refine Fn @results181 qGC1.1 ?_;try exact ⟨⟩
   .refine Wk qGC1.1 (An @hn1 (An @hn2 @hn3)) ?_;refine Za (2:Int) (.inr (.inr (.inl ⟨rfl,ha,by simpa using hc⟩))) (by decide) (by refine Le.of (τ:=[]) (ν:=[]) (by kernel_rfl) ?_ ?_<;>((refine Lw qGC1.1 ?_;try exact ⟨⟩);try omega))
  .contradiction
 .refine Wk qGC1.1 (An @hn1 (An @hn2 @hn3)) ?_;refine Cb ?_ ?_<;>intro hc<;>(try exact ⟨⟩)
  .refine Wk qGC1.1 (An @hn1 (An @hn2 @hn3)) ?_;refine Cb ?_ ?_<;>intro hc<;>(try exact ⟨⟩)
   .refine Wk qGC1.1 (An @hn1 (An @hn2 @hn3)) ?_;have e:stV last gap nr bad now pat=2:=by unfold stV;rw[if_neg (by simpa using ha),if_neg (by rw[hb];decide),if_pos hc]
    rw[e];refine Fn @results181 qGC1.1 ?_;try exact ⟨⟩
   .refine Wk qGC1.1 (An @hn1 (An @hn2 @hn3)) ?_;refine Za (1:Int) (.inr (.inr (.inr (.inl ⟨rfl,ha,hb,hc⟩)))) (by decide) (by refine Le.of (τ:=[]) (ν:=[]) (by kernel_rfl) ?_ ?_<;>((refine Lw qGC1.1 ?_;try exact ⟨⟩);try omega))
  .contradiction
 .refine Wk qGC1.1 (An @hn1 (An @hn2 @hn3)) ?_;refine Cb ?_ ?_<;>intro hc<;>(try exact ⟨⟩)
  .refine Wk qGC1.1 (An @hn1 (An @hn2 @hn3)) ?_;refine Cb ?_ ?_<;>intro hc<;>(try exact ⟨⟩)
   .refine Wk qGC1.1 (An @hn1 (An @hn2 @hn3)) ?_;have e:stV last gap nr bad now pat=1:=by unfold stV;rw[if_neg (by simpa using ha),if_neg (by rw[hb];decide),if_neg hd,if_pos hc]
    rw[e];refine Fn @results181 qGC1.1 ?_;try exact ⟨⟩
   .refine Wk qGC1.1 (An @hn1 (An @hn2 @hn3)) ?_;refine Za (0:Int) (.inr (.inr (.inr (.inr ⟨rfl,ha,hb,hd,by simpa using hc⟩)))) (by decide) (by refine Le.of (τ:=[]) (ν:=[]) (by kernel_rfl) ?_ ?_<;>((refine Lw qGC1.1 ?_;try exact ⟨⟩);try omega))
  .contradiction
 .refine Wk qGC1.1 (An @hn1 (An @hn2 @hn3)) ?_;refine Cb ?_ ?_<;>intro hc<;>(try exact ⟨⟩)
  .contradiction
  .refine Wk qGC1.1 (An @hn1 (An @hn2 @hn3)) ?_;have e:stV last gap nr bad now pat=0:=by unfold stV;rw[if_neg (by simpa using ha),if_neg (by rw[hb];decide),if_neg hd,if_neg (by rw[he];decide)]
   rw[e];refine Fn @results181 qGC1.1 ?_;try exact ⟨⟩
theorem stI_eq (v:Ven) (now pat:Int):stV v.last v.gap (decide (256<=(v.bk.ids.length:Int)) || decide (64<=(v.bk.ords.length:Int)+v.sent.length)) v.bk.bad now pat=stI v now pat:=by
 unfold stV stI
 split
 .rfl
 .have e:((decide (256<=(v.bk.ids.length:Int)) || decide (64<=(v.bk.ords.length:Int)+v.sent.length))=true)=(256<=v.bk.ids.length\/64<=v.bk.ords.length+v.sent.length):=by
   simp only[Bool.or_eq_true,decide_eq_true_eq];apply propext;omega
  simp only[e]
theorem state_c (v:Ven) (now pat:Int) (h1:timeP v.last) (h2:timeP now) (h3:timeP pat) (hl:v.bk.ords.length<=1000000) (hs:v.sent.length<=1000000) (r:Int) (hr:stI v now pat=r):ACall prog 122 [] [vnD v,I now,I pat] (I r) []:=by
 subst hr;rw[<-stI_eq];have hvs:=vstate_c v.last v.gap (decide (256<=(v.bk.ids.length:Int)) || decide (64<=(v.bk.ords.length:Int)+v.sent.length)) v.bk.bad now pat h1 h2 h3;refine Ac func122 ?_;refine Wk qGC1.1 @hvs ?_;refine Fn @results122 qGC1.1 ?_;try exact ⟨⟩
theorem venP_now {v:Ven} {a b:Int} (h:venP v a) (hab:a<=b):venP v b:={ h with last:=⟨h.last.1,by have:=h.last.2;omega⟩ }
theorem fstI_spec {α:Type} [Inhabited α] {p:α->Bool} {l:List α} (h:0<=fstI p l):p (l.getD (fstI p l).toNat default)=true:=by
 unfold fstI at h ⊢
 cases hk:fstN p l with
 | none=>rw[hk]at h;simp at h
 | some k=>exact (fstN_spec hk).2.2
theorem hasO_false {l:List Ord} {id:ByteArray}:hasO l id=false↔NO.placeI l id<0:=by
 unfold hasO;constructor
 .intro h;rw[List.any_eq_false]at h
  have:NO.placeN id l=none:=NO.placeN_none fun i hi=>by
   have:=h (l.getD i default) (by rw[List.getD_eq_getElem?_getD,List.getElem?_eq_getElem hi];exact List.getElem_mem hi);exact eq_false_of_ne_true this
  rw[NO.placeI,this];decide
 .intro h;rw[List.any_eq_false];intro o ho;obtain ⟨i,hi,rfl⟩:=List.getElem_of_mem ho;have:=NO.placeN_spec0 (NO.placeI_none h) i hi;rw[List.getD_eq_getElem?_getD,List.getElem?_eq_getElem hi]at this;intro he;have:NO.eqN l[i] id=false:=this;rw[NO.eqN]at this;rw[eqB]at he;rw[he]at this;cases this
theorem hasO_ids {l m:List Ord} (h:l.map NO.Ord.id=m.map NO.Ord.id) (id:ByteArray):hasO l id=hasO m id:=by
 have e:∀l:List Ord,hasO l id=(l.map NO.Ord.id).any fun s=>eqB s id:=fun l=>by rw[hasO,List.any_map];rfl
 rw[e,e,h]
theorem vat_mem {g:Gat} {at_:Int} (h:isAt g at_):vat g at_∈g.vens:=by
 have hi:at_.toNat<g.vens.length:=by have:=h.1;have:=h.2;omega
 rw[vat,List.getD_eq_getElem?_getD,List.getElem?_eq_getElem hi];exact List.getElem_mem hi
theorem Yr {g:Gat} {at_:Int} {v:Ven} (h:gatP g) (hv:venP v g.now):gatP (setV g at_ v) where
 n:=by show 1<=(g.vens.set _ _).length/\(g.vens.set _ _).length<=4;rw[List.length_set];exact h.n
 lims:=h.lims
 now:=h.now
 pat:=h.pat
 vens:=fun w hw=>by
  rcases List.mem_or_eq_of_mem_set hw with hw|rfl
  .exact h.vens w hw
  .exact hv
theorem newS_ids {l:List Ord} {o:Ord} (h:(NO.newS l o).2=0):(NO.newS l o).1.map NO.Ord.id=l.map NO.Ord.id++[o.id]/\(NO.newS l o).1.length=l.length+1:=by
 unfold NO.newS at h ⊢
 split
 .rename_i hc;rw[if_pos hc]at h;exact absurd h (by simp)
 .rename_i hc;rw[if_neg hc]at h
  split
  .rename_i hc2;rw[if_pos hc2]at h;exact absurd h (by simp)
  .rename_i hc2;rw[if_neg hc2]at h
   split
   .rename_i hc3;rw[if_pos hc3]at h;exact absurd h (by simp)
   .simp[NO.nwO]
theorem changeS_ids {l:List Ord} {old id:ByteArray} {q p:Int} (h:(NO.changeS l old id q p).2=0):(NO.changeS l old id q p).1.map NO.Ord.id=l.map NO.Ord.id++[id]/\(NO.changeS l old id q p).1.length=l.length+1:=by
 unfold NO.changeS at h ⊢
 split
 .rename_i hc;rw[if_pos hc]at h;exact absurd h (by simp)
 .rename_i hc;rw[if_neg hc]at h
  split
  .rename_i hc2;rw[if_pos hc2]at h;exact absurd h (by simp)
  .rename_i hc2;rw[if_neg hc2]at h
   split
   .rename_i hc3;rw[if_pos hc3]at h;exact absurd h (by simp)
   .rename_i hc3;rw[if_neg hc3]at h
    split
    .rename_i hc4;rw[if_pos hc4]at h;exact absurd h (by simp)
    .rename_i hc4;rw[if_neg hc4]at h
     split
     .rename_i hc5;rw[if_pos hc5]at h;exact absurd h (by simp)
     .have hid:(l.set (NO.openI l old).toNat (NO.shut (l.getD (NO.openI l old).toNat default))).map NO.Ord.id=l.map NO.Ord.id:=NO.map_set_id _ _ _ rfl;refine ⟨?_,by simp⟩;rw[List.map_append,hid];rfl
theorem fillS_ids {l:List Ord} {id:ByteArray} {q p:Int}:(NO.fillS l id q p).1.map NO.Ord.id=l.map NO.Ord.id:=by
 unfold NO.fillS
 split
 .rfl
 .split
  .rfl
  .split
   .rfl
   .split
    .rfl
    .exact NO.map_set_id _ _ _ rfl
theorem closeS_ids {l:List Ord} {id:ByteArray}:(NO.closeS l id).1.map NO.Ord.id=l.map NO.Ord.id:=by
 unfold NO.closeS
 split
 .rfl
 .split
  .rfl
  .exact NO.map_set_id _ _ _ rfl
theorem apply_ids {b:Bk} {x:Exe}:(((x.kind=1\/x.kind=4)/\(applyS b x).2=0)->(applyS b x).1.ords.map NO.Ord.id=b.ords.map NO.Ord.id++[x.ord])/\((¬(x.kind=1\/x.kind=4)\/(applyS b x).2≠0)->(applyS b x).1.ords.map NO.Ord.id=b.ords.map NO.Ord.id):=by
 unfold applyS
 split
 .exact ⟨fun h=>absurd h.2 (by simp),fun _=>rfl⟩
 .split
  .split
   .rename_i hk h0;exact ⟨fun _=>(newS_ids h0).1,fun h=>absurd h (by simp[hk])⟩
   .exact ⟨fun h=>absurd h.2 (by simp),fun _=>rfl⟩
  .rename_i hk1
   split
   .rename_i hk7;refine ⟨fun h=>by omega,fun _=>?_⟩;unfold bamendS
    split
    .rfl
    .split
     .rfl
     .split
      .rfl
      .split
       .rfl
       .split
        .rfl
        .split<;>rfl
   .generalize (if x.kind=4 then x.ref else x.ord)=id
    split
    .exact ⟨fun h=>absurd h.2 (by simp),fun _=>rfl⟩
    .split
     .exact ⟨fun h=>absurd h.2 (by simp),fun _=>rfl⟩
     .split
      .rename_i hk2;refine ⟨fun h=>by omega,fun _=>?_⟩;unfold bfillS
       split
       .exact fillS_ids
       .split
        .rfl
        .split<;>rfl
      .split
       .rename_i hk4;unfold breplS
        split
        .rename_i h0;exact ⟨fun _=>(changeS_ids h0).1,fun h=>absurd h (by simp[hk4])⟩
        .split<;>exact ⟨fun h=>absurd h.2 (by simp),fun _=>rfl⟩
       .refine ⟨fun h=>by omega,fun _=>?_⟩
        split
        .exact closeS_ids
        .rfl
theorem take_ids {b:Bk} {x:Exe}:(((x.kind=1\/x.kind=4)/\(takeS b x).2=1)->(takeS b x).1.ords.map NO.Ord.id=b.ords.map NO.Ord.id++[x.ord])/\((¬(x.kind=1\/x.kind=4)\/(takeS b x).2≠1)->(takeS b x).1.ords.map NO.Ord.id=b.ords.map NO.Ord.id):=by
 have h:=@apply_ids { b with ids:=b.ids++[x.id] } x;unfold takeS
 split
 .exact ⟨fun h=>absurd h.2 (by simp),fun _=>rfl⟩
 .split
  .exact ⟨fun h=>absurd h.2 (by simp),fun _=>rfl⟩
  .split
   .rename_i h0;exact ⟨fun hk=>h.1 ⟨hk.1,h0⟩,fun hk=>h.2 (by rcases hk with hk|hk;exact .inl hk;exact absurd rfl hk)⟩
   .rename_i h0;exact ⟨fun hk=>absurd hk.2 (by simp),fun _=>h.2 (.inr h0)⟩
theorem exB_exP {x:Exe} (h:exB x=true):exP x:=by
 simp only[exB,NS.exB,exM,Bool.and_eq_true]at h;obtain ⟨_,⟨h1,h2⟩,h3⟩:=h;simp only[NS.smallB,NS.whenB,Bool.and_eq_true,decide_eq_true_eq]at h1 h2 h3;exact ⟨by simp[NO.amountB];omega,by simp[NO.amountB];omega,by omega⟩
theorem stI_zero {v:Ven} {now pat:Int} (h:stI v now pat=0):v.bk.bad=0/\v.bk.ids.length<256/\v.bk.ords.length+v.sent.length<64/\now - v.last<=pat/\v.gap=false:=by
 unfold stI at h
 split at h
 .cases h
 .split at h
  .cases h
  .split at h
   .cases h
   .split at h
    .cases h
    .rename_i h1 h2 h3 h4;exact ⟨by omega,by omega,by omega,by omega,by simpa using h4⟩
theorem why_st {g:Gat} {at_:Int} {o:Ord} (h0:0<=stI (vat g at_) g.now g.pat) (h:whyG g at_.toNat o=0):g.kill=false/\stI (vat g at_) g.now g.pat=0/\whyL g.lims o (worstG g o.acc o.sym)=0:=by
 unfold whyG at h
 split at h
 .cases h
 .rename_i hk
  split at h
  .rename_i hs;exfalso;have:stI (vat g at_) g.now g.pat=stI (g.vens.getD at_.toNat default) g.now g.pat:=rfl;omega
  .rename_i hs;exact ⟨by simpa using hk,by simpa using hs,h⟩
theorem stI_rng (v:Ven) (now pat:Int):0<=stI v now pat/\stI v now pat<=4:=by
 unfold stI
 split
 .decide
 .split
  .decide
  .split
   .decide
   .split<;>decide
theorem sent_right {v:Ven} {now:Int} {o:Ord} (h:venP v now) (hr:v.bk.ords.length+v.sent.length<64) (hm:NO.mayB o=true) (ho:o.op=true) (hk:knownV v o.id=false):venP { v with sent:=v.sent++[o] } now:=by
 simp only[knownV,Bool.or_eq_false_iff]at hk
 exact {
  bk:=h.bk
  sent:=NO.right_app h.sent (by omega) hm (hasO_false.1 hk.2)
  room:=by show _+(v.sent++[o]).length<=64;rw[List.length_append,List.length_singleton];show v.bk.ords.length+_<=64;omega
  last:=h.last
  op:=fun x hx=>by
   rcases List.mem_append.1 hx with hx|hx
   .exact h.op x hx
   .rw[List.mem_singleton]at hx;subst hx
    exact ⟨ho,hk.1⟩ }
theorem order_right {g:Gat} {at_:Int} {o:Ord} (h:gatP g):gatP (orderG g at_ o).1:=by
 unfold orderG
 split
 .exact h
 .rename_i hc;simp only[not_or,Classical.not_not,Bool.not_eq_false]at hc
  split
  .exact h
  .rename_i hk
   split
   .exact h
   .rename_i hw;obtain ⟨_,hs,_⟩:=why_st (stI_rng _ _ _).1 (Classical.not_not.1 hw);exact Yr h (sent_right (o:=newO o) (h.vens _ (vat_mem hc.1)) (stI_zero hs).2.2.1 hc.2 rfl (eq_false_of_ne_true hk))
theorem change_right {g:Gat} {at_:Int} {old id:ByteArray} {q p:Int} (h:gatP g):gatP (changeG g at_ old id q p).1:=by
 unfold changeG
 split
 .exact h
 .rename_i hc;have hc:=Classical.not_not.1 hc
  split
  .exact h
  .rename_i hf;simp only[not_or,Bool.not_eq_false]at hf
   split
   .exact h
   .rename_i hm
    split
    .exact h
    .rename_i hk
     split
     .exact h
     .rename_i hw;obtain ⟨_,hs,_⟩:=why_st (stI_rng _ _ _).1 (Classical.not_not.1 hw);exact Yr h (sent_right (o:=chgO (NO.findS (vat g at_).bk.ords old).1 id q p) (h.vens _ (vat_mem hc)) (stI_zero hs).2.2.1 (by simpa using hm) hf.2 (eq_false_of_ne_true hk))
theorem erase_right {l:List Ord} {i:Nat} (h:NO.rightB l=true):NO.rightB (l.eraseIdx i)=true:=by
 rw[NO.Zy]at h ⊢;refine ⟨Nat.le_trans (List.length_eraseIdx_le ..) h.1,fun j hj=>?_⟩;by_cases hi:i<l.length
 .have hlen:(l.eraseIdx i).length=l.length - 1:=List.length_eraseIdx_of_lt hi;by_cases hji:j<i
  .have e1:(l.eraseIdx i).getD j default=l.getD j default:=by rw[List.getD_eq_getElem?_getD,List.getD_eq_getElem?_getD,List.getElem?_eraseIdx_of_lt hji]
   have e2:(l.eraseIdx i).take j=l.take j:=by
    apply List.ext_getElem?;intro k;rw[List.getElem?_take,List.getElem?_take]
    split
    .rw[List.getElem?_eraseIdx_of_lt (by omega)]
    .rfl
   rw[e1,e2];exact h.2 j (by omega)
  .have e1:(l.eraseIdx i).getD j default=l.getD (j+1) default:=by rw[List.getD_eq_getElem?_getD,List.getD_eq_getElem?_getD,List.getElem?_eraseIdx_of_ge (by omega)]
   rw[e1];have h1:=h.2 (j+1) (by omega);refine ⟨h1.1,?_⟩;have:=h1.2;rw[<-hasO_false]at this ⊢;unfold hasO at this ⊢;rw[List.any_eq_false]at this ⊢;intro o ho;refine this o ?_;obtain ⟨k,hk,rfl⟩:=List.getElem_of_mem ho;rw[List.length_take]at hk;rw[List.getElem_take,List.getElem_eraseIdx]
   split
   .exact List.mem_take_iff_getElem.2 ⟨k,by omega,rfl⟩
   .exact List.mem_take_iff_getElem.2 ⟨k+1,by omega,rfl⟩
 .rw[List.eraseIdx_of_length_le (by omega)]at hj ⊢;exact h.2 j hj
theorem distinct_ids {l:List Ord} (h:NO.rightB l=true) {i j:Nat} (hi:i<j) (hj:j<l.length):(l.getD i default).id≠(l.getD j default).id:=by
 have:=((NO.Zy.1 h).2 j hj).2;have:=NO.placeN_spec0 (NO.placeI_none this) i (by rw[List.length_take];omega);rw[List.getD_eq_getElem?_getD,List.getElem?_take_of_lt hi,<-List.getD_eq_getElem?_getD]at this;intro e;rw[NO.eqN,e]at this;simp at this
theorem told_right {g:Gat} {at_:Int} {x:Exe} (h:gatP g):gatP (toldG g at_ x).1:=by
 unfold toldG
 split
 .exact h
 .rename_i hc;simp only[not_or,Classical.not_not,Bool.not_eq_false]at hc;have hv:=h.vens _ (vat_mem hc.1);have hx:=exB_exP hc.2;have ht:=take_right hv.bk hx;have hi:=@take_ids (vat g at_).bk x
  split
  .exact h
  .rename_i hw
   have hlt:(vat g at_).bk.bad=0/\(vat g at_).bk.ids.length<256/\x.id∉(vat g at_).bk.ids:=by
    unfold takeS at hw
    split at hw
    .exact absurd (.inr rfl) hw
    .rename_i h1
     split at hw
     .exact absurd (.inl rfl) hw
     .rename_i h2;exact ⟨by omega,by omega,fun hm=>h2 (any_eqB.2 hm)⟩
   split
   .exact Yr h {
     bk:={ ids_right hv.bk hlt.2.1 hlt.2.2 with bad:=⟨by show (0:Int)<=2;decide,by show (2:Int)<=6;decide⟩ }
     sent:=hv.sent
     room:=hv.room
     last:=hv.last
     op:=hv.op }
   .rename_i hs
    split
    .rename_i h1;have hn:0<=g.now:=h.now.1
     split
     .rename_i hk
      have hsi:0<=sentI (vat g at_).sent x:=by
       have:=fun h=>hs ⟨hk,h⟩;omega
      have hsl:=(fstI_lt (sentP x) (vat g at_).sent).2;have hids:=hi.1 ⟨hk,h1⟩
      have hlen:(takeS (vat g at_).bk x).1.ords.length=(vat g at_).bk.ords.length+1:=by
       have:=congrArg List.length hids;simpa using this
      have hil:(sentI (vat g at_).sent x).toNat<(vat g at_).sent.length:=by
       have:sentI (vat g at_).sent x<(vat g at_).sent.length:=hsl;omega
      have hat:((vat g at_).sent.getD (sentI (vat g at_).sent x).toNat default).id=x.ord:=by
       have:=fstI_spec (p:=sentP x) hsi;simp only[sentP,Bool.and_eq_true]at this;exact eqB_iff.1 this.1
      refine Yr h {
       bk:=ht
       sent:=erase_right hv.sent
       room:=?_
       last:=⟨hn,Int.le_refl _⟩
       op:=?_ }
      .have:=hv.room;show (takeS (vat g at_).bk x).1.ords.length+((vat g at_).sent.eraseIdx _).length<=64;rw[List.length_eraseIdx_of_lt hil];omega
      .intro o ho;have hmem:o∈(vat g at_).sent:=List.mem_of_mem_eraseIdx ho;refine ⟨(hv.op o hmem).1,?_⟩;have e:hasO (takeS (vat g at_).bk x).1.ords o.id=((takeS (vat g at_).bk x).1.ords.map NO.Ord.id).any fun s=>eqB s o.id:=by rw[hasO,List.any_map];rfl
       have e2:hasO (vat g at_).bk.ords o.id=((vat g at_).bk.ords.map NO.Ord.id).any fun s=>eqB s o.id:=by rw[hasO,List.any_map];rfl
       have e3:hasO (vat g at_).bk.ords o.id=false:=(hv.op o hmem).2;show hasO (takeS (vat g at_).bk x).1.ords o.id=false;rw[e,hids,List.any_append,<-e2,e3,Bool.false_or,List.any_cons,List.any_nil,Bool.or_false];rw[Bool.eq_false_iff];intro he;have he:=eqB_iff.1 he;obtain ⟨j,hj,hjo⟩:=List.mem_iff_getElem.1 ho;have hle:=List.length_eraseIdx_of_lt hil;have hj2:j<((vat g at_).sent.eraseIdx (sentI (vat g at_).sent x).toNat).length:=hj;rw[List.getElem_eraseIdx]at hjo;have getD_el:∀k (hk:k<(vat g at_).sent.length),(vat g at_).sent.getD k default=(vat g at_).sent[k]:=fun k hk=>by rw[List.getD_eq_getElem?_getD,List.getElem?_eq_getElem hk];rfl
       split at hjo
       .rename_i hlt2;refine distinct_ids hv.sent hlt2 hil ?_;rw[hat,getD_el j (by omega),hjo,he]
       .rename_i hge;refine distinct_ids hv.sent (i:=(sentI (vat g at_).sent x).toNat) (j:=j+1) (by omega) (by omega) ?_;rw[hat,getD_el (j+1) (by omega),hjo,he]
     .rename_i hk;have hids:=hi.2 (.inl hk)
      have hlen:(takeS (vat g at_).bk x).1.ords.length=(vat g at_).bk.ords.length:=by
       have:=congrArg List.length hids;simpa using this
      exact Yr h {
       bk:=ht
       sent:=hv.sent
       room:=by have:=hv.room;show (takeS (vat g at_).bk x).1.ords.length+_<=64;rw[hlen];exact this
       last:=⟨hn,Int.le_refl _⟩
       op:=fun o ho=>⟨(hv.op o ho).1,by
        have:hasO (takeS (vat g at_).bk x).1.ords o.id=hasO (vat g at_).bk.ords o.id:=hasO_ids hids _;show hasO (takeS (vat g at_).bk x).1.ords o.id=false
        rw[this];exact (hv.op o ho).2⟩ }
    .rename_i h1;have hids:=hi.2 (.inr h1)
     have hlen:(takeS (vat g at_).bk x).1.ords.length=(vat g at_).bk.ords.length:=by
      have:=congrArg List.length hids;simpa using this
     exact Yr h {
      bk:=ht
      sent:=hv.sent
      room:=by have:=hv.room;show (takeS (vat g at_).bk x).1.ords.length+_<=64;rw[hlen];exact this
      last:=hv.last
      op:=fun o ho=>⟨(hv.op o ho).1,by
       have:hasO (takeS (vat g at_).bk x).1.ords o.id=hasO (vat g at_).bk.ords o.id:=hasO_ids hids _;show hasO (takeS (vat g at_).bk x).1.ords o.id=false
       rw[this];exact (hv.op o ho).2⟩ }
theorem limit_right {g:Gat} {x:NA.Lim} (h:gatP g):gatP (limitG g x).1:=by
 unfold limitG
 split
 .rename_i h0
  exact {
   n:=h.n
   lims:=by
    show NA.rightP (NA.setL g.lims x).1;by_cases hm:NA.mayL x=true
    .by_cases hf:NA.foundL g.lims x=true
     .rw[NA.setL_found h.lims hm hf];exact NA.right_set h.lims hm hf
     .by_cases hl:g.lims.length=32
      .rw[NA.setL_full h.lims hm hf hl]at h0;cases h0
      .rw[NA.setL_ins h.lims hm hf hl];exact NA.right_ins h.lims hm hf hl
    .rw[NA.setL_bad fun h=>hm h.2]at h0;cases h0
   now:=h.now
   pat:=h.pat
   vens:=h.vens }
 .exact h
theorem kill_right {g:Gat} {on:Bool} (h:gatP g):gatP (killG g on).1:=⟨h.n,h.lims,h.now,h.pat,h.vens⟩
theorem tick_right {g:Gat} {now:Int} (h:gatP g):gatP (tickG g now).1:=by
 unfold tickG
 split
 .exact h
 .rename_i hc;have:=h.now;unfold timeP at this;exact { n:=h.n,lims:=h.lims,now:=by unfold timeP;dsimp only;omega,pat:=h.pat,vens:=fun v hv=>venP_now (h.vens v hv) (show g.now<=now by omega) }
theorem gap_right {g:Gat} {at_:Int} {gap:Bool} (h:gatP g):gatP (gapG g at_ gap).1:=by
 unfold gapG
 split
 .rename_i hc;have hv:=h.vens _ (vat_mem hc);exact Yr h { hv with }
 .exact h
theorem reset_right {g:Gat} {at_:Int} (h:gatP g):gatP (resetG g at_).1:=by
 unfold resetG
 split
 .rename_i hc
  split
  .exact h
  .have hv:=h.vens _ (vat_mem hc);exact Yr h { hv with bk:={ hv.bk with bad:=⟨by show (0:Int)<=0;decide,by show (0:Int)<=6;decide⟩ } }
 .exact h
def qGD1:=PLift.up (An @NO.Ze (An @getD_vR @List.take_length.{0}))
theorem gateR_c (g:Gat) (h:gatP g):ACall prog 45 [] [gtD g] (B true) []:=by
 have hlr:=NA.rightYes_c g.lims h.lims;have ht1:=isTime_c g.now h.now;have ht2:=isTime_c g.pat h.pat
 have hn:=h.n;refine Ac func45 ?_;refine Wk qGD1.1 (An @hlr (An @ht1 @ht2)) ?_;refine Cb ?_ ?_<;>intro hc<;>(try exact ⟨⟩)
 .exfalso;omega
 .refine Wk qGD1.1 (An @hlr (An @ht1 @ht2)) ?_;refine Cb ?_ ?_<;>intro hc<;>(try exact ⟨⟩)
  .contradiction
  .refine Wk qGD1.1 (An @hlr (An @ht1 @ht2)) ?_;refine AWp.loop (fun i:Nat=>mkSt [(1,.p 0 0),(32,.e (.c (.v (.s 8 (vR g.vens))))),(33,I g.vens.length),(34,I i)] [(0,.loc (gtC g))] 1) (fun i=>i<=g.vens.length) (fun i=>g.vens.length - i) 0 (Nat.zero_le _) (by refine Le.of (τ:=[]) (ν:=[]) (by kernel_rfl) ?_ ?_<;>((refine Lw qGD1.1 ?_;try exact ⟨⟩);try omega)) fun i hi=>?_;refine Wk qGD1.1 (An @hlr (An @ht1 @ht2)) ?_;refine Cb ?_ ?_<;>intro hc<;>(try exact ⟨⟩)
   .have hil:i<g.vens.length:=by omega
    have hrv:=rightV_c _ g.now (h.vens _ (Ya hil));refine Wk qGD1.1 (An @hlr (An @ht1 (An @ht2 @hrv))) ?_;refine Cb ?_ ?_<;>intro hc<;>(try exact ⟨⟩)
    .contradiction
    .refine Wk qGD1.1 (An @hlr (An @ht1 (An @ht2 @hrv))) ?_;refine Za (i+1) (show i+1<=g.vens.length by omega) (by omega) (by refine Le.of (τ:=[]) (ν:=[]) (by kernel_rfl) ?_ ?_<;>((refine Lw qGD1.1 ?_;try exact ⟨⟩);try omega))
   .refine Wk qGD1.1 (An @hlr (An @ht1 @ht2)) ?_;refine Fn @results45 qGD1.1 ?_;try exact ⟨⟩
theorem isAt_c (g:Gat) (at_:Int) (h:gatP g) (r:Bool) (hr:decide (isAt g at_)=r):ACall prog 49 [] [gtD g,I at_] (B r) []:=by
 subst hr;have hri:=gateR_c g h;refine Ac func49 ?_;refine Wk qGD1.1 @hri ?_;refine Fn @results49 qGD1.1 ?_;try exact ⟨⟩
 rw[Bool.eq_iff_iff];simp only[isAt,Bool.and_eq_true,decide_eq_true_eq];exact decide_eq_true_iff
theorem pend_sm {l:List Ord} {a s:ByteArray} (h:NO.rightB l=true):smW 1200000000000000 (pendW l a s):=by
 have hl:=(NO.Zy.1 h).1
 have:=sumW_sm (pndW a s) l l.length (by omega) fun o ho=>by
  have:=pnd_rng (a:=a) (s:=s) (mem_may h o ho);unfold smW;omega
 rwa [List.take_length]at this
theorem of_sm {b:Bk} {a s:ByteArray} (h:bkP b):smW 2400000000000000 (ofW b a s):=by
 have hfl:=h.fl;have hol:=(NO.Zy.1 h.ords).1;have h1:=sumW_sm (filW b a s) b.fills b.fills.length (by omega) fun f hf=>fil_sm (h.fills f hf).1;have h2:=sumW_sm (ordW a s) b.ords b.ords.length (by omega) fun o _=>ord_sm;rw[List.take_length]at h1 h2;exact sm_add h1 h2
abbrev venW (a s:ByteArray) (v:Ven):Int×Int:=addW (ofW v.bk a s) (pendW v.sent a s)
theorem vens_sm {g:Gat} {a s:ByteArray} (h:gatP g) (n:Nat):smW 15000000000000000 (sumW ((g.vens.take n).map (venW a s))):=by
 have h1:=sumW_le 3600000000000000 ((g.vens.take n).map (venW a s)) fun x hx=>by
  obtain ⟨v,hv,rfl⟩:=List.mem_map.1 hx;have hp:=h.vens v (List.mem_of_mem_take hv);exact sm_add (of_sm hp.bk) (pend_sm hp.sent)
 have hn:=h.n.2;rw[List.length_map,List.length_take]at h1;have:min n g.vens.length*3600000000000000<=4*3600000000000000:=Nat.mul_le_mul (by omega) (Nat.le_refl _);unfold smW;omega
theorem worst_c (g:Gat) (a s:ByteArray) (h:gatP g):ACall prog 46 [] [gtD g,StD a,StD s] (wD (worstG g a s)) []:=by
 have hn:=h.n;refine Ac func46 ?_;refine Wk qGD1.1 trivial ?_
 refine AWp.loop (fun i:Nat=>mkSt [(1,StD a),(2,StD s),(6,.p 0 0),(7,.p 1 0),(11,.e (.c (.v (.s 8 (vR g.vens))))),(12,I g.vens.length),(13,I i)] [(0,.loc (wC (0,0))),(1,.loc (wC (sumW ((g.vens.take i).map (venW a s)))))] 2)
  (fun i=>i<=g.vens.length) (fun i=>g.vens.length - i) 0 (Nat.zero_le _) (by refine Le.of (τ:=[(0,64),(1,128)]) (ν:=[]) (by kernel_rfl) ?_ ?_<;>((refine Lw qGD1.1 ?_;try exact ⟨⟩);try (first|omega|rfl|exact ⟨rfl,rfl⟩))) fun i hi=>?_
 refine Wk qGD1.1 trivial ?_;refine Cb ?_ ?_<;>intro hc<;>(try exact ⟨⟩)
 .have hil:i<g.vens.length:=by omega
  have hp:=h.vens _ (Ya hil);have hz:=sumW_take (venW a s) g.vens i hil;have hsm:=vens_sm (a:=a) (s:=s) h i;generalize hS:sumW ((g.vens.take i).map (venW a s))=S at hz hsm;have hb1:=hS;have hof:=of_c (g.vens.getD i default).bk a s hp.bk;have hpend:=pend_c (g.vens.getD i default).sent a s hp.sent;have hp1:=plus_c S (ofW (g.vens.getD i default).bk a s) (sm_ok hsm (by decide)) (sm_ok (of_sm hp.bk) (by decide));have hp2:=plus_c (addW S (ofW (g.vens.getD i default).bk a s)) (pendW (g.vens.getD i default).sent a s) (sm_ok (sm_add hsm (of_sm hp.bk)) (by decide)) (sm_ok (pend_sm hp.sent) (by decide));have hb2:sumW ((g.vens.take (i+1)).map (venW a s))=addW (addW S (ofW (g.vens.getD i default).bk a s)) (pendW (g.vens.getD i default).sent a s):=by rw[hz];simp only[venW,addW,Prod.mk.injEq];omega
  refine Wk (An @hb1 (An @hb2 qGD1.1)) (An @hof (An @hpend (An @hp1 @hp2))) ?_;refine Za (i+1) (show i+1<=g.vens.length by omega) (by omega) (by refine Le.of (τ:=[]) (ν:=[]) (by kernel_rfl) ?_ ?_<;>((refine Lw (An @hb1 (An @hb2 qGD1.1)) ?_;try exact ⟨⟩);try (first|omega|rfl)))
 .have e:i=g.vens.length:=by omega
  subst e;refine Wk qGD1.1 trivial ?_;refine Fn @results46 qGD1.1 ?_;try exact ⟨⟩
  exact ⟨rfl,rfl⟩
theorem gworst_c (g:Gat) (a s:ByteArray) (h:gatP g):ACall prog 13 [] [gtD g,StD a,StD s] (wD (worstG g a s)) []:=by
 have hri:=gateR_c g h;have hw:=worst_c g a s h;refine Ac func13 ?_;refine Wk qGD1.1 (An @hri @hw) ?_;refine Cb ?_ ?_<;>intro hc<;>(try exact ⟨⟩)
 .contradiction
 .refine Wk qGD1.1 (An @hri @hw) ?_;refine Fn @results13 qGD1.1 ?_;try exact ⟨⟩
theorem lwhy_c (l:List NA.Lim) (o:Ord) (w:Int×Int) (hl:NA.rightP l) (hw:okW w):ACall prog 22 [] [NA.lsD l,NO.oD o,wD w] (I (whyL l o w)) []:=by
 unfold okW at hw;exact NA.why_c l (oA o) w.1 w.2 _ _ (NA.getYes_c l o.acc o.sym _ _ hl rfl) (by omega) (by omega)
theorem why_c (g:Gat) (at_:Nat) (o:Ord) (h:gatP g) (hat:at_<g.vens.length):ACall prog 52 [] [gtD g,I at_,NO.oD o] (I (whyG g at_ o)) []:=by
 have hp:=h.vens _ (Ya hat);have hlast:=hp.last;have hnow:=h.now;have hroom:=hp.room;have hst:=state_c (g.vens.getD at_ default) g.now g.pat (by unfold timeP at hnow ⊢;omega) h.now h.pat (by omega) (by omega) _ rfl;have hw:=worst_c g o.acc o.sym h;have hsm:=vens_sm (a:=o.acc) (s:=o.sym) h g.vens.length;rw[List.take_length]at hsm;have hwhy:=lwhy_c g.lims o (worstG g o.acc o.sym) h.lims (sm_ok hsm (by decide));have hrng:=stI_rng (g.vens.getD at_ default) g.now g.pat
 unfold whyG;generalize hS:stI (g.vens.getD at_ default) g.now g.pat=st at hst hrng;refine Ac func52 ?_;refine Wk qGD1.1 (An @hst (An @hw (An @hwhy @lets_c))) ?_;refine Cb ?_ ?_<;>intro hc<;>(try exact ⟨⟩)
 .rw[if_pos hc];refine Wk qGD1.1 (An @hst (An @hw (An @hwhy @lets_c))) ?_;refine Fn @results52 qGD1.1 ?_;try exact ⟨⟩
 .rw[if_neg (by rw[hc];decide)];refine Wk qGD1.1 (An @hst (An @hw (An @hwhy @lets_c))) ?_;refine Cb ?_ ?_<;>intro hc<;>(try exact ⟨⟩)
  .rw[if_pos (by simpa using hc)];refine Wk qGD1.1 (An @hst (An @hw (An @hwhy @lets_c))) ?_;refine Fn @results52 qGD1.1 ?_;try exact ⟨⟩
  .rw[if_neg (by simpa using hc)];refine Wk qGD1.1 (An @hst (An @hw (An @hwhy @lets_c))) ?_;refine Fn @results52 qGD1.1 ?_;try exact ⟨⟩
section
variable {P:Program} {own0 mt:Nat->Prop} {w0 w:World} {ρ:Nat->Option Pl} {H:Nat->Option Blk}
theorem overlaps_run {tS tR e:TypeId} {te:Ty} (ht:P.underlying tS=some (.slice e)) (hte:TyOk P e te) (hsz:te.size≠0) (h1:te.size≠1) (hm:Mem own0 mt w0 ρ H w) {r r':Nat} (hne:r≠r') {r1 rows:List (List V)} {c:Nat} (h0:H r=some (.row te.size r1)) (hr:H r'=some (.full te.size rows c))
 {n off m:Nat} (hn:0<n) (hz:0<m) {u v:Value} (hu:RepD w (Ow own0 ρ H) ρ (.e (.c (.o r n))) u) (hv:RepD w (Ow own0 ρ H) ρ (.u r' te.size off m) v) :
 (Extern.SlicesOverlaps.overlaps #[tS,tS] #[tR] #[u,v]).run P w=.ok (.bool false) w:=by
 have hsize:=Zr (P:=P) hte;obtain ⟨p,hp,hu⟩:=hu;obtain ⟨p',hp',hv⟩:=hv;have hb0:=hm.blks r _ h0;have hb1:=hm.blks r' _ hr;obtain ⟨_,q,hq,hb0⟩:=hb0;rw[hp]at hq;cases hq;obtain ⟨⟨_,q,hq,hb1⟩,_⟩:=hb1;rw[hp']at hq;cases hq
 cases p with
 | nil=>obtain ⟨rfl,_⟩:=hu;omega
 | blk b base cap =>
  obtain ⟨rfl,_⟩:=hu
  cases p' with
  | nil=>obtain ⟨rfl,_⟩:=hv;omega
  | blk b' base' cap' =>
   obtain ⟨hle,a,c',rfl,hmc,ha⟩:=hv;have:=ha hz;subst this;obtain ⟨hcap,vs,T,fr,hh,hf,h2,_⟩:=hb0;obtain ⟨hcap',vs',T',fr',hh',hf',h2',_⟩:=hb1;have hbb:b≠b':=hm.inj r r' _ _ _ _ _ _ (by rw[h0];rfl) (by rw[hr];rfl) hp hp' hne
   have hfr:fr.1=fr.2:=by
    rcases hf.2 with h|h
    .exact absurd h h1
    .exact h
   have fz:∀o,w.frozen? ⟨b,o,none⟩=false:=fun o=>by
    simp only[World.frozen?,hh];obtain ⟨lo,hi⟩:=fr;simp only at hfr;simp;omega
   have hpos:vs'.size≠0:=by
    have hm1:1<=cap':=by omega
    have:=Nat.mul_le_mul hm1 (show 1<=te.size by omega);omega
   exact Lib.run_overlaps_apart w tS tR e ht te.size hsize ⟨b,base,none⟩ ⟨b',base'+off*te.size,none⟩ n cap m c' hbb T T' vs.size vs'.size (by simp[World.shape?,hh]) (by simp[World.shape?,hh']) hpos (fz _) (fz _)
theorem tn1 (n:Nat):((n:Int)+1).toNat=n+1:=by omega
theorem tn2 (a i:Nat):((a:Int)+1 - (i:Int)).toNat=a+1 - i:=by omega
theorem put_mid {rows A B new old:List (List V)} {n:Nat} (h:rows=A++(old++B)) (hn:A.length=n) (hl:old.length=new.length):putRows rows n new=A++(new++B):=by
 subst h hn;unfold putRows splice;rw[<-hl,List.take_left,List.append_assoc];congr 2;rw[List.drop_append,List.drop_of_length_le (by omega),List.nil_append,show A.length+old.length - A.length=old.length by omega,List.drop_left]
theorem drop_all (rows:List (List V)) (i:Nat):(rows.drop i).take (rows.length - i)=rows.drop i:=List.take_of_length_le (by simp)
theorem ins1 (rows:List (List V)) (x z:List V) (i:Nat) (hi:i<rows.length):putRows (rows.take i++List.replicate (rows.length+1 - i) z) i [x]=rows.take i++x::List.replicate (rows.length - i) z:=by
 rw[put_mid (A:=rows.take i) (old:=[z]) (B:=List.replicate (rows.length - i) z) (by rw[show rows.length+1 - i=(rows.length - i)+1 by omega,List.replicate_succ];simp) (by simp;omega) (by simp)];simp
theorem ins2 (rows:List (List V)) (x z:List V) (i:Nat) (hi:i<rows.length):putRows (rows.take i++x::List.replicate (rows.length - i) z) (i+1) ((rows.drop i).take (rows.length - i))=rows.take i++x::rows.drop i:=by
 rw[drop_all,put_mid (A:=rows.take i++[x]) (old:=List.replicate (rows.length - i) z) (B:=[]) (by simp) (by simp;omega) (by simp)];simp
theorem ins3 (rows:List (List V)) (i:Nat) (hi:i<rows.length):putRows rows (i+1) ((rows.drop i).take (rows.length - i))=rows.take (i+1)++rows.drop i:=by
 rw[drop_all];unfold putRows splice;have h:rows.drop (i+1+(rows.drop i).length)=[]:=List.drop_of_length_le (by simp;omega);rw[h,List.append_nil]
theorem ins4 (rows:List (List V)) (x:List V) (i:Nat) (hi:i<rows.length):putRows (rows.take (i+1)++rows.drop i) i [x]=rows.take i++x::rows.drop i:=by
 rw[put_mid (A:=rows.take i) (old:=[rows[i]]) (B:=rows.drop i) (by rw[<-List.take_append_getElem hi,List.append_assoc]) (by simp;omega) (by simp)];simp
end
namespace NA
theorem overlaps_x (rows:List (List V)) (x:List V) (c i:Nat) (hi:i<rows.length) (hc:rows.length+1<=c):XCall prog 177 [.row 6 [x],.full 6 rows c] [.e (.c (.o 0 1)),.u 1 6 (i+1) (rows.length - i)] (B false) [.row 6 [x],.full 6 rows c]:=by
 intro own0 w ρ vs hm ha
 match vs,ha with
 | [u,v],⟨h1,h2,_⟩ =>
  have hte:=tG_ok _ _ tl48.1;have hs:ty48.size=6:=tl48.2.1;refine ⟨.bool false,ρ,?_,Sub.refl _,rep_x_mk rfl,hm⟩;show (callFunc 177 #[u,v]).run prog w=_
  rw[run_callFunc_extern func177 (by kernel_rfl) (by kernel_rfl) (by kernel_rfl) (e:=Extern.SlicesOverlaps.overlaps #[33,33] #[4]) (by kernel_rfl),
   overlaps_run (P:=prog) (tS:=33) (tR:=4) (e:=48) (by kernel_rfl) hte (by rw[hs];decide) (by rw[hs];decide) hm (r:=0) (r':=1) (by decide) (r1:=[x]) (rows:=rows) (c:=c) (by rw[hs];rfl) (by rw[hs];rfl) (n:=1) (off:=i+1) (m:=rows.length - i) (by omega) (by omega) h1 (by rw[hs];exact h2)]
  rfl
theorem zAI13 {R G:Prop} (k:R) (h:Box R->G:=by
 intro k;simp (disch:=omega) only[↓reduceIte,Zx,Nat.reduceEqDiff,Nat.reduceAdd,if_true,if_false,reduceCtorEq,eq_self,Nat.reduceBEq,nO_eq,oF_eq,Nat.reduceBEq,Bool.true_or,Bool.false_or,Bool.or_false,Z8,Zn,List.length_singleton,hmin1,hmin2,hmin3,hin,e1,e2,e3,e4,Int.toNat_natCast,tn1,tn2,Nat.add_sub_add_right,Nat.min_self,List.length_append,List.length_take,List.length_replicate,List.length_drop,List.length_cons,Nat.min_eq_left,Int.natCast_one,Int.cast_ofNat_Int,List.getElem?_cons_succ,List.getElem?_nil,List.drop_length,List.take_length,List.take_succ_cons,List.take_nil,List.take_zero,tl2,tl3,tl4,tl33,tl48]
 all_goals exact k.out):G:=h ⟨k⟩
theorem zAI12 {R G:Prop} (k:R) (h:Box R->G:=by
 intro k;change Fin _ _ _ _ _ _;simp only[fe_all,id_eq,Nat.reduceLeDiff,↓reduceIte,Zx,Nat.reduceEqDiff,Nat.reduceAdd,if_true,if_false,reduceCtorEq,eq_self,Nat.reduceBEq,results118,tl2,tl3,tl4,tl33,tl48]
 all_goals exact k.out):G:=h ⟨k⟩
theorem zAI11 {R G:Prop} (k:R) (h:Box R->G:=by
 intro k
 repeat' (first|((fail_if_success clear hK);change AWp _ _ _ _ _ _;first|refine AWp.seq ?_|refine AWp.text (own:=(oF [0,177])) tG_ok (by kernel_rfl) (fun K hK=>?_)|refine AWp.draw (own:=(oF [0,177])) tG_ok mixed (by kernel_rfl) (by kernel_rfl) (fun K hK=>?_)|refine AWp.skip ?_|refine AWp.ret ?_|refine AWp.exit ?_|refine AWp.label ?_|refine AWp.block ?_)|(revert hK;intro hK;first|(with_reducible refine hK _ _ _ ?_;clear hK K)|(with_reducible refine hK _ _ _ ?_ ?_;(focus kernel_rfl);clear hK K)|((with_reducible change CallS _ _ _ _ _ _);(first|refine CallS.ext (overlaps_x rows x c i hi (by omega)) ?_))|(with_reducible refine And.intro ?_ ?_)|(simp (disch:=omega) only[↓reduceIte,Zo,backT,pos,idsB,idsC,nodup,live,makeSliceE,viewE,viewFE,appendUE,appendFE,capFE,copyE,copySrc,clearE,guardB,isNilOp,nilS,withTy,splice,lenE,appendE,sliceE,boundE,indexAddrE,indexE,buildE,fillE,buildSliceE,partsE,builtinE,minE,minI,convE,convHE,appendNE,capE,D.x,id_eq,eq_self,if_true,if_false,ne_eq,implies_true,Nat.reduceAdd,Nat.reduceMul,Nat.reduceSub,Nat.reduceEqDiff,Nat.reduceLT,Nat.reduceLeDiff,reduceCtorEq,nO_eq,oF_eq,Nat.reduceBEq,Bool.true_or,Bool.false_or,Bool.or_false,Z8,Zn,List.length_singleton,hmin1,hmin2,hmin3,hin,e1,e2,e3,e4,Int.toNat_natCast,tn1,tn2,Nat.add_sub_add_right,Nat.min_self,List.length_append,List.length_take,List.length_replicate,List.length_drop,List.length_cons,Nat.min_eq_left,Int.natCast_one,Int.cast_ofNat_Int,List.getElem?_cons_succ,List.getElem?_nil,List.drop_length,List.take_length,List.take_succ_cons,List.take_nil,List.take_zero,true_and,tl2,tl3,tl4,tl33,tl48])|(first|omega|(intro hq;(try simp only[Zf,ne_eq,Bool.not_not,Bool.and_true]at hq);first|omega|assumption|(simp_all;done))|(simp_all;done))|(intro (bn:Bool) hbn)))
 all_goals exact k.out):G:=h ⟨k⟩
theorem insert_c (rows:List (List V)) (x:List V) (i:Nat) (hr:∀r,r∈rows->r.length=6) (hx:x.length=6) (hi:i<=rows.length) (hn:rows.length<=1000) :
 ACall prog 118 [.row 6 rows,.row 6 [x]] [.e (.c (.o 0 rows.length)),I i,.e (.c (.o 1 1))] (.e (.c (.o 2 (rows.length+1)))) [.gone,.gone,.row 6 (rows.take i++x::rows.drop i)]:=by
 rcases Nat.lt_or_eq_of_le hi with hi|rfl
 .have hmin1:min (rows.length+1 - i) 1=1:=by omega
  have hmin2:min (rows.length - i) (rows.length+1 - i)=rows.length - i:=by omega
  have hmin3:min i rows.length=i:=by omega
  have hin:i+(rows.length+1 - i)=rows.length+1:=by omega
  have e1:=fun z=>ins1 rows x z i hi;have e2:=fun z=>ins2 rows x z i hi;have e3:=ins3 rows i hi;have e4:=ins4 rows x i hi;refine ACall.room fun c hc=>?_;refine Ac func118 ?_;refine zAI11 ?_;refine Cb ?_ ?_<;>intro hc<;>(try exact ⟨⟩)
  .omega
  .refine zAI11 ?_;refine Cb ?_ ?_<;>intro hc<;>(try exact ⟨⟩)
   .omega
   .refine zAI11 ?_;refine Cb ?_ ?_<;>intro hc<;>(try exact ⟨⟩)
    .refine zAI11 ?_;refine zAI12 ?_;refine ⟨[1858],[(2,1858)],[],by kernel_rfl,?_,?_⟩<;>((first|exact zAI13 trivial|refine zAI13 ?_);try omega)
    .refine zAI11 ?_;refine Cb ?_ ?_<;>intro hc<;>(try exact ⟨⟩)
     .refine zAI11 ?_;refine zAI12 ?_;refine ⟨[0],[(2,0)],[],by kernel_rfl,?_,?_⟩<;>((first|exact zAI13 trivial|refine zAI13 ?_);try omega)
     .contradiction
 .have hmin1:True:=trivial;have hmin2:True:=trivial;have hmin3:True:=trivial;have hin:True:=trivial;have e1:True:=trivial;have e2:True:=trivial;have e3:True:=trivial;have e4:True:=trivial;refine Ac func118 ?_;refine zAI11 ?_;refine Cb ?_ ?_<;>intro hc<;>(try exact ⟨⟩)
  .omega
  .refine zAI11 ?_;refine Cb ?_ ?_<;>intro hc<;>(try exact ⟨⟩)
   .refine zAI11 ?_;refine zAI12 ?_;refine ⟨[1090],[(2,1090)],[],by kernel_rfl,?_,?_⟩<;>((first|exact zAI13 trivial|refine zAI13 ?_);try omega)
   .first|contradiction|(simp at hc;done)
end NA
end Eng
end Go.Proofs.YtgenjpingdkmgaaGreatDoor
